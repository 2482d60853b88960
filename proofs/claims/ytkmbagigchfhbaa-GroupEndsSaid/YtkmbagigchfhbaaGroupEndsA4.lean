/- GroupEnds, at every input: proved over a checked abstract run of the translated code; no condition. A part. -/
import Derived.Test.YtkmbagigchfhbaaChecked
import Derived.Test.YtkmbagigchfhbaaG3
namespace Sg
def look {α : Type} : List (Nat × α) → Nat → Option α
  | [], _ => none
  | (k, a) :: l, n => if k = n then some a else look l n
def cxOf (l : List (Nat × Nat)) : Cx where
  fm := fun n => (look l n).getD 0
  tm := fun n => n
def plQ : Option Nat → Bool
  | some j => decide (j < 3000)
  | none => true
def rfQ (F : F) (j : Nat) : Bool := F.own.isNone && nsC j F.body && decide (j < 1000)
def okTab (P : Go.Program) (cx : Cx) (tab : List (Nat × Fn)) : List (Nat × Fn) → Bool
  | [] => true
  | (k, .code F) :: l => okF P cx (look tab) (cx.fm k) F && okTab P cx tab l
  | (k, .codeR F j) :: l => okF P cx (look tab) (cx.fm k) F && rfQ F j && okTab P cx tab l
  | (_, .prim o _) :: l => plQ o && okTab P cx tab l
theorem look_mem {α : Type} : ∀ {l : List (Nat × α)} {n : Nat} {a : α}, look l n = some a → (n, a) ∈ l
  | (k, b) :: l, n, a, h => by
    simp only [look] at h
    split at h
    · rename_i e; subst e; simp only [Option.some.injEq] at h; subst h; exact List.mem_cons_self
    · exact List.mem_cons_of_mem _ (look_mem h)
  | [], n, a, h => by simp [look] at h
def fnQ (P : Go.Program) (cx : Cx) (tab : List (Nat × Fn)) (k : Nat) : Fn → Prop
  | .code F => okF P cx (look tab) (cx.fm k) F = true
  | .codeR F j => okF P cx (look tab) (cx.fm k) F = true ∧ rfQ F j = true
  | .prim o _ => plQ o = true
theorem okTab_spec {P : Go.Program} {cx : Cx} {tab : List (Nat × Fn)} : ∀ {l : List (Nat × Fn)}, okTab P cx tab l = true → ∀ k f, (k, f) ∈ l → fnQ P cx tab k f
  | (k', g) :: l, h, k, f, hm => by
    have h2 : fnQ P cx tab k' g ∧ okTab P cx tab l = true := by
      cases g <;> simp only [okTab, Bool.and_eq_true] at h
      · exact h
      · exact h
      · exact ⟨h.1, h.2⟩
    simp only [List.mem_cons, Prod.mk.injEq] at hm
    rcases hm with ⟨rfl, rfl⟩ | hm
    · exact h2.1
    · exact okTab_spec h2.2 k f hm
  | [], h, k, f, hm => by simp at hm
theorem tab_sound {P : Go.Program} {cx : Cx} {tab : List (Nat × Fn)} (hm : P.follows .mixedOrders = true) (hok : okTab P cx tab tab = true)
    (hprim : ∀ f own p, look tab f = some (.prim own p) → ∀ args r, p args = some r → Ctr P cx own f args r)
    (hins : ∀ f z p, z < 1000 → look tab f = some (.prim (some (1000 + z)) p) → ∃ tS el, InsC P (cx.fm f) z tS el) (hdel : ∀ f z p, look tab f = some (.prim (some (2000 + z)) p) → DelC P (cx.fm f) z)
    (n f : Nat) (args : List V) (r : V) (h : callN (look tab) n f args = some r) : Ctr P cx (ownOf (look tab) f) f args r :=
  (callN_soundR hm (fun f F hf => okTab_spec hok f _ (look_mem hf)) hprim hins hdel (fun f F k hf => by
    have h1 : fnQ P cx tab f (.codeR F k) := okTab_spec hok f _ (look_mem hf)
    have h2 := h1.2
    simp only [rfQ, Bool.and_eq_true, Option.isNone_iff_eq_none] at h2
    exact ⟨h1.1, h2.1.1, h2.1.2⟩) (fun f own p hf k hk ho => by
    have h1 : fnQ P cx tab f (.prim own p) := okTab_spec hok f _ (look_mem hf)
    subst ho
    simp only [fnQ, plQ, decide_eq_true_eq] at h1
    omega) n f args r h).1
end Sg
namespace Sg
open _root_.Go (IntKind BinOp UnOp)
def r35_0 : List Op := [t_ 0 <|.mov (cb false)]
def r35_1 : List Op := [f_ 7 <|.mks 1 2 [.int .i64 0] [(0, .c (.int .i64 1)), (1, .c (.int .i64 2))],f_ 8 <|.call (.k 43) .no none [.c (.int .i64 1), .l 0, .c (.str [120])],f_ 6 <|.mov (.l 1),f_ 9 <|.ext (.l 2) 0,f_ 10 <|.ext (.l 2) 1,t_ 1 <|.alloc [.int .i64 0, .int .i64 0, .slice 1 [], .int .i64 0, .str [], .str [], .slice 1 []],u_ <|.store (.v 1) 7 (.l 5) (.l 3),t_ 2 <|.mov (.l 4)]
def r35_2 : List Op := [f_ 12 <|.load (.v 1) (some 7) (.g 1),f_ 13 <|.call (.k 47) .no none [.l 0, .c (.str [121])],f_ 11 <|.mov (.l 1),f_ 14 <|.ext (.l 2) 0,f_ 15 <|.ext (.l 2) 1,f_ 16 <|.ext (.l 2) 2,t_ 3 <|.alloc [.int .i64 0, .int .i64 0, .slice 1 [], .int .i64 0, .str [], .str [], .slice 1 []],u_ <|.store (.v 3) 7 (.l 6) (.l 3),t_ 4 <|.mov (.l 4),t_ 5 <|.mov (.l 5)]
def r35_3 : List Op := [f_ 17 <|.mov (.g 2),f_ 18 <|.bin .eql (.l 0) (ci 0),f_ 19 <|.mov (.l 1),y_ 20 2 <|.mov (.g 5),y_ 21 2 <|.bin .eql (.l 3) (ci 0),f_ 22 <|.pick (.l 2) (.l 4) (cb false),f_ 23 <|.mov (.l 5),y_ 24 6 <|.mov (.g 4),y_ 25 6 <|.len false (.l 7),y_ 26 6 <|.bin .eql (.l 8) (ci 1),f_ 27 <|.pick (.l 6) (.l 9) (cb false),f_ 28 <|.mov (.l 10),y_ 29 11 <|.mov (.g 4),y_ 30 11 <|.iad 7 (.l 12) (ci 0),y_ 31 11 <|.fad (.l 13) 2,y_ 32 11 <|.load (.c) none (.l 14),y_ 33 11 <|.bin .eql (.l 15) (ci 2),f_ 34 <|.pick (.l 11) (.l 16) (cb false),f_ 35 <|.mov (.l 17),y_ 36 18 <|.mov (.g 4),y_ 37 18 <|.iad 7 (.l 19) (ci 0),y_ 38 18 <|.fad (.l 20) 6,y_ 39 18 <|.load (.c) none (.l 21),y_ 40 18 <|.bin .eql (.l 22) (.c (.str [121])),f_ 41 <|.pick (.l 18) (.l 23) (cb false),f_ 42 <|.mov (.l 24),y_ 43 25 <|.fad (.g 3) 4,y_ 44 25 <|.load (.v 3) none (.l 26),y_ 45 25 <|.bin .eql (.l 27) (.c (.str [120])),f_ 46 <|.pick (.l 25) (.l 28) (cb false),f_ 47 <|.mov (.l 29),y_ 48 30 <|.load (.v 3) (some 7) (.g 3),y_ 49 30 <|.call (.k 41) .no none [.l 31],f_ 50 <|.pick (.l 30) (.l 32) (cb false),f_ 51 <|.mov (.l 33),y_ 52 34 <|.load (.v 1) (some 7) (.g 1),y_ 53 34 <|.call (.k 40) .no none [.l 35],f_ 54 <|.pick (.l 34) (.l 36) (cb false),t_ 0 <|.mov (.l 37)]
def c35 : C := .seq (.region false r35_0) (.seq (.region false r35_1) (.seq (.region false r35_2) (.seq (.region false r35_3) (.ret))))
def F35 : F := ⟨0, [0, 1, 2, 3, 4, 5], [.t 0], none, c35⟩
attribute [go_sem] r35_0 r35_1 r35_2 r35_3 c35 F35
def r39_0 : List Op := [t_ 1 <|.box (.g 0),t_ 2 <|.mov (cb false)]
def r39_1 : List Op := [f_ 3 <|.fad (.g 1) 0,f_ 4 <|.load (.v 1) none (.l 0),f_ 5 <|.bin .lss (.l 1) (ci 1),f_ 6 <|.mov (.l 2),n_ 7 3 <|.fad (.g 1) 0,n_ 8 3 <|.load (.v 1) none (.l 4),n_ 9 3 <|.bin .gtr (.l 5) (ci 255),f_ 10 <|.pick (.l 3) (cb true) (.l 6),f_ 11 <|.mov (.l 7),n_ 12 8 <|.fad (.g 1) 1,n_ 13 8 <|.load (.v 1) none (.l 9),n_ 14 8 <|.call (.k 63) .no none [.l 10, .c (.int .i64 0)],n_ 15 8 <|.un .not (.l 11),f_ 16 <|.pick (.l 8) (cb true) (.l 12),f_ 17 <|.mov (.l 13),n_ 18 14 <|.fad (.g 1) 3,n_ 19 14 <|.load (.v 1) none (.l 15),n_ 20 14 <|.call (.k 63) .no none [.l 16, .c (.int .i64 0)],n_ 21 14 <|.un .not (.l 17),f_ 22 <|.pick (.l 14) (cb true) (.l 18),f_ 23 <|.mov (.l 19),n_ 24 20 <|.fad (.g 1) 2,n_ 25 20 <|.load (.v 1) none (.l 21),n_ 26 20 <|.call (.k 64) .no none [.l 22],n_ 27 20 <|.un .not (.l 23),f_ 28 <|.pick (.l 20) (cb true) (.l 24),f_ 29 <|.mov (.l 25),n_ 30 26 <|.fad (.g 1) 6,n_ 31 26 <|.load (.v 1) none (.l 27),n_ 32 26 <|.call (.k 64) .no none [.l 28],n_ 33 26 <|.un .not (.l 29),t_ 34 <|.pick (.l 26) (cb true) (.l 30)]
def r39_2 : List Op := [t_ 2 <|.mov (cb false)]
def r39_3 : List Op := [f_ 35 <|.fad (.g 1) 2,f_ 36 <|.load (.v 1) none (.l 0),f_ 37 <|.len false (.l 1),f_ 38 <|.bin .gtr (.l 2) (ci 0),f_ 39 <|.mov (.l 3),y_ 40 4 <|.fad (.g 1) 2,y_ 41 4 <|.load (.v 1) none (.l 5),y_ 42 4 <|.fad (.g 1) 0,y_ 43 4 <|.load (.v 1) none (.l 7),y_ 44 4 <|.call (.k 65) .no none [.l 6, .l 8],y_ 45 4 <|.un .not (.l 9),t_ 46 <|.pick (.l 4) (.l 10) (cb false)]
def r39_4 : List Op := [t_ 2 <|.mov (cb false)]
def r39_5 : List Op := [f_ 47 <|.fad (.g 1) 6,f_ 48 <|.load (.v 1) none (.l 0),f_ 49 <|.fn 66 [.g 1] [1],t_ 50 <|.call (.k 67) .no none [.l 1, .l 2]]
def r39_6 : List Op := [t_ 2 <|.mov (cb false)]
def r39_7 : List Op := [f_ 51 <|.load (.v 1) (some 7) (.g 1),f_ 52 <|.call (.k 68) .no none [.l 0],t_ 53 <|.un .not (.l 1)]
def r39_8 : List Op := [f_ 54 <|.fad (.g 1) 6,f_ 55 <|.load (.v 1) none (.l 0),f_ 56 <|.len false (.l 1),f_ 57 <|.bin .eql (.l 2) (ci 0),f_ 58 <|.mov (.l 3),y_ 59 4 <|.fad (.g 1) 4,y_ 60 4 <|.load (.v 1) none (.l 5),y_ 61 4 <|.fad (.g 1) 5,y_ 62 4 <|.load (.v 1) none (.l 7),y_ 63 4 <|.bin .eql (.l 6) (.l 8),f_ 64 <|.pick (.l 4) (.l 9) (cb false),t_ 2 <|.mov (.l 10)]
def r39_9 : List Op := [f_ 65 <|.fad (.g 1) 6,f_ 66 <|.load (.v 1) none (.l 0),f_ 67 <|.fad (.g 1) 0,f_ 68 <|.load (.v 1) none (.l 2),f_ 69 <|.call (.k 65) .no none [.l 1, .l 3],f_ 70 <|.mov (.l 4),y_ 71 5 <|.fad (.g 1) 6,y_ 72 5 <|.load (.v 1) none (.l 6),y_ 73 5 <|.len false (.l 7),y_ 74 5 <|.fad (.g 1) 2,y_ 75 5 <|.load (.v 1) none (.l 9),y_ 76 5 <|.len false (.l 10),y_ 77 5 <|.bin .lss (.l 8) (.l 11),y_ 78 5 <|.mov (.l 12),n_ 79 13 <|.fad (.g 1) 4,n_ 80 13 <|.load (.v 1) none (.l 14),n_ 81 13 <|.fad (.g 1) 5,n_ 82 13 <|.load (.v 1) none (.l 16),n_ 83 13 <|.bin .eql (.l 15) (.l 17),y_ 84 5 <|.pick (.l 13) (cb true) (.l 18),f_ 85 <|.pick (.l 5) (.l 19) (cb false),t_ 2 <|.mov (.l 20)]
def c39 : C := .seq (.region false r39_0) (.seq (.seq (.region false r39_1) (.cond (.g 34) (.seq (.region false r39_2) (.ret)) (.skip))) (.seq (.seq (.region false r39_3) (.cond (.g 46) (.seq (.region false r39_4) (.ret)) (.skip))) (.seq (.seq (.region false r39_5) (.cond (.g 50) (.seq (.region false r39_6) (.ret)) (.skip))) (.seq (.seq (.region false r39_7) (.cond (.g 53) (.seq (.region false r39_8) (.ret)) (.skip))) (.seq (.region false r39_9) (.ret))))))
def F39 : F := ⟨1, [0, 1, 2, 34, 46, 50, 53], [.t 2], none, c39⟩
attribute [go_sem] r39_0 r39_1 r39_2 r39_3 r39_4 r39_5 r39_6 r39_7 r39_8 r39_9 c39 F39
def r40_0 : List Op := [t_ 1 <|.box (.g 0),t_ 2 <|.mov (cb false)]
def r40_1 : List Op := [f_ 3 <|.load (.v 1) (some 7) (.g 1),f_ 4 <|.call (.k 39) .no none [.l 0],f_ 5 <|.mov (.l 1),y_ 6 2 <|.load (.v 1) (some 7) (.g 1),y_ 7 2 <|.call (.k 68) .no none [.l 3],f_ 8 <|.pick (.l 2) (.l 4) (cb false),t_ 2 <|.mov (.l 5)]
def c40 : C := .seq (.region false r40_0) (.seq (.region false r40_1) (.ret))
def F40 : F := ⟨1, [0, 1, 2], [.t 2], none, c40⟩
attribute [go_sem] r40_0 r40_1 c40 F40
def r41_0 : List Op := [t_ 1 <|.box (.g 0),t_ 2 <|.mov (cb false)]
def r41_1 : List Op := [f_ 3 <|.load (.v 1) (some 7) (.g 1),f_ 4 <|.call (.k 40) .no none [.l 0],f_ 5 <|.mov (.l 1),y_ 6 2 <|.fad (.g 1) 6,y_ 7 2 <|.load (.v 1) none (.l 3),y_ 8 2 <|.len false (.l 4),y_ 9 2 <|.fad (.g 1) 2,y_ 10 2 <|.load (.v 1) none (.l 6),y_ 11 2 <|.len false (.l 7),y_ 12 2 <|.bin .lss (.l 5) (.l 8),f_ 13 <|.pick (.l 2) (.l 9) (cb false),t_ 2 <|.mov (.l 10)]
def c41 : C := .seq (.region false r41_0) (.seq (.region false r41_1) (.ret))
def F41 : F := ⟨1, [0, 1, 2], [.t 2], none, c41⟩
attribute [go_sem] r41_0 r41_1 c41 F41
def r43_0 : List Op := [t_ 6 <|.alloc [.int .i64 0, .int .i64 0, .slice 1 [], .int .i64 0, .str [], .str [], .slice 1 []],t_ 7 <|.mov (ci 0)]
def r43_1 : List Op := [f_ 9 <|.mov (.g 0),f_ 10 <|.mov (.g 1),f_ 11 <|.call (.k 69) .no none [.l 1],f_ 12 <|.mov (.g 2),f_ 13 <|.mov (.g 2),f_ 14 <|.build [.int .i64 0, .int .i64 0, .slice 1 [], .int .i64 0, .str [], .str [], .slice 1 []] [(0, 1, .l 0), (1, 1, .c (.int .i64 1)), (2, 1, .l 2), (3, 1, .c (.int .i64 1)), (4, 1, .l 3), (5, 1, .l 4)],t_ 8 <|.alloc [.int .i64 0, .int .i64 0, .slice 1 [], .int .i64 0, .str [], .str [], .slice 1 []],u_ <|.store (.v 8) 7 (.l 6) (.l 5)]
def r43_2 : List Op := [f_ 15 <|.load (.v 8) (some 7) (.g 8),t_ 16 <|.call (.k 68) .no none [.l 0]]
def r43_3 : List Op := [f_ 17 <|.mov (.g 1),f_ 18 <|.call (.k 69) .no none [.l 0],f_ 19 <|.fad (.g 8) 6,u_ <|.store (.v 8) 1 (.l 2) (.l 1)]
def r43_4 : List Op := [f_ 20 <|.mov (.g 1),f_ 21 <|.len false (.l 0),f_ 22 <|.bin .eql (.l 1) (ci 0),f_ 23 <|.mov (.l 2),n_ 24 3 <|.load (.v 8) (some 7) (.g 8),n_ 25 3 <|.call (.k 39) .no none [.l 4],n_ 26 3 <|.un .not (.l 5),t_ 27 <|.pick (.l 3) (cb true) (.l 6)]
def r43_5 : List Op := [f_ 28 <|.build [.int .i64 0, .int .i64 0, .slice 1 [], .int .i64 0, .str [], .str [], .slice 1 []] [],u_ <|.store (.v 6) 7 (.g 6) (.l 0),t_ 7 <|.mov (ci 1)]
def r43_6 : List Op := [f_ 29 <|.load (.v 8) (some 7) (.g 8),u_ <|.store (.v 6) 7 (.g 6) (.l 0),t_ 7 <|.mov (ci 0)]
def c43 : C := .seq (.region false r43_0) (.seq (.region false r43_1) (.seq (.seq (.region false r43_2) (.cond (.g 16) (.region false r43_3) (.skip))) (.seq (.seq (.region false r43_4) (.cond (.g 27) (.seq (.region false r43_5) (.ret)) (.skip))) (.seq (.region false r43_6) (.ret)))))
def F43 : F := ⟨3, [0, 1, 2, 6, 7, 8, 16, 27], [.cell 6 (some 7), .t 7], none, c43⟩
attribute [go_sem] r43_0 r43_1 r43_2 r43_3 r43_4 r43_5 r43_6 c43 F43
def r47_0 : List Op := [t_ 2 <|.box (.g 0),t_ 4 <|.alloc [.int .i64 0, .int .i64 0, .slice 1 [], .int .i64 0, .str [], .str [], .slice 1 []],t_ 5 <|.mov (.c (.slice 7 [])),t_ 6 <|.mov (ci 0)]
def r47_1 : List Op := [f_ 8 <|.load (.v 2) (some 7) (.g 2),f_ 9 <|.call (.k 39) .no none [.l 0],f_ 10 <|.un .not (.l 1),t_ 7 <|.mov (.l 2)]
def r47_2 : List Op := [f_ 11 <|.build [.int .i64 0, .int .i64 0, .slice 1 [], .int .i64 0, .str [], .str [], .slice 1 []] [],u_ <|.store (.v 4) 7 (.g 4) (.l 0),t_ 5 <|.mov (.c (.slice 7 [])),t_ 6 <|.mov (ci 1)]
def r47_3 : List Op := [f_ 13 <|.load (.v 2) (some 7) (.g 2),f_ 14 <|.call (.k 68) .no none [.l 0],f_ 15 <|.un .not (.l 1),t_ 12 <|.mov (.l 2)]
def r47_4 : List Op := [f_ 16 <|.build [.int .i64 0, .int .i64 0, .slice 1 [], .int .i64 0, .str [], .str [], .slice 1 []] [],u_ <|.store (.v 4) 7 (.g 4) (.l 0),t_ 5 <|.mov (.c (.slice 7 [])),t_ 6 <|.mov (ci 10)]
def r47_5 : List Op := [f_ 18 <|.load (.v 2) (some 7) (.g 2),f_ 19 <|.call (.k 41) .no none [.l 0],t_ 17 <|.mov (.l 1)]
def r47_6 : List Op := [f_ 20 <|.build [.int .i64 0, .int .i64 0, .slice 1 [], .int .i64 0, .str [], .str [], .slice 1 []] [],u_ <|.store (.v 4) 7 (.g 4) (.l 0),t_ 5 <|.mov (.c (.slice 7 [])),t_ 6 <|.mov (ci 11)]
def r47_7 : List Op := [f_ 22 <|.fad (.g 2) 3,f_ 23 <|.load (.v 2) none (.l 0),f_ 24 <|.bin .eql (.l 1) (ci 1099511627776),t_ 21 <|.mov (.l 2)]
def r47_8 : List Op := [f_ 25 <|.build [.int .i64 0, .int .i64 0, .slice 1 [], .int .i64 0, .str [], .str [], .slice 1 []] [],u_ <|.store (.v 4) 7 (.g 4) (.l 0),t_ 5 <|.mov (.c (.slice 7 [])),t_ 6 <|.mov (ci 6)]
def r47_9 : List Op := [f_ 26 <|.fad (.g 2) 3,f_ 27 <|.load (.v 2) none (.l 0),f_ 28 <|.bin .add (.l 1) (ci 1),f_ 29 <|.fad (.g 2) 3,u_ <|.store (.v 2) 1 (.l 3) (.l 2)]
def r47_10 : List Op := [f_ 30 <|.mov (.g 1),f_ 31 <|.fad (.g 2) 0,f_ 32 <|.load (.v 2) none (.l 1),f_ 33 <|.mks 1 1 [.int .i64 0] [(0, .l 2)],f_ 34 <|.fad (.g 2) 5,u_ <|.store (.v 2) 1 (.l 4) (.l 0),f_ 35 <|.fad (.g 2) 6,u_ <|.store (.v 2) 1 (.l 6) (.l 3)]
def r47_11 : List Op := [f_ 36 <|.load (.v 2) (some 7) (.g 2),f_ 37 <|.call (.k 71) .no none [.l 0],f_ 38 <|.load (.v 2) (some 7) (.g 2),f_ 39 <|.call (.k 72) .no none [.l 2],u_ <|.store (.v 4) 7 (.g 4) (.l 1),t_ 5 <|.mov (.l 3),t_ 6 <|.mov (ci 0)]
def c47 : C := .seq (.region false r47_0) (.seq (.block 0 (.seq (.region false r47_1) (.cond (.g 7) (.seq (.region false r47_2) (.ret)) (.seq (.region false r47_3) (.cond (.g 12) (.seq (.region false r47_4) (.ret)) (.seq (.region false r47_5) (.cond (.g 17) (.seq (.region false r47_6) (.ret)) (.seq (.region false r47_7) (.cond (.g 21) (.seq (.region false r47_8) (.ret)) (.skip)))))))))) (.seq (.region false r47_9) (.seq (.region false r47_10) (.seq (.region true r47_11) (.ret)))))
def F47 : F := ⟨2, [0, 1, 2, 4, 5, 6, 7, 12, 17, 21], [.cell 4 (some 7), .t 5, .t 6], none, c47⟩
attribute [go_sem] r47_0 r47_1 r47_2 r47_3 r47_4 r47_5 r47_6 r47_7 r47_8 r47_9 r47_10 r47_11 c47 F47
def r51_0 : List Op := [t_ 1 <|.box (.g 0),t_ 2 <|.mov (.c (.slice 7 []))]
def r51_1 : List Op := [f_ 3 <|.load (.v 1) (some 7) (.g 1),f_ 4 <|.call (.k 41) .no none [.l 0],t_ 5 <|.un .not (.l 1)]
def r51_2 : List Op := [t_ 2 <|.mov (.c (.slice 7 []))]
def r51_3 : List Op := [f_ 6 <|.load (.v 1) (some 7) (.g 1),f_ 7 <|.call (.k 72) .no none [.l 0],t_ 2 <|.mov (.l 1)]
def c51 : C := .seq (.region false r51_0) (.seq (.seq (.region false r51_1) (.cond (.g 5) (.seq (.region false r51_2) (.ret)) (.skip))) (.seq (.region false r51_3) (.ret)))
def F51 : F := ⟨1, [0, 1, 2, 5], [.t 2], none, c51⟩
attribute [go_sem] r51_0 r51_1 r51_2 r51_3 c51 F51
def r54_0 : List Op := [t_ 3 <|.box (.g 0),t_ 6 <|.alloc [.int .i64 0, .int .i64 0, .slice 1 [], .int .i64 0, .str [], .str [], .slice 1 []],t_ 7 <|.mov (.c (.slice 7 [])),t_ 8 <|.mov (ci 0)]
def r54_1 : List Op := [f_ 9 <|.load (.v 3) (some 7) (.g 3),f_ 10 <|.call (.k 39) .no none [.l 0],f_ 11 <|.un .not (.l 1),f_ 12 <|.mov (.l 2),n_ 13 3 <|.mov (.g 2),n_ 14 3 <|.fad (.g 3) 0,n_ 15 3 <|.load (.v 3) none (.l 5),n_ 16 3 <|.fad (.g 3) 0,n_ 17 3 <|.load (.v 3) none (.l 7),n_ 18 3 <|.call (.k 73) .no none [.l 4, .l 6, .l 8],n_ 19 3 <|.un .not (.l 9),f_ 20 <|.pick (.l 3) (cb true) (.l 10),f_ 21 <|.mov (.l 11),n_ 22 12 <|.mov (.g 1),n_ 23 12 <|.call (.k 63) .no none [.l 13, .c (.int .i64 1)],n_ 24 12 <|.un .not (.l 14),t_ 25 <|.pick (.l 12) (cb true) (.l 15)]
def r54_2 : List Op := [f_ 26 <|.build [.int .i64 0, .int .i64 0, .slice 1 [], .int .i64 0, .str [], .str [], .slice 1 []] [],u_ <|.store (.v 6) 7 (.g 6) (.l 0),t_ 7 <|.mov (.c (.slice 7 [])),t_ 8 <|.mov (ci 1)]
def r54_3 : List Op := [f_ 28 <|.mov (.g 1),f_ 29 <|.fad (.g 3) 1,f_ 30 <|.load (.v 3) none (.l 1),f_ 31 <|.bin .eql (.l 0) (.l 2),f_ 32 <|.mov (.l 3),y_ 33 4 <|.load (.v 3) (some 7) (.g 3),y_ 34 4 <|.call (.k 68) .no none [.l 5],f_ 35 <|.pick (.l 4) (.l 6) (cb false),t_ 27 <|.mov (.l 7)]
def r54_4 : List Op := [f_ 36 <|.load (.v 3) (some 7) (.g 3),f_ 37 <|.load (.v 3) (some 7) (.g 3),f_ 38 <|.call (.k 72) .no none [.l 1],u_ <|.store (.v 6) 7 (.g 6) (.l 0),t_ 7 <|.mov (.l 2),t_ 8 <|.mov (ci 0)]
def r54_5 : List Op := [f_ 40 <|.mov (.g 1),f_ 41 <|.fad (.g 3) 1,f_ 42 <|.load (.v 3) none (.l 1),f_ 43 <|.bin .add (.l 2) (ci 1),f_ 44 <|.bin .neq (.l 0) (.l 3),f_ 45 <|.mov (.l 4),n_ 46 5 <|.fad (.g 3) 2,n_ 47 5 <|.load (.v 3) none (.l 6),n_ 48 5 <|.len false (.l 7),n_ 49 5 <|.bin .eql (.l 8) (ci 0),f_ 50 <|.pick (.l 5) (cb true) (.l 9),t_ 39 <|.mov (.l 10)]
def r54_6 : List Op := [f_ 51 <|.build [.int .i64 0, .int .i64 0, .slice 1 [], .int .i64 0, .str [], .str [], .slice 1 []] [],u_ <|.store (.v 6) 7 (.g 6) (.l 0),t_ 7 <|.mov (.c (.slice 7 [])),t_ 8 <|.mov (ci 10)]
def r54_7 : List Op := [f_ 53 <|.fad (.g 3) 3,f_ 54 <|.load (.v 3) none (.l 0),f_ 55 <|.bin .eql (.l 1) (ci 1099511627776),t_ 52 <|.mov (.l 2)]
def r54_8 : List Op := [f_ 56 <|.build [.int .i64 0, .int .i64 0, .slice 1 [], .int .i64 0, .str [], .str [], .slice 1 []] [],u_ <|.store (.v 6) 7 (.g 6) (.l 0),t_ 7 <|.mov (.c (.slice 7 [])),t_ 8 <|.mov (ci 6)]
def r54_9 : List Op := [f_ 57 <|.mov (.g 1),f_ 58 <|.mov (.g 2),f_ 59 <|.call (.k 69) .no none [.l 1],f_ 60 <|.fad (.g 3) 5,f_ 61 <|.load (.v 3) none (.l 3),f_ 62 <|.fad (.g 3) 0,f_ 63 <|.load (.v 3) none (.l 5),f_ 64 <|.mks 1 1 [.int .i64 0] [(0, .l 6)],f_ 65 <|.fad (.g 3) 1,u_ <|.store (.v 3) 1 (.l 8) (.l 0),f_ 66 <|.fad (.g 3) 2,u_ <|.store (.v 3) 1 (.l 10) (.l 2),f_ 67 <|.fad (.g 3) 4,u_ <|.store (.v 3) 1 (.l 12) (.l 4),f_ 68 <|.fad (.g 3) 6,u_ <|.store (.v 3) 1 (.l 14) (.l 7)]
def r54_10 : List Op := [f_ 69 <|.fad (.g 3) 3,f_ 70 <|.load (.v 3) none (.l 0),f_ 71 <|.bin .add (.l 1) (ci 1),f_ 72 <|.fad (.g 3) 3,u_ <|.store (.v 3) 1 (.l 3) (.l 2)]
def r54_11 : List Op := [f_ 73 <|.load (.v 3) (some 7) (.g 3),f_ 74 <|.load (.v 3) (some 7) (.g 3),f_ 75 <|.call (.k 72) .no none [.l 1],u_ <|.store (.v 6) 7 (.g 6) (.l 0),t_ 7 <|.mov (.l 2),t_ 8 <|.mov (ci 0)]
def c54 : C := .seq (.region false r54_0) (.seq (.seq (.region false r54_1) (.cond (.g 25) (.seq (.region false r54_2) (.ret)) (.skip))) (.seq (.block 0 (.seq (.region false r54_3) (.cond (.g 27) (.seq (.region true r54_4) (.ret)) (.seq (.region false r54_5) (.cond (.g 39) (.seq (.region false r54_6) (.ret)) (.seq (.region false r54_7) (.cond (.g 52) (.seq (.region false r54_8) (.ret)) (.skip)))))))) (.seq (.region true r54_9) (.seq (.region false r54_10) (.seq (.region true r54_11) (.ret))))))
def F54 : F := ⟨3, [0, 1, 2, 3, 6, 7, 8, 25, 27, 39, 52], [.cell 6 (some 7), .t 7, .t 8], none, c54⟩
attribute [go_sem] r54_0 r54_1 r54_2 r54_3 r54_4 r54_5 r54_6 r54_7 r54_8 r54_9 r54_10 r54_11 c54 F54
def r57_0 : List Op := [t_ 2 <|.box (.g 0),t_ 3 <|.box (.g 1),t_ 4 <|.alloc [.int .i64 0, .int .i64 0, .slice 1 [], .int .i64 0, .str [], .str [], .slice 1 []],t_ 5 <|.mov (.c (.slice 7 []))]
def r57_1 : List Op := [f_ 6 <|.load (.v 2) (some 7) (.g 2),f_ 7 <|.call (.k 39) .borrow none [.l 0],f_ 8 <|.un .not (.l 1),f_ 9 <|.mov (.l 2),n_ 10 3 <|.fad (.g 3) 2,n_ 11 3 <|.load (.v 3) none (.l 4),n_ 12 3 <|.fad (.g 2) 0,n_ 13 3 <|.load (.v 2) none (.l 6),n_ 14 3 <|.bin .neq (.l 5) (.l 7),t_ 15 <|.pick (.l 3) (cb true) (.l 8)]
def r57_2 : List Op := [f_ 16 <|.load (.v 2) (some 7) (.g 2),u_ <|.store (.v 4) 7 (.g 4) (.l 0),t_ 5 <|.mov (.c (.slice 7 []))]
def r57_3 : List Op := [f_ 17 <|.fad (.g 3) 0,t_ 18 <|.load (.v 3) none (.l 0)]
def r57_4 : List Op := [f_ 20 <|.bin .eql (.g 18) (ci 1),t_ 19 <|.mov (.l 0)]
def r57_5 : List Op := [f_ 21 <|.load (.v 2) (some 7) (.g 2),f_ 22 <|.load (.v 3) (some 7) (.g 3),f_ 23 <|.call (.k 74) .freeze none [.l 0, .l 1],f_ 24 <|.ext (.l 2) 0,f_ 25 <|.ext (.l 2) 1,u_ <|.store (.v 4) 7 (.g 4) (.l 3),t_ 5 <|.mov (.l 4)]
def r57_6 : List Op := [f_ 27 <|.bin .eql (.g 18) (ci 2),t_ 26 <|.mov (.l 0)]
def r57_7 : List Op := [f_ 28 <|.load (.v 2) (some 7) (.g 2),f_ 29 <|.call (.k 68) .borrow none [.l 0],f_ 30 <|.mov (.l 1),y_ 31 2 <|.fad (.g 3) 3,y_ 32 2 <|.load (.v 3) none (.l 3),y_ 33 2 <|.fad (.g 2) 1,y_ 34 2 <|.load (.v 2) none (.l 5),y_ 35 2 <|.bin .eql (.l 4) (.l 6),f_ 36 <|.pick (.l 2) (.l 7) (cb false),f_ 37 <|.mov (.l 8),y_ 38 9 <|.fad (.g 3) 4,y_ 39 9 <|.load (.v 3) none (.l 10),y_ 40 9 <|.fad (.g 2) 3,y_ 41 9 <|.load (.v 2) none (.l 12),y_ 42 9 <|.bin .eql (.l 11) (.l 13),f_ 43 <|.pick (.l 9) (.l 14) (cb false),f_ 44 <|.mov (.l 15),y_ 45 16 <|.fad (.g 2) 2,y_ 46 16 <|.load (.v 2) none (.l 17),y_ 47 16 <|.fad (.g 3) 1,y_ 48 16 <|.load (.v 3) none (.l 19),y_ 49 16 <|.call (.k 65) .borrow none [.l 18, .l 20],f_ 50 <|.pick (.l 16) (.l 21) (cb false),f_ 51 <|.mov (.l 22),y_ 52 23 <|.fad (.g 2) 6,y_ 53 23 <|.load (.v 2) none (.l 24),y_ 54 23 <|.fad (.g 3) 1,y_ 55 23 <|.load (.v 3) none (.l 26),y_ 56 23 <|.call (.k 65) .borrow none [.l 25, .l 27],y_ 57 23 <|.un .not (.l 28),t_ 58 <|.pick (.l 23) (.l 29) (cb false)]
def r57_8 : List Op := [f_ 59 <|.fad (.g 2) 6,f_ 60 <|.load (.v 2) none (.l 0),f_ 61 <|.call (.k 69) .freeze (some 0) [.l 1],f_ 62 <|.fad (.g 3) 1,f_ 63 <|.load (.v 3) none (.l 3),f_ 64 <|.mks 1 1 [.int .i64 0] [(0, .l 4)],f_ 65 <|.app 61 1 (.l 2) (.l 5),f_ 66 <|.fad (.g 2) 6,u_ <|.store (.v 2) 1 (.l 7) (.l 6)]
def r57_9 : List Op := [f_ 67 <|.load (.v 2) (some 7) (.g 2),f_ 68 <|.call (.k 71) .freeze none [.l 0],u_ <|.store (.v 2) 7 (.g 2) (.l 1)]
def r57_10 : List Op := [f_ 70 <|.bin .eql (.g 18) (ci 3),t_ 69 <|.mov (.l 0)]
def r57_11 : List Op := [f_ 71 <|.fad (.g 3) 3,f_ 72 <|.load (.v 3) none (.l 0),f_ 73 <|.fad (.g 2) 1,f_ 74 <|.load (.v 2) none (.l 2),t_ 75 <|.bin .gtr (.l 1) (.l 3)]
def r57_12 : List Op := [f_ 76 <|.fad (.g 2) 5,f_ 77 <|.load (.v 2) none (.l 0),f_ 78 <|.fad (.g 2) 2,u_ <|.store (.v 2) 1 (.l 2) (.c (.slice 1 [])),f_ 79 <|.fad (.g 2) 6,u_ <|.store (.v 2) 1 (.l 4) (.c (.slice 1 [])),f_ 80 <|.fad (.g 2) 4,u_ <|.store (.v 2) 1 (.l 6) (.l 1)]
def r57_13 : List Op := [f_ 81 <|.load (.v 2) (some 7) (.g 2),u_ <|.store (.v 4) 7 (.g 4) (.l 0),t_ 5 <|.mov (.c (.slice 7 []))]
def c57 : C := .seq (.region false r57_0) (.seq (.seq (.region false r57_1) (.cond (.g 15) (.seq (.region false r57_2) (.ret)) (.skip))) (.seq (.seq (.region false r57_3) (.block 0 (.seq (.region false r57_4) (.cond (.g 19) (.seq (.region false r57_5) (.ret)) (.seq (.region false r57_6) (.cond (.g 26) (.seq (.region false r57_7) (.cond (.g 58) (.seq (.region true r57_8) (.region false r57_9)) (.skip))) (.seq (.region false r57_10) (.cond (.g 69) (.seq (.region false r57_11) (.cond (.g 75) (.region false r57_12) (.skip))) (.skip))))))))) (.seq (.region false r57_13) (.ret))))
def F57 : F := ⟨2, [0, 1, 2, 3, 4, 5, 15, 18, 19, 26, 58, 69, 75], [.cell 4 (some 7), .t 5], none, c57⟩
attribute [go_sem] r57_0 r57_1 r57_2 r57_3 r57_4 r57_5 r57_6 r57_7 r57_8 r57_9 r57_10 r57_11 r57_12 r57_13 c57 F57
def r63_0 : List Op := [t_ 4 <|.mov (cb false)]
def r63_1 : List Op := [f_ 5 <|.mov (.g 0),f_ 6 <|.mov (.g 1),f_ 7 <|.bin .geq (.l 0) (.l 1),f_ 8 <|.mov (.l 2),y_ 9 3 <|.mov (.g 0),y_ 10 3 <|.bin .leq (.l 4) (ci 1099511627776),f_ 11 <|.pick (.l 3) (.l 5) (cb false),t_ 4 <|.mov (.l 6)]
def c63 : C := .seq (.region false r63_0) (.seq (.region false r63_1) (.ret))
def F63 : F := ⟨2, [0, 1, 4], [.t 4], none, c63⟩
attribute [go_sem] r63_0 r63_1 c63 F63
def r64_0 : List Op := [t_ 2 <|.mov (cb false)]
def r64_1 : List Op := [t_ 5 <|.mov (.g 0),t_ 6 <|.len false (.l 0),t_ 7 <|.mov (ci 0)]
def r64_2 : List Op := [t_ 8 <|.bin .lss (.g 7) (.g 6)]
def r64_3 : List Op := [f_ 9 <|.mov (.g 7),f_ 10 <|.iad 1 (.g 5) (.g 7),f_ 11 <|.load (.c) none (.l 1),t_ 3 <|.mov (.l 0),t_ 4 <|.mov (.l 2)]
def r64_4 : List Op := [f_ 12 <|.mov (.g 4),f_ 13 <|.bin .lss (.l 0) (ci 1),f_ 14 <|.mov (.l 1),n_ 15 2 <|.mov (.g 4),n_ 16 2 <|.bin .gtr (.l 3) (ci 255),f_ 17 <|.pick (.l 2) (cb true) (.l 4),f_ 18 <|.mov (.l 5),n_ 19 6 <|.mov (.g 0),n_ 20 6 <|.mov (.g 3),n_ 21 6 <|.sl false 1 (.l 7) none (some (.l 8)),n_ 22 6 <|.mov (.g 4),n_ 23 6 <|.call (.k 65) .no none [.l 9, .l 10],t_ 24 <|.pick (.l 6) (cb true) (.l 11)]
def r64_5 : List Op := [t_ 2 <|.mov (cb false)]
def r64_6 : List Op := [f_ 25 <|.bin .add (.g 7) (ci 1),t_ 7 <|.mov (.l 0)]
def b64_0 : C := .seq (.region false r64_2) (.seq (.cond (.g 8) (.skip) (.exit 0)) (.seq (.block 1 (.seq (.region false r64_3) (.seq (.region false r64_4) (.cond (.g 24) (.seq (.region false r64_5) (.ret)) (.skip))))) (.region false r64_6)))
def l64_0 : C := .loop [] [] [] [] b64_0
def r64_7 : List Op := [f_ 26 <|.mov (.g 0),f_ 27 <|.len false (.l 0),f_ 28 <|.bin .leq (.l 1) (ci 8),t_ 2 <|.mov (.l 2)]
def c64 : C := .seq (.region false r64_0) (.seq (.seq (.region false r64_1) (.block 0 (l64_0))) (.seq (.region false r64_7) (.ret)))
def F64 : F := ⟨1, [0, 2, 3, 4, 5, 6, 7, 8, 24], [.t 2], none, c64⟩
attribute [go_sem] r64_0 r64_1 r64_2 r64_3 r64_4 r64_5 r64_6 b64_0 r64_7 c64 F64
def r65_0 : List Op := [t_ 4 <|.mov (cb false)]
def r65_1 : List Op := [f_ 5 <|.mov (.g 0),f_ 6 <|.mov (.g 1),f_ 7 <|.call (.k 75) .no none [.l 0, .l 1],f_ 8 <|.bin .geq (.l 2) (ci 0),t_ 4 <|.mov (.l 3)]
def c65 : C := .seq (.region false r65_0) (.seq (.region false r65_1) (.ret))
def F65 : F := ⟨2, [0, 1, 4], [.t 4], none, c65⟩
attribute [go_sem] r65_0 r65_1 c65 F65
def r66_0 : List Op := [t_ 3 <|.mov (cb false)]
def r66_1 : List Op := [f_ 4 <|.fad (.g 1) 2,f_ 5 <|.load (.c) none (.l 0),f_ 6 <|.mov (.g 0),f_ 7 <|.call (.k 65) .no none [.l 1, .l 2],f_ 8 <|.un .not (.l 3),t_ 3 <|.mov (.l 4)]
def c66 : C := .seq (.region false r66_0) (.seq (.region false r66_1) (.ret))
def F66 : F := ⟨2, [0, 1, 3], [.t 3], none, c66⟩
attribute [go_sem] r66_0 r66_1 c66 F66
def r67_0 : List Op := [t_ 4 <|.mov (cb false)]
def r67_1 : List Op := [f_ 5 <|.mov (.g 0),f_ 6 <|.mov (.g 1),f_ 7 <|.call (.k 76) .no none [.l 0, .l 1],f_ 8 <|.bin .geq (.l 2) (ci 0),t_ 4 <|.mov (.l 3)]
def c67 : C := .seq (.region false r67_0) (.seq (.region false r67_1) (.ret))
def F67 : F := ⟨2, [0, 1, 4], [.t 4], none, c67⟩
attribute [go_sem] r67_0 r67_1 c67 F67
def r68_0 : List Op := [t_ 1 <|.box (.g 0),t_ 2 <|.mov (cb false)]
def r68_1 : List Op := [f_ 3 <|.fad (.g 1) 2,f_ 4 <|.load (.v 1) none (.l 0),f_ 5 <|.len false (.l 1),f_ 6 <|.bin .gtr (.l 2) (ci 0),f_ 7 <|.mov (.l 3),y_ 8 4 <|.fad (.g 1) 2,y_ 9 4 <|.load (.v 1) none (.l 5),y_ 10 4 <|.iad 1 (.l 6) (ci 0),y_ 11 4 <|.load (.c) none (.l 7),y_ 12 4 <|.fad (.g 1) 0,y_ 13 4 <|.load (.v 1) none (.l 9),y_ 14 4 <|.bin .eql (.l 8) (.l 10),f_ 15 <|.pick (.l 4) (.l 11) (cb false),t_ 2 <|.mov (.l 12)]
def c68 : C := .seq (.region false r68_0) (.seq (.region true r68_1) (.ret))
def F68 : F := ⟨1, [0, 1, 2], [.t 2], none, c68⟩
attribute [go_sem] r68_0 r68_1 c68 F68
def r71_0 : List Op := [t_ 1 <|.box (.g 0),t_ 2 <|.alloc [.int .i64 0, .int .i64 0, .slice 1 [], .int .i64 0, .str [], .str [], .slice 1 []]]
def r71_1 : List Op := [f_ 3 <|.fad (.g 1) 6,f_ 4 <|.load (.v 1) none (.l 0),f_ 5 <|.len false (.l 1),f_ 6 <|.fad (.g 1) 2,f_ 7 <|.load (.v 1) none (.l 3),f_ 8 <|.len false (.l 4),t_ 9 <|.bin .eql (.l 2) (.l 5)]
def r71_2 : List Op := [f_ 10 <|.fad (.g 1) 5,f_ 11 <|.load (.v 1) none (.l 0),f_ 12 <|.fad (.g 1) 4,u_ <|.store (.v 1) 1 (.l 2) (.l 1)]
def r71_3 : List Op := [f_ 13 <|.load (.v 1) (some 7) (.g 1),u_ <|.store (.v 2) 7 (.g 2) (.l 0)]
def c71 : C := .seq (.region false r71_0) (.seq (.seq (.region false r71_1) (.cond (.g 9) (.region false r71_2) (.skip))) (.seq (.region false r71_3) (.ret)))
def F71 : F := ⟨1, [0, 1, 2, 9], [.cell 2 (some 7)], none, c71⟩
attribute [go_sem] r71_0 r71_1 r71_2 r71_3 c71 F71
def r72_0 : List Op := [t_ 1 <|.box (.g 0),t_ 2 <|.mov (.c (.slice 7 []))]
def r72_1 : List Op := [t_ 3 <|.mko 7]
def r72_2 : List Op := [f_ 6 <|.fad (.g 1) 2,t_ 7 <|.load (.v 1) none (.l 0),t_ 8 <|.len false (.l 1),t_ 9 <|.mov (ci 0)]
def r72_3 : List Op := [t_ 10 <|.bin .lss (.g 9) (.g 8)]
def r72_4 : List Op := [f_ 11 <|.iad 1 (.g 7) (.g 9),f_ 12 <|.load (.c) none (.l 0),t_ 5 <|.mov (.l 1)]
def r72_5 : List Op := [f_ 13 <|.fad (.g 1) 6,f_ 14 <|.load (.v 1) none (.l 0),f_ 15 <|.mov (.g 5),f_ 16 <|.call (.k 65) .no none [.l 1, .l 2],t_ 17 <|.un .not (.l 3)]
def r72_6 : List Op := [f_ 18 <|.mov (.g 3),f_ 19 <|.fad (.g 1) 0,f_ 20 <|.load (.v 1) none (.l 1),f_ 21 <|.mov (.g 5),f_ 22 <|.fad (.g 1) 1,f_ 23 <|.load (.v 1) none (.l 4),f_ 24 <|.fad (.g 1) 3,f_ 25 <|.load (.v 1) none (.l 6),f_ 26 <|.fad (.g 1) 2,f_ 27 <|.load (.v 1) none (.l 8),f_ 28 <|.call (.k 69) .no none [.l 9],f_ 29 <|.fad (.g 1) 5,f_ 30 <|.load (.v 1) none (.l 11),f_ 31 <|.build [.int .i64 0, .int .i64 0, .int .i64 0, .int .i64 0, .int .i64 0, .slice 1 [], .str []] [(0, 1, .c (.int .i64 1)), (1, 1, .l 2), (2, 1, .l 3), (3, 1, .l 5), (4, 1, .l 7), (5, 1, .l 10), (6, 1, .l 12)],f_ 32 <|.mks 7 1 [.int .i64 0, .int .i64 0, .int .i64 0, .int .i64 0, .int .i64 0, .slice 1 [], .str []] [(0, .l 13)],f_ 33 <|.app 3 7 (.l 0) (.l 14),t_ 3 <|.mov (.l 15)]
def r72_7 : List Op := [f_ 34 <|.bin .add (.g 9) (ci 1),t_ 9 <|.mov (.l 0)]
def b72_0 : C := .seq (.region false r72_3) (.seq (.cond (.g 10) (.skip) (.exit 0)) (.seq (.block 1 (.seq (.region false r72_4) (.seq (.region false r72_5) (.cond (.g 17) (.region true r72_6) (.skip))))) (.region false r72_7)))
def l72_0 : C := .loop [] [] [] [] b72_0
def r72_8 : List Op := [f_ 35 <|.mov (.g 3),t_ 2 <|.mov (.l 0)]
def c72 : C := .seq (.region false r72_0) (.seq (.region false r72_1) (.seq (.seq (.region false r72_2) (.block 0 (l72_0))) (.seq (.region false r72_8) (.ret))))
def F72 : F := ⟨1, [0, 1, 2, 3, 5, 7, 8, 9, 10, 17], [.t 2], none, c72⟩
attribute [go_sem] r72_0 r72_1 r72_2 r72_3 r72_4 r72_5 r72_6 r72_7 b72_0 r72_8 c72 F72
def r73_0 : List Op := [t_ 6 <|.mov (cb false)]
def r73_1 : List Op := [f_ 7 <|.mov (.g 0),f_ 8 <|.len false (.l 0),f_ 9 <|.bin .gtr (.l 1) (ci 0),f_ 10 <|.mov (.l 2),y_ 11 3 <|.mov (.g 0),y_ 12 3 <|.call (.k 64) .no none [.l 4],f_ 13 <|.pick (.l 3) (.l 5) (cb false),f_ 14 <|.mov (.l 6),y_ 15 7 <|.mov (.g 0),y_ 16 7 <|.mov (.g 1),y_ 17 7 <|.call (.k 65) .no none [.l 8, .l 9],f_ 18 <|.pick (.l 7) (.l 10) (cb false),f_ 19 <|.mov (.l 11),y_ 20 12 <|.mov (.g 0),y_ 21 12 <|.iad 1 (.l 13) (ci 0),y_ 22 12 <|.load (.c) none (.l 14),y_ 23 12 <|.mov (.g 2),y_ 24 12 <|.bin .eql (.l 15) (.l 16),f_ 25 <|.pick (.l 12) (.l 17) (cb false),t_ 6 <|.mov (.l 18)]
def c73 : C := .seq (.region false r73_0) (.seq (.region false r73_1) (.ret))
def F73 : F := ⟨3, [0, 1, 2, 6], [.t 6], none, c73⟩
attribute [go_sem] r73_0 r73_1 c73 F73
def r74_0 : List Op := [t_ 2 <|.box (.g 0),t_ 3 <|.box (.g 1),t_ 4 <|.alloc [.int .i64 0, .int .i64 0, .slice 1 [], .int .i64 0, .str [], .str [], .slice 1 []],t_ 5 <|.mov (.c (.slice 7 []))]
def r74_1 : List Op := [f_ 7 <|.fad (.g 3) 1,f_ 8 <|.load (.v 3) none (.l 0),f_ 9 <|.fad (.g 2) 0,f_ 10 <|.load (.v 2) none (.l 2),f_ 11 <|.bin .eql (.l 1) (.l 3),f_ 12 <|.mov (.l 4),n_ 13 5 <|.fad (.g 3) 5,n_ 14 5 <|.load (.v 3) none (.l 6),n_ 15 5 <|.fad (.g 2) 0,n_ 16 5 <|.load (.v 2) none (.l 8),n_ 17 5 <|.fad (.g 3) 1,n_ 18 5 <|.load (.v 3) none (.l 10),n_ 19 5 <|.call (.k 73) .no none [.l 7, .l 9, .l 11],n_ 20 5 <|.un .not (.l 12),f_ 21 <|.pick (.l 5) (cb true) (.l 13),f_ 22 <|.mov (.l 14),n_ 23 15 <|.fad (.g 3) 3,n_ 24 15 <|.load (.v 3) none (.l 16),n_ 25 15 <|.call (.k 63) .no none [.l 17, .c (.int .i64 1)],n_ 26 15 <|.un .not (.l 18),f_ 27 <|.pick (.l 15) (cb true) (.l 19),f_ 28 <|.mov (.l 20),n_ 29 21 <|.fad (.g 3) 4,n_ 30 21 <|.load (.v 3) none (.l 22),n_ 31 21 <|.call (.k 63) .no none [.l 23, .c (.int .i64 1)],n_ 32 21 <|.un .not (.l 24),t_ 33 <|.pick (.l 21) (cb true) (.l 25)]
def r74_2 : List Op := [f_ 34 <|.load (.v 2) (some 7) (.g 2),u_ <|.store (.v 4) 7 (.g 4) (.l 0),t_ 5 <|.mov (.c (.slice 7 []))]
def r74_3 : List Op := [f_ 35 <|.fad (.g 3) 3,f_ 36 <|.load (.v 3) none (.l 0),f_ 37 <|.fad (.g 2) 1,f_ 38 <|.load (.v 2) none (.l 2),t_ 39 <|.bin .lss (.l 1) (.l 3)]
def r74_4 : List Op := [f_ 40 <|.load (.v 2) (some 7) (.g 2),f_ 41 <|.fad (.g 2) 0,f_ 42 <|.load (.v 2) none (.l 1),f_ 43 <|.fad (.g 3) 1,f_ 44 <|.load (.v 3) none (.l 3),f_ 45 <|.fad (.g 2) 1,f_ 46 <|.load (.v 2) none (.l 5),f_ 47 <|.build [.int .i64 0, .int .i64 0, .int .i64 0, .int .i64 0, .int .i64 0, .slice 1 [], .str []] [(0, 1, .c (.int .i64 3)), (1, 1, .l 2), (2, 1, .l 4), (3, 1, .l 6)],f_ 48 <|.mks 7 1 [.int .i64 0, .int .i64 0, .int .i64 0, .int .i64 0, .int .i64 0, .slice 1 [], .str []] [(0, .l 7)],u_ <|.store (.v 4) 7 (.g 4) (.l 0),t_ 5 <|.mov (.l 8)]
def r74_5 : List Op := [f_ 49 <|.fad (.g 3) 3,f_ 50 <|.load (.v 3) none (.l 0),f_ 51 <|.fad (.g 2) 1,f_ 52 <|.load (.v 2) none (.l 2),f_ 53 <|.bin .eql (.l 1) (.l 3),t_ 6 <|.mov (.l 4)]
def r74_6 : List Op := [f_ 55 <|.mov (.g 6),f_ 56 <|.mov (.l 0),y_ 57 1 <|.load (.v 2) (some 7) (.g 2),y_ 58 1 <|.call (.k 68) .no none [.l 2],y_ 59 1 <|.mov (.l 3),n_ 60 4 <|.fad (.g 3) 4,n_ 61 4 <|.load (.v 3) none (.l 5),n_ 62 4 <|.fad (.g 2) 3,n_ 63 4 <|.load (.v 2) none (.l 7),n_ 64 4 <|.bin .lss (.l 6) (.l 8),y_ 65 1 <|.pick (.l 4) (cb true) (.l 9),f_ 66 <|.pick (.l 1) (.l 10) (cb false),t_ 54 <|.mov (.l 11)]
def r74_7 : List Op := [f_ 67 <|.load (.v 2) (some 7) (.g 2),u_ <|.store (.v 4) 7 (.g 4) (.l 0),t_ 5 <|.mov (.c (.slice 7 []))]
def r74_8 : List Op := [f_ 69 <|.mov (.g 6),f_ 70 <|.un .not (.l 0),f_ 71 <|.mov (.l 1),n_ 72 2 <|.fad (.g 3) 4,n_ 73 2 <|.load (.v 3) none (.l 3),n_ 74 2 <|.fad (.g 2) 3,n_ 75 2 <|.load (.v 2) none (.l 5),n_ 76 2 <|.bin .gtr (.l 4) (.l 6),f_ 77 <|.pick (.l 2) (cb true) (.l 7),t_ 68 <|.mov (.l 8)]
def r74_9 : List Op := [f_ 78 <|.fad (.g 3) 3,f_ 79 <|.load (.v 3) none (.l 0),f_ 80 <|.fad (.g 3) 5,f_ 81 <|.load (.v 3) none (.l 2),f_ 82 <|.call (.k 69) .no none [.l 3],f_ 83 <|.fad (.g 3) 4,f_ 84 <|.load (.v 3) none (.l 5),f_ 85 <|.fad (.g 2) 1,u_ <|.store (.v 2) 1 (.l 7) (.l 1),f_ 86 <|.fad (.g 2) 2,u_ <|.store (.v 2) 1 (.l 9) (.l 4),f_ 87 <|.fad (.g 2) 3,u_ <|.store (.v 2) 1 (.l 11) (.l 6)]
def r74_10 : List Op := [f_ 88 <|.fad (.g 3) 6,f_ 89 <|.load (.v 3) none (.l 0),f_ 90 <|.fad (.g 3) 6,f_ 91 <|.load (.v 3) none (.l 2),f_ 92 <|.fad (.g 2) 4,u_ <|.store (.v 2) 1 (.l 4) (.l 1),f_ 93 <|.fad (.g 2) 5,u_ <|.store (.v 2) 1 (.l 6) (.l 3),f_ 94 <|.fad (.g 2) 6,u_ <|.store (.v 2) 1 (.l 8) (.c (.slice 1 []))]
def r74_11 : List Op := [f_ 95 <|.load (.v 2) (some 7) (.g 2),f_ 96 <|.fad (.g 2) 0,f_ 97 <|.load (.v 2) none (.l 1),f_ 98 <|.fad (.g 3) 1,f_ 99 <|.load (.v 3) none (.l 3),f_ 100 <|.fad (.g 2) 1,f_ 101 <|.load (.v 2) none (.l 5),f_ 102 <|.fad (.g 2) 3,f_ 103 <|.load (.v 2) none (.l 7),f_ 104 <|.build [.int .i64 0, .int .i64 0, .int .i64 0, .int .i64 0, .int .i64 0, .slice 1 [], .str []] [(0, 1, .c (.int .i64 2)), (1, 1, .l 2), (2, 1, .l 4), (3, 1, .l 6), (4, 1, .l 8)],f_ 105 <|.mks 7 1 [.int .i64 0, .int .i64 0, .int .i64 0, .int .i64 0, .int .i64 0, .slice 1 [], .str []] [(0, .l 9)],u_ <|.store (.v 4) 7 (.g 4) (.l 0),t_ 5 <|.mov (.l 10)]
def c74 : C := .seq (.region false r74_0) (.seq (.seq (.region false r74_1) (.cond (.g 33) (.seq (.region false r74_2) (.ret)) (.skip))) (.seq (.seq (.region false r74_3) (.cond (.g 39) (.seq (.region true r74_4) (.ret)) (.skip))) (.seq (.region false r74_5) (.seq (.block 0 (.seq (.region false r74_6) (.cond (.g 54) (.seq (.region false r74_7) (.ret)) (.seq (.region false r74_8) (.cond (.g 68) (.seq (.region true r74_9) (.region true r74_10)) (.skip)))))) (.seq (.region true r74_11) (.ret))))))
def F74 : F := ⟨2, [0, 1, 2, 3, 4, 5, 6, 33, 39, 54, 68], [.cell 4 (some 7), .t 5], none, c74⟩
attribute [go_sem] r74_0 r74_1 r74_2 r74_3 r74_4 r74_5 r74_6 r74_7 r74_8 r74_9 r74_10 r74_11 c74 F74
def r75_0 : List Op := [t_ 4 <|.mov (ci 0)]
def r75_1 : List Op := [f_ 6 <|.mov (.g 0),t_ 7 <|.len false (.l 0),t_ 8 <|.mov (ci 0)]
def r75_2 : List Op := [t_ 9 <|.bin .lss (.g 8) (.g 7)]
def r75_3 : List Op := [f_ 10 <|.mov (.g 8),t_ 5 <|.mov (.l 0)]
def r75_4 : List Op := [f_ 11 <|.mov (.g 1),f_ 12 <|.mov (.g 0),f_ 13 <|.mov (.g 5),f_ 14 <|.iad 1 (.l 1) (.l 2),f_ 15 <|.load (.c) none (.l 3),t_ 16 <|.bin .eql (.l 0) (.l 4)]
def r75_5 : List Op := [f_ 17 <|.mov (.g 5),t_ 4 <|.mov (.l 0)]
def r75_6 : List Op := [f_ 18 <|.bin .add (.g 8) (ci 1),t_ 8 <|.mov (.l 0)]
def b75_0 : C := .seq (.region false r75_2) (.seq (.cond (.g 9) (.skip) (.exit 0)) (.seq (.block 1 (.seq (.region false r75_3) (.seq (.region false r75_4) (.cond (.g 16) (.seq (.region false r75_5) (.ret)) (.skip))))) (.region false r75_6)))
def l75_0 : C := .loop [] [] [] [] b75_0
def r75_7 : List Op := [t_ 4 <|.mov (ci (-1))]
def c75 : C := .seq (.region false r75_0) (.seq (.seq (.region false r75_1) (.block 0 (l75_0))) (.seq (.region false r75_7) (.ret)))
def F75 : F := ⟨2, [0, 1, 4, 5, 7, 8, 9, 16], [.t 4], none, c75⟩
attribute [go_sem] r75_0 r75_1 r75_2 r75_3 r75_4 r75_5 r75_6 b75_0 r75_7 c75 F75
def r76_0 : List Op := [t_ 4 <|.mov (ci 0)]
def r76_1 : List Op := [f_ 6 <|.mov (.g 0),t_ 7 <|.len false (.l 0),t_ 8 <|.mov (ci 0)]
def r76_2 : List Op := [t_ 9 <|.bin .lss (.g 8) (.g 7)]
def r76_3 : List Op := [f_ 10 <|.mov (.g 8),t_ 5 <|.mov (.l 0)]
def r76_4 : List Op := [f_ 11 <|.mov (.g 1),f_ 12 <|.mov (.g 0),f_ 13 <|.mov (.g 5),f_ 14 <|.iad 1 (.l 1) (.l 2),f_ 15 <|.load (.c) none (.l 3),t_ 16 <|.call (.v (.l 0)) .no none [.l 4]]
def r76_5 : List Op := [f_ 17 <|.mov (.g 5),t_ 4 <|.mov (.l 0)]
def r76_6 : List Op := [f_ 18 <|.bin .add (.g 8) (ci 1),t_ 8 <|.mov (.l 0)]
def b76_0 : C := .seq (.region false r76_2) (.seq (.cond (.g 9) (.skip) (.exit 0)) (.seq (.block 1 (.seq (.region false r76_3) (.seq (.region false r76_4) (.cond (.g 16) (.seq (.region false r76_5) (.ret)) (.skip))))) (.region false r76_6)))
def l76_0 : C := .loop [] [] [] [] b76_0
def r76_7 : List Op := [t_ 4 <|.mov (ci (-1))]
def c76 : C := .seq (.region false r76_0) (.seq (.seq (.region false r76_1) (.block 0 (l76_0))) (.seq (.region false r76_7) (.ret)))
def F76 : F := ⟨2, [0, 1, 4, 5, 7, 8, 9, 16], [.t 4], none, c76⟩
attribute [go_sem] r76_0 r76_1 r76_2 r76_3 r76_4 r76_5 r76_6 b76_0 r76_7 c76 F76
end Sg
namespace Sg
open _root_.Go (IntKind BinOp UnOp)
def r231_0 : List Op := [t_ 2 <|.mov (cb false)]
def r231_1 : List Op := [t_ 3 <|.allo [.int .i64 0, .int .i64 0, .slice 1 [], .int .i64 0, .str [], .str [], .slice 1 [], .int .i64 0, .int .i64 0, .slice 1 [], .int .i64 0, .str [], .str [], .slice 1 [], .int .i64 0, .int .i64 0, .slice 1 [], .int .i64 0, .str [], .str [], .slice 1 [], .nslice 7, .nslice 3, .nslice 1, .nslice 1, .int .i64 0] 10300]
def r231_2 : List Op := [t_ 14 <|.mov (ci 0)]
def r231_3 : List Op := [t_ 15 <|.bin .lss (.g 14) (ci 3)]
def r231_4 : List Op := [f_ 16 <|.mov (.g 14),t_ 4 <|.mov (.l 0)]
def r231_5 : List Op := [f_ 18 <|.mov (.g 4),f_ 19 <|.bin .add (.l 0) (ci 1),f_ 20 <|.mks 1 3 [.int .i64 0] [(0, .c (.int .i64 1)), (1, .c (.int .i64 2)), (2, .c (.int .i64 3))],f_ 21 <|.call (.k 43) .no none [.l 1, .l 2, .c (.str [])],f_ 17 <|.mov (.l 3),f_ 22 <|.ext (.l 4) 0,f_ 23 <|.ext (.l 4) 1,t_ 5 <|.alloc [.int .i64 0, .int .i64 0, .slice 1 [], .int .i64 0, .str [], .str [], .slice 1 []],u_ <|.store (.v 5) 7 (.l 7) (.l 5),t_ 6 <|.mov (.l 6)]
def r231_6 : List Op := [f_ 24 <|.mov (.g 6),t_ 25 <|.bin .neq (.l 0) (ci 0)]
def r231_7 : List Op := [t_ 2 <|.mov (cb false)]
def r231_8 : List Op := [f_ 26 <|.mov (.g 4),f_ 27 <|.load (.v 5) (some 7) (.g 5),f_ 28 <|.fad (.g 3) 0,f_ 29 <|.iada 7 3 (.l 2) (.l 0),u_ <|.store (.v 3) 7 (.l 3) (.l 1)]
def r231_9 : List Op := [f_ 30 <|.bin .add (.g 14) (ci 1),t_ 14 <|.mov (.l 0)]
def b231_0 : C := .seq (.region false r231_3) (.seq (.cond (.g 15) (.skip) (.exit 0)) (.seq (.block 1 (.seq (.region false r231_4) (.seq (.region false r231_5) (.seq (.seq (.region false r231_6) (.cond (.g 25) (.seq (.region false r231_7) (.ret)) (.skip))) (.region false r231_8))))) (.region false r231_9)))
def l231_0 : C := .loop [] [] [5] [] b231_0
def r231_10 : List Op := [t_ 7 <|.mov (ci 0)]
def r231_11 : List Op := [f_ 31 <|.mov (.g 7),f_ 32 <|.mov (.g 0),f_ 33 <|.len false (.l 1),f_ 34 <|.bin .lss (.l 0) (.l 2),f_ 35 <|.mov (.l 3),y_ 36 4 <|.mov (.g 7),y_ 37 4 <|.bin .lss (.l 5) (ci 60),t_ 38 <|.pick (.l 4) (.l 6) (cb false)]
def r231_12 : List Op := [f_ 41 <|.mov (.g 0),f_ 42 <|.mov (.g 7),f_ 43 <|.iad 3 (.l 0) (.l 1),f_ 44 <|.load (.c) (some 3) (.l 2),f_ 45 <|.rcall 229 [.g 3, .l 3] 0 3 20000]
def r231_13 : List Op := [f_ 39 <|.mov (.g 7),f_ 40 <|.bin .add (.l 0) (ci 1),t_ 7 <|.mov (.l 1)]
def b231_1 : C := .seq (.seq (.region false r231_11) (.cond (.g 38) (.skip) (.exit 2))) (.seq (.block 3 (.region false r231_12)) (.region false r231_13))
def l231_1 : C := .loop [] [3, 21, 10321, 3, 22, 10322, 3, 23, 10323, 3, 24, 10324] [] [20021, 20022, 20023, 20024] b231_1
def r231_14 : List Op := [t_ 8 <|.mov (ci 0)]
def r231_15 : List Op := [t_ 46 <|.mov (ci 0)]
def r231_16 : List Op := [t_ 47 <|.bin .lss (.g 46) (ci 3)]
def r231_17 : List Op := [f_ 48 <|.mov (.g 46),t_ 9 <|.mov (.l 0)]
def r231_18 : List Op := [f_ 49 <|.mov (.g 9),f_ 50 <|.fad (.g 3) 0,f_ 51 <|.iada 7 3 (.l 1) (.l 0),f_ 52 <|.fad (.l 2) 1,f_ 53 <|.load (.v 3) none (.l 3),f_ 54 <|.mov (.g 8),f_ 55 <|.fad (.g 3) 0,f_ 56 <|.iada 7 3 (.l 6) (.l 5),f_ 57 <|.fad (.l 7) 1,f_ 58 <|.load (.v 3) none (.l 8),f_ 59 <|.bin .gtr (.l 4) (.l 9),f_ 60 <|.mov (.l 10),n_ 61 11 <|.mov (.g 9),n_ 62 11 <|.fad (.g 3) 0,n_ 63 11 <|.iada 7 3 (.l 13) (.l 12),n_ 64 11 <|.fad (.l 14) 1,n_ 65 11 <|.load (.v 3) none (.l 15),n_ 66 11 <|.mov (.g 8),n_ 67 11 <|.fad (.g 3) 0,n_ 68 11 <|.iada 7 3 (.l 18) (.l 17),n_ 69 11 <|.fad (.l 19) 1,n_ 70 11 <|.load (.v 3) none (.l 20),n_ 71 11 <|.bin .eql (.l 16) (.l 21),n_ 72 11 <|.mov (.l 22),y_ 73 23 <|.mov (.g 9),y_ 74 23 <|.fad (.g 3) 0,y_ 75 23 <|.iada 7 3 (.l 25) (.l 24),y_ 76 23 <|.load (.v 3) (some 7) (.l 26),y_ 77 23 <|.call (.k 40) .no none [.l 27],n_ 78 11 <|.pick (.l 23) (.l 28) (cb false),t_ 79 <|.pick (.l 11) (cb true) (.l 29)]
def r231_19 : List Op := [f_ 80 <|.mov (.g 9),t_ 8 <|.mov (.l 0)]
def r231_20 : List Op := [f_ 81 <|.bin .add (.g 46) (ci 1),t_ 46 <|.mov (.l 0)]
def b231_2 : C := .seq (.region false r231_16) (.seq (.cond (.g 47) (.skip) (.exit 4)) (.seq (.block 5 (.seq (.region false r231_17) (.seq (.region true r231_18) (.cond (.g 79) (.region false r231_19) (.skip))))) (.region false r231_20)))
def l231_2 : C := .loop [] [] [] [] b231_2
def r231_21 : List Op := [f_ 82 <|.mov (.g 8),f_ 83 <|.fad (.g 3) 0,f_ 84 <|.iada 7 3 (.l 1) (.l 0),f_ 85 <|.load (.v 3) (some 7) (.l 2),f_ 86 <|.call (.k 40) .no none [.l 3],t_ 87 <|.un .not (.l 4)]
def r231_22 : List Op := [t_ 2 <|.mov (cb false)]
def r231_23 : List Op := [f_ 88 <|.fad (.g 3) 21,u_ <|.store (.v 3) 1 (.l 0) (.c (.nslice 7))]
def r231_24 : List Op := [f_ 89 <|.mov (.g 8),f_ 90 <|.fad (.g 3) 0,f_ 91 <|.iada 7 3 (.l 1) (.l 0),f_ 92 <|.load (.v 3) (some 7) (.l 2),f_ 93 <|.call (.k 51) .no none [.l 3],f_ 94 <|.rcall 232 [.g 3, .l 4] 0 3 20100]
def r231_25 : List Op := [t_ 10 <|.mov (ci 0)]
def r231_26 : List Op := [f_ 95 <|.mov (.g 10),f_ 96 <|.bin .lss (.l 0) (ci 20),f_ 97 <|.mov (.l 1),y_ 98 2 <|.fad (.g 3) 21,y_ 99 2 <|.load (.v 3) none (.l 3),y_ 100 2 <|.len false (.l 4),y_ 101 2 <|.bin .gtr (.l 5) (ci 0),t_ 102 <|.pick (.l 2) (.l 6) (cb false)]
def r231_27 : List Op := [f_ 105 <|.rcall 233 [.g 3, .c (.int .i64 0)] 0 3 20200,f_ 106 <|.rcall 234 [.g 3, .l 0] 0 3 20300]
def r231_28 : List Op := [f_ 103 <|.mov (.g 10),f_ 104 <|.bin .add (.l 0) (ci 1),t_ 10 <|.mov (.l 1)]
def b231_3 : C := .seq (.seq (.region false r231_26) (.cond (.g 102) (.skip) (.exit 6))) (.seq (.block 7 (.region false r231_27)) (.region false r231_28))
def l231_3 : C := .loop [] [3, 21, 10321, 3, 22, 10322, 3, 23, 10323, 3, 24, 10324] [] [20221, 20222, 20223, 20224, 20321, 20322, 20323, 20324] b231_3
def r231_29 : List Op := [f_ 107 <|.mov (.g 8),f_ 108 <|.fad (.g 3) 0,f_ 109 <|.iada 7 3 (.l 1) (.l 0),f_ 110 <|.load (.v 3) (some 7) (.l 2),t_ 11 <|.alloc [.int .i64 0, .int .i64 0, .slice 1 [], .int .i64 0, .str [], .str [], .slice 1 []],u_ <|.store (.v 11) 7 (.l 4) (.l 3)]
def r231_30 : List Op := [f_ 111 <|.load (.v 11) (some 7) (.g 11),f_ 112 <|.call (.k 41) .no none [.l 0],f_ 113 <|.mov (.l 1),n_ 114 2 <|.fad (.g 11) 4,n_ 115 2 <|.load (.v 11) none (.l 3),n_ 116 2 <|.fad (.g 11) 5,n_ 117 2 <|.load (.v 11) none (.l 5),n_ 118 2 <|.bin .neq (.l 4) (.l 6),t_ 119 <|.pick (.l 2) (cb true) (.l 7)]
def r231_31 : List Op := [t_ 2 <|.mov (cb false)]
def r231_32 : List Op := [f_ 120 <|.fad (.g 11) 2,t_ 121 <|.load (.v 11) none (.l 0),t_ 122 <|.len false (.l 1),t_ 123 <|.mov (ci 0)]
def r231_33 : List Op := [t_ 124 <|.bin .lss (.g 123) (.g 122)]
def r231_34 : List Op := [f_ 125 <|.iad 1 (.g 121) (.g 123),f_ 126 <|.load (.c) none (.l 0),t_ 13 <|.mov (.l 1)]
def r231_35 : List Op := [f_ 127 <|.mov (.g 13),f_ 128 <|.bin .sub (.l 0) (ci 1),f_ 129 <|.fad (.g 3) 0,f_ 130 <|.iada 7 3 (.l 2) (.l 1),f_ 131 <|.fad (.l 3) 5,f_ 132 <|.load (.v 3) none (.l 4),f_ 133 <|.fad (.g 11) 5,f_ 134 <|.load (.v 11) none (.l 6),f_ 135 <|.bin .neq (.l 5) (.l 7),f_ 136 <|.mov (.l 8),n_ 137 9 <|.mov (.g 13),n_ 138 9 <|.bin .sub (.l 10) (ci 1),n_ 139 9 <|.fad (.g 3) 0,n_ 140 9 <|.iada 7 3 (.l 12) (.l 11),n_ 141 9 <|.fad (.l 13) 1,n_ 142 9 <|.load (.v 3) none (.l 14),n_ 143 9 <|.fad (.g 11) 1,n_ 144 9 <|.load (.v 11) none (.l 16),n_ 145 9 <|.bin .neq (.l 15) (.l 17),t_ 146 <|.pick (.l 9) (cb true) (.l 18)]
def r231_36 : List Op := [t_ 2 <|.mov (cb false)]
def r231_37 : List Op := [f_ 147 <|.bin .add (.g 123) (ci 1),t_ 123 <|.mov (.l 0)]
def b231_4 : C := .seq (.region false r231_33) (.seq (.cond (.g 124) (.skip) (.exit 8)) (.seq (.block 9 (.seq (.region false r231_34) (.seq (.region true r231_35) (.cond (.g 146) (.seq (.region false r231_36) (.ret)) (.skip))))) (.region false r231_37)))
def l231_4 : C := .loop [] [] [] [] b231_4
def r231_38 : List Op := [f_ 148 <|.call (.k 35) .no none [],t_ 2 <|.mov (.l 0)]
def c231 : C := .seq (.region false r231_0) (.seq (.region false r231_1) (.seq (.seq (.region false r231_2) (.block 0 (l231_0))) (.seq (.seq (.region false r231_10) (.block 2 (l231_1))) (.seq (.region false r231_14) (.seq (.seq (.region false r231_15) (.block 4 (l231_2))) (.seq (.seq (.region false r231_21) (.cond (.g 87) (.seq (.region false r231_22) (.ret)) (.skip))) (.seq (.region false r231_23) (.seq (.region false r231_24) (.seq (.seq (.region false r231_25) (.block 6 (l231_3))) (.seq (.region false r231_29) (.seq (.seq (.region false r231_30) (.cond (.g 119) (.seq (.region false r231_31) (.ret)) (.skip))) (.seq (.seq (.region false r231_32) (.block 8 (l231_4))) (.seq (.region false r231_38) (.ret))))))))))))))
def F231 : F := ⟨1, [0, 2, 3, 4, 5, 6, 7, 8, 9, 10, 11, 13, 14, 15, 25, 38, 46, 47, 79, 87, 102, 119, 121, 122, 123, 124, 146], [.t 2], none, c231⟩
attribute [go_sem] r231_0 r231_1 r231_2 r231_3 r231_4 r231_5 r231_6 r231_7 r231_8 r231_9 b231_0 r231_10 r231_11 r231_12 r231_13 b231_1 r231_14 r231_15 r231_16 r231_17 r231_18 r231_19 r231_20 b231_2 r231_21 r231_22 r231_23 r231_24 r231_25 r231_26 r231_27 r231_28 b231_3 r231_29 r231_30 r231_31 r231_32 r231_33 r231_34 r231_35 r231_36 r231_37 b231_4 r231_38 c231 F231
def r229_0 : List Op := [t_ 3 <|.box (.g 1)]
def r229_1 : List Op := [f_ 9 <|.fad (.g 3) 1,f_ 10 <|.load (.v 3) none (.l 0),f_ 11 <|.conv (.int .u64) (.l 1),f_ 12 <|.bin .rem (.l 2) (.c (.int .u64 3)),f_ 13 <|.conv (.int .i64) (.l 3),t_ 4 <|.mov (.l 4)]
def r229_2 : List Op := [f_ 14 <|.fad (.g 3) 0,f_ 15 <|.load (.v 3) none (.l 0),f_ 16 <|.conv (.int .u64) (.l 1),f_ 17 <|.bin .rem (.l 2) (.c (.int .u64 12)),t_ 5 <|.mov (.l 3)]
def r229_3 : List Op := [f_ 34 <|.mov (.g 5),f_ 35 <|.bin .lss (.l 0) (.c (.int .u64 3)),t_ 33 <|.mov (.l 1)]
def r229_4 : List Op := [f_ 36 <|.mov (.g 0),f_ 37 <|.nilc (.l 0),f_ 38 <|.fad (.l 1) 25,f_ 39 <|.load (.v 0) none (.l 2),f_ 40 <|.bin .add (.l 3) (ci 1),f_ 41 <|.nilc (.l 0),f_ 42 <|.fad (.l 5) 25,u_ <|.store (.v 0) 1 (.l 6) (.l 4)]
def r229_5 : List Op := [f_ 44 <|.mov (.g 0),f_ 45 <|.mov (.g 4),f_ 46 <|.nilc (.l 0),f_ 47 <|.fad (.l 2) 0,f_ 48 <|.iada 7 3 (.l 3) (.l 1),f_ 49 <|.load (.v 0) (some 7) (.l 4),f_ 50 <|.mov (.g 0),f_ 51 <|.mov (.g 4),f_ 52 <|.nilc (.l 6),f_ 53 <|.fad (.l 8) 0,f_ 54 <|.iada 7 3 (.l 9) (.l 7),f_ 55 <|.fad (.l 10) 4,f_ 56 <|.load (.v 0) none (.l 11),f_ 57 <|.mov (.g 0),f_ 58 <|.nilc (.l 13),f_ 59 <|.fad (.l 14) 25,f_ 60 <|.load (.v 0) none (.l 15),f_ 61 <|.bin .rem (.l 16) (ci 26),f_ 62 <|.bin .add (ci 97) (.l 17),f_ 63 <|.conv (.int .u8) (.l 18),f_ 64 <|.mks 1 1 [.int .u8 0] [(0, .l 19)],f_ 65 <|.b2s (.l 20),f_ 66 <|.bin .add (.l 12) (.l 21),f_ 67 <|.call (.k 47) .no none [.l 5, .l 22],f_ 43 <|.mov (.l 23),f_ 68 <|.ext (.l 24) 0,f_ 69 <|.ext (.l 24) 1,f_ 70 <|.ext (.l 24) 2,t_ 6 <|.alloc [.int .i64 0, .int .i64 0, .slice 1 [], .int .i64 0, .str [], .str [], .slice 1 []],u_ <|.store (.v 6) 7 (.l 28) (.l 25),t_ 7 <|.mov (.l 26),t_ 8 <|.mov (.l 27)]
def r229_6 : List Op := [f_ 71 <|.mov (.g 8),t_ 72 <|.bin .eql (.l 0) (ci 0)]
def r229_7 : List Op := [f_ 73 <|.mov (.g 0),f_ 74 <|.mov (.g 4),f_ 75 <|.load (.v 6) (some 7) (.g 6),f_ 76 <|.nilc (.l 0),f_ 77 <|.fad (.l 3) 0,f_ 78 <|.iada 7 3 (.l 4) (.l 1),u_ <|.store (.v 0) 7 (.l 5) (.l 2)]
def r229_8 : List Op := [f_ 79 <|.mov (.g 0),f_ 80 <|.mov (.g 7),f_ 81 <|.rcall 232 [.l 0, .l 1] 0 0 20000]
def r229_9 : List Op := [f_ 83 <|.mov (.g 5),f_ 84 <|.bin .eql (.l 0) (.c (.int .u64 10)),t_ 82 <|.mov (.l 1)]
def r229_10 : List Op := [f_ 85 <|.mov (.g 0),f_ 86 <|.mov (.g 0),f_ 87 <|.mov (.g 4),f_ 88 <|.nilc (.l 1),f_ 89 <|.fad (.l 3) 0,f_ 90 <|.iada 7 3 (.l 4) (.l 2),f_ 91 <|.load (.v 0) (some 7) (.l 5),f_ 92 <|.call (.k 51) .no none [.l 6],f_ 93 <|.rcall 232 [.l 0, .l 7] 0 0 20100]
def r229_11 : List Op := [f_ 95 <|.mov (.g 5),f_ 96 <|.bin .eql (.l 0) (.c (.int .u64 11)),t_ 94 <|.mov (.l 1)]
def r229_12 : List Op := [f_ 97 <|.mov (.g 0),f_ 98 <|.mov (.g 4),f_ 99 <|.fad (.g 3) 2,f_ 100 <|.load (.v 3) none (.l 2),f_ 101 <|.conv (.int .u64) (.l 3),f_ 102 <|.bin .rem (.l 4) (.c (.int .u64 16)),f_ 103 <|.conv (.int .i64) (.l 5),f_ 104 <|.rcall 235 [.l 0, .l 1, .l 6] 0 0 20200]
def r229_13 : List Op := [f_ 106 <|.mov (.g 0),f_ 107 <|.nilc (.l 0),f_ 108 <|.fad (.l 1) 21,f_ 109 <|.load (.v 0) none (.l 2),f_ 110 <|.len false (.l 3),f_ 111 <|.bin .eql (.l 4) (ci 0),t_ 105 <|.mov (.l 5)]
def r229_14 : List Op := [f_ 113 <|.mov (.g 5),f_ 114 <|.bin .eql (.l 0) (.c (.int .u64 8)),t_ 112 <|.mov (.l 1)]
def r229_15 : List Op := [f_ 115 <|.mov (.g 0),f_ 116 <|.fad (.g 3) 2,f_ 117 <|.load (.v 3) none (.l 1),f_ 118 <|.conv (.int .u64) (.l 2),f_ 119 <|.mov (.g 0),f_ 120 <|.nilc (.l 4),f_ 121 <|.fad (.l 5) 21,f_ 122 <|.load (.v 0) none (.l 6),f_ 123 <|.len false (.l 7),f_ 124 <|.conv (.int .u64) (.l 8),f_ 125 <|.bin .rem (.l 3) (.l 9),f_ 126 <|.conv (.int .i64) (.l 10),f_ 127 <|.rcall 233 [.l 0, .l 11] 0 0 20300]
def r229_16 : List Op := [f_ 129 <|.mov (.g 5),f_ 130 <|.bin .eql (.l 0) (.c (.int .u64 9)),t_ 128 <|.mov (.l 1)]
def r229_17 : List Op := [f_ 131 <|.mov (.g 0),f_ 132 <|.mov (.g 0),f_ 133 <|.nilc (.l 1),f_ 134 <|.fad (.l 2) 21,f_ 135 <|.load (.v 0) none (.l 3),f_ 136 <|.fad (.g 3) 2,f_ 137 <|.load (.v 3) none (.l 5),f_ 138 <|.conv (.int .u64) (.l 6),f_ 139 <|.mov (.g 0),f_ 140 <|.nilc (.l 8),f_ 141 <|.fad (.l 9) 21,f_ 142 <|.load (.v 0) none (.l 10),f_ 143 <|.len false (.l 11),f_ 144 <|.conv (.int .u64) (.l 12),f_ 145 <|.bin .rem (.l 7) (.l 13),f_ 146 <|.iad 7 (.l 4) (.l 14),f_ 147 <|.load (.x) (some 7) (.l 15),f_ 148 <|.rcall 234 [.l 0, .l 16] 0 0 20400]
def r229_18 : List Op := [f_ 18 <|.mov (.g 0),f_ 19 <|.mov (.g 0),f_ 20 <|.fad (.g 3) 2,f_ 21 <|.load (.v 3) none (.l 2),f_ 22 <|.conv (.int .u64) (.l 3),f_ 23 <|.mov (.g 0),f_ 24 <|.nilc (.l 5),f_ 25 <|.fad (.l 6) 21,f_ 26 <|.load (.v 0) none (.l 7),f_ 27 <|.len false (.l 8),f_ 28 <|.conv (.int .u64) (.l 9),f_ 29 <|.bin .rem (.l 4) (.l 10),f_ 30 <|.conv (.int .i64) (.l 11),f_ 31 <|.rcall 233 [.l 1, .l 12] 0 0 20500,f_ 32 <|.rcall 234 [.l 0, .l 13] 0 0 20600]
def c229 : C := .seq (.region false r229_0) (.seq (.region false r229_1) (.seq (.region false r229_2) (.block 0 (.seq (.region false r229_3) (.cond (.g 33) (.seq (.region false r229_4) (.seq (.region true r229_5) (.seq (.region false r229_6) (.cond (.g 72) (.seq (.region true r229_7) (.region false r229_8)) (.skip))))) (.seq (.region false r229_9) (.cond (.g 82) (.region false r229_10) (.seq (.region false r229_11) (.cond (.g 94) (.region false r229_12) (.seq (.region false r229_13) (.cond (.g 105) (.skip) (.seq (.region false r229_14) (.cond (.g 112) (.region true r229_15) (.seq (.region false r229_16) (.cond (.g 128) (.region true r229_17) (.region true r229_18))))))))))))))))
def F229 : F := ⟨2, [0, 1, 3, 4, 5, 6, 7, 8, 33, 72, 82, 94, 105, 112, 128], [], none, c229⟩
attribute [go_sem] r229_0 r229_1 r229_2 r229_3 r229_4 r229_5 r229_6 r229_7 r229_8 r229_9 r229_10 r229_11 r229_12 r229_13 r229_14 r229_15 r229_16 r229_17 r229_18 c229 F229
def r232_0 : List Op := [t_ 6 <|.mov (.g 1),t_ 7 <|.len false (.l 0),t_ 8 <|.mov (ci 0)]
def r232_1 : List Op := [t_ 9 <|.bin .lss (.g 8) (.g 7)]
def r232_2 : List Op := [f_ 10 <|.iad 7 (.g 6) (.g 8),f_ 11 <|.load (.c) (some 7) (.l 0),t_ 5 <|.alloc [.int .i64 0, .int .i64 0, .int .i64 0, .int .i64 0, .int .i64 0, .slice 1 [], .str []],u_ <|.store (.v 5) 7 (.l 2) (.l 1)]
def r232_3 : List Op := [f_ 12 <|.mov (.g 0),f_ 13 <|.nilc (.l 0),f_ 14 <|.fad (.l 1) 21,f_ 15 <|.load (.v 0) none (.l 2),f_ 16 <|.len false (.l 3),t_ 17 <|.bin .lss (.l 4) (ci 200)]
def r232_4 : List Op := [f_ 18 <|.mov (.g 0),f_ 19 <|.mov (.g 0),f_ 20 <|.nilc (.l 1),f_ 21 <|.fad (.l 2) 21,f_ 22 <|.load (.v 0) none (.l 3),f_ 23 <|.load (.v 5) (some 7) (.g 5),f_ 24 <|.mks 7 1 [.int .i64 0, .int .i64 0, .int .i64 0, .int .i64 0, .int .i64 0, .slice 1 [], .str []] [(0, .l 5)],f_ 25 <|.appd 7 (.l 4) (.l 6),f_ 26 <|.nilc (.l 0),f_ 27 <|.fad (.l 8) 21,u_ <|.store (.v 0) 1 (.l 9) (.l 7)]
def r232_5 : List Op := [f_ 28 <|.bin .add (.g 8) (ci 1),t_ 8 <|.mov (.l 0)]
def b232_0 : C := .seq (.region false r232_1) (.seq (.cond (.g 9) (.skip) (.exit 0)) (.seq (.block 1 (.seq (.region false r232_2) (.seq (.region false r232_3) (.cond (.g 17) (.region true r232_4) (.skip))))) (.region false r232_5)))
def l232_0 : C := .loop [] [0, 21, 9021, 0, 22, 9022, 0, 23, 9023, 0, 24, 9024] [5] [] b232_0
def c232 : C := .seq (.region false r232_0) (.block 0 (l232_0))
def F232 : F := ⟨2, [0, 1, 5, 6, 7, 8, 9, 17], [], none, c232⟩
attribute [go_sem] r232_0 r232_1 r232_2 r232_3 r232_4 r232_5 b232_0 c232 F232
def r233_0 : List Op := [t_ 4 <|.alloc [.int .i64 0, .int .i64 0, .int .i64 0, .int .i64 0, .int .i64 0, .slice 1 [], .str []]]
def r233_1 : List Op := [f_ 7 <|.mov (.g 0),f_ 8 <|.nilc (.l 0),f_ 9 <|.fad (.l 1) 21,f_ 10 <|.load (.v 0) none (.l 2),f_ 11 <|.mov (.g 1),f_ 12 <|.iad 7 (.l 3) (.l 4),f_ 13 <|.load (.x) (some 7) (.l 5),t_ 5 <|.alloc [.int .i64 0, .int .i64 0, .int .i64 0, .int .i64 0, .int .i64 0, .slice 1 [], .str []],u_ <|.store (.v 5) 7 (.l 7) (.l 6)]
def r233_2 : List Op := [t_ 6 <|.mkoz 7 9021]
def r233_3 : List Op := [f_ 14 <|.mov (.g 0),f_ 15 <|.mov (.g 6),f_ 16 <|.mov (.g 0),f_ 17 <|.nilc (.l 2),f_ 18 <|.fad (.l 3) 21,f_ 19 <|.load (.v 0) none (.l 4),f_ 20 <|.mov (.g 1),f_ 21 <|.slr 9021 7 (.l 5) none (some (.l 6)),f_ 22 <|.app 6 7 (.l 1) (.l 7),f_ 23 <|.mov (.g 0),f_ 24 <|.nilc (.l 9),f_ 25 <|.fad (.l 10) 21,f_ 26 <|.load (.v 0) none (.l 11),f_ 27 <|.mov (.g 1),f_ 28 <|.bin .add (.l 13) (ci 1),f_ 29 <|.slr 9021 7 (.l 12) (some (.l 14)) none,f_ 30 <|.app 6 7 (.l 8) (.l 15),f_ 31 <|.nilc (.l 0),f_ 32 <|.fad (.l 17) 21,u_ <|.store (.v 0) 1 (.l 18) (.l 16)]
def r233_4 : List Op := [f_ 33 <|.load (.v 5) (some 7) (.g 5),u_ <|.store (.v 4) 7 (.g 4) (.l 0)]
def c233 : C := .seq (.region false r233_0) (.seq (.region false r233_1) (.seq (.region false r233_2) (.seq (.region true r233_3) (.seq (.region false r233_4) (.ret)))))
def F233 : F := ⟨2, [0, 1, 4, 5, 6], [.cell 4 (some 7)], none, c233⟩
attribute [go_sem] r233_0 r233_1 r233_2 r233_3 r233_4 c233 F233
def r234_0 : List Op := [t_ 3 <|.box (.g 1)]
def r234_1 : List Op := [f_ 6 <|.fad (.g 3) 2,f_ 7 <|.load (.v 3) none (.l 0),f_ 8 <|.bin .lss (.l 1) (ci 1),f_ 9 <|.mov (.l 2),n_ 10 3 <|.fad (.g 3) 2,n_ 11 3 <|.load (.v 3) none (.l 4),n_ 12 3 <|.bin .gtr (.l 5) (ci 3),t_ 13 <|.pick (.l 3) (cb true) (.l 6)]
def r234_2 : List Op := [f_ 15 <|.mov (.g 0),f_ 16 <|.fad (.g 3) 2,f_ 17 <|.load (.v 3) none (.l 1),f_ 18 <|.bin .sub (.l 2) (ci 1),f_ 19 <|.nilc (.l 0),f_ 20 <|.fad (.l 4) 0,f_ 21 <|.iada 7 3 (.l 5) (.l 3),f_ 22 <|.load (.v 0) (some 7) (.l 6),f_ 23 <|.load (.v 3) (some 7) (.g 3),f_ 24 <|.call (.k 57) .no none [.l 7, .l 8],f_ 14 <|.mov (.l 9),f_ 25 <|.ext (.l 10) 0,f_ 26 <|.ext (.l 10) 1,t_ 4 <|.alloc [.int .i64 0, .int .i64 0, .slice 1 [], .int .i64 0, .str [], .str [], .slice 1 []],u_ <|.store (.v 4) 7 (.l 13) (.l 11),t_ 5 <|.mov (.l 12)]
def r234_3 : List Op := [f_ 27 <|.mov (.g 0),f_ 28 <|.fad (.g 3) 2,f_ 29 <|.load (.v 3) none (.l 1),f_ 30 <|.bin .sub (.l 2) (ci 1),f_ 31 <|.load (.v 4) (some 7) (.g 4),f_ 32 <|.nilc (.l 0),f_ 33 <|.fad (.l 5) 0,f_ 34 <|.iada 7 3 (.l 6) (.l 3),u_ <|.store (.v 0) 7 (.l 7) (.l 4)]
def r234_4 : List Op := [f_ 35 <|.mov (.g 0),f_ 36 <|.mov (.g 5),f_ 37 <|.rcall 232 [.l 0, .l 1] 0 0 20000]
def c234 : C := .seq (.region false r234_0) (.seq (.seq (.region false r234_1) (.cond (.g 13) (.ret) (.skip))) (.seq (.region true r234_2) (.seq (.region true r234_3) (.region false r234_4))))
def F234 : F := ⟨2, [0, 1, 3, 4, 5, 13], [], none, c234⟩
attribute [go_sem] r234_0 r234_1 r234_2 r234_3 r234_4 c234 F234
def r235_0 : List Op := [f_ 14 <|.mov (.g 0),f_ 15 <|.mov (.g 1),f_ 16 <|.nilc (.l 0),f_ 17 <|.fad (.l 2) 0,f_ 18 <|.iada 7 3 (.l 3) (.l 1),f_ 19 <|.load (.v 0) (some 7) (.l 4),t_ 6 <|.alloc [.int .i64 0, .int .i64 0, .slice 1 [], .int .i64 0, .str [], .str [], .slice 1 []],u_ <|.store (.v 6) 7 (.l 6) (.l 5)]
def r235_1 : List Op := [f_ 20 <|.fad (.g 6) 1,f_ 21 <|.load (.v 6) none (.l 0),f_ 22 <|.bin .add (.l 1) (ci 1),f_ 23 <|.mov (.g 1),f_ 24 <|.mov (.g 1),f_ 25 <|.bin .add (.l 4) (ci 1),f_ 26 <|.mkb 1 1 [.int .i64 0] [(0, .l 5)],f_ 27 <|.build [.int .i64 0, .int .i64 0, .slice 1 []] [(0, 1, .l 2), (1, 1, .l 3), (2, 1, .l 6)],t_ 7 <|.alloc [.int .i64 0, .int .i64 0, .slice 1 []],u_ <|.store (.v 7) 3 (.l 8) (.l 7)]
def r235_2 : List Op := [t_ 8 <|.mov (ci 1)]
def r235_3 : List Op := [f_ 28 <|.mov (.g 8),t_ 29 <|.bin .leq (.l 0) (ci 3)]
def r235_4 : List Op := [f_ 32 <|.mov (.g 8),f_ 33 <|.mov (.g 1),f_ 34 <|.bin .add (.l 1) (ci 1),f_ 35 <|.bin .neq (.l 0) (.l 2),f_ 36 <|.mov (.l 3),y_ 37 4 <|.mov (.g 2),y_ 38 4 <|.mov (.g 8),y_ 39 4 <|.sh .shr (.l 5) (.l 6),y_ 40 4 <|.bin .and (.l 7) (ci 1),y_ 41 4 <|.bin .eql (.l 8) (ci 1),t_ 42 <|.pick (.l 4) (.l 9) (cb false)]
def r235_5 : List Op := [f_ 43 <|.fad (.g 7) 2,f_ 44 <|.load (.v 7) none (.l 0),f_ 45 <|.mov (.g 8),f_ 46 <|.mks 1 1 [.int .i64 0] [(0, .l 2)],f_ 47 <|.app 26 1 (.l 1) (.l 3),f_ 48 <|.fad (.g 7) 2,u_ <|.store (.v 7) 1 (.l 5) (.l 4)]
def r235_6 : List Op := [f_ 30 <|.mov (.g 8),f_ 31 <|.bin .add (.l 0) (ci 1),t_ 8 <|.mov (.l 1)]
def b235_0 : C := .seq (.seq (.region false r235_3) (.cond (.g 29) (.skip) (.exit 0))) (.seq (.block 1 (.seq (.region false r235_4) (.cond (.g 42) (.region false r235_5) (.skip)))) (.region false r235_6))
def l235_0 : C := .loop [] [] [] [] b235_0
def r235_7 : List Op := [f_ 49 <|.mov (.g 0),f_ 50 <|.nilc (.l 0),f_ 51 <|.fad (.l 1) 22,t_ 52 <|.load (.v 0) none (.l 2),t_ 53 <|.len false (.l 3),t_ 54 <|.mov (ci 0)]
def r235_8 : List Op := [t_ 55 <|.bin .lss (.g 54) (.g 53)]
def r235_9 : List Op := [f_ 56 <|.iad 3 (.g 52) (.g 54),f_ 57 <|.load (.x) (some 3) (.l 0),t_ 10 <|.alloc [.int .i64 0, .int .i64 0, .slice 1 []],u_ <|.store (.v 10) 3 (.l 2) (.l 1)]
def r235_10 : List Op := [f_ 58 <|.fad (.g 10) 0,f_ 59 <|.load (.v 10) none (.l 0),f_ 60 <|.fad (.g 7) 0,f_ 61 <|.load (.v 7) none (.l 2),f_ 62 <|.bin .eql (.l 1) (.l 3),f_ 63 <|.mov (.l 4),y_ 64 5 <|.fad (.g 10) 1,y_ 65 5 <|.load (.v 10) none (.l 6),y_ 66 5 <|.mov (.g 1),y_ 67 5 <|.bin .neq (.l 7) (.l 8),t_ 68 <|.pick (.l 5) (.l 9) (cb false)]
def r235_11 : List Op := [f_ 69 <|.fad (.g 10) 0,f_ 70 <|.load (.v 10) none (.l 0),f_ 71 <|.fad (.g 7) 0,f_ 72 <|.load (.v 7) none (.l 2),t_ 73 <|.bin .eql (.l 1) (.l 3)]
def r235_12 : List Op := [f_ 74 <|.load (.v 10) (some 3) (.g 10),u_ <|.store (.v 7) 3 (.g 7) (.l 0)]
def r235_13 : List Op := [f_ 75 <|.bin .add (.g 54) (ci 1),t_ 54 <|.mov (.l 0)]
def b235_1 : C := .seq (.region false r235_8) (.seq (.cond (.g 55) (.skip) (.exit 2)) (.seq (.block 3 (.seq (.region false r235_9) (.seq (.seq (.region false r235_10) (.cond (.g 68) (.ret) (.skip))) (.seq (.region false r235_11) (.cond (.g 73) (.region false r235_12) (.skip)))))) (.region false r235_13)))
def l235_1 : C := .loop [] [] [10] [] b235_1
def r235_14 : List Op := [f_ 77 <|.load (.v 6) (some 7) (.g 6),f_ 78 <|.fad (.g 7) 0,f_ 79 <|.load (.v 7) none (.l 1),f_ 80 <|.fad (.g 7) 2,f_ 81 <|.load (.v 7) none (.l 3),f_ 82 <|.call (.k 54) .freeze none [.l 0, .l 2, .l 4],f_ 76 <|.mov (.l 5),f_ 83 <|.ext (.l 6) 0,f_ 84 <|.ext (.l 6) 1,f_ 85 <|.ext (.l 6) 2,t_ 11 <|.alloc [.int .i64 0, .int .i64 0, .slice 1 [], .int .i64 0, .str [], .str [], .slice 1 []],u_ <|.store (.v 11) 7 (.l 10) (.l 7),t_ 12 <|.mov (.l 8),t_ 13 <|.mov (.l 9)]
def r235_15 : List Op := [f_ 86 <|.mov (.g 13),t_ 87 <|.bin .neq (.l 0) (ci 0)]
def r235_16 : List Op := [f_ 88 <|.mov (.g 0),f_ 89 <|.mov (.g 0),f_ 90 <|.nilc (.l 1),f_ 91 <|.fad (.l 2) 22,f_ 92 <|.load (.v 0) none (.l 3),f_ 93 <|.ldf 26 7 3 (.g 7),f_ 94 <|.mks 3 1 [.int .i64 0, .int .i64 0, .slice 1 []] [(0, .l 5)],f_ 95 <|.appd 3 (.l 4) (.l 6),f_ 96 <|.nilc (.l 0),f_ 97 <|.fad (.l 8) 22,u_ <|.store (.v 0) 1 (.l 9) (.l 7)]
def r235_17 : List Op := [f_ 98 <|.mov (.g 0),f_ 99 <|.mov (.g 1),f_ 100 <|.load (.v 11) (some 7) (.g 11),f_ 101 <|.nilc (.l 0),f_ 102 <|.fad (.l 3) 0,f_ 103 <|.iada 7 3 (.l 4) (.l 1),u_ <|.store (.v 0) 7 (.l 5) (.l 2)]
def r235_18 : List Op := [f_ 104 <|.mov (.g 0),f_ 105 <|.mov (.g 12),f_ 106 <|.rcall 232 [.l 0, .l 1] 0 0 20000]
def c235 : C := .seq (.region false r235_0) (.seq (.region false r235_1) (.seq (.seq (.region false r235_2) (.block 0 (l235_0))) (.seq (.seq (.region false r235_7) (.block 2 (l235_1))) (.seq (.region false r235_14) (.seq (.seq (.region false r235_15) (.cond (.g 87) (.ret) (.skip))) (.seq (.region true r235_16) (.seq (.region true r235_17) (.region false r235_18))))))))
def F235 : F := ⟨3, [0, 1, 2, 6, 7, 8, 10, 11, 12, 13, 29, 42, 52, 53, 54, 55, 68, 73, 87], [], none, c235⟩
attribute [go_sem] r235_0 r235_1 r235_2 r235_3 r235_4 r235_5 r235_6 b235_0 r235_7 r235_8 r235_9 r235_10 r235_11 r235_12 r235_13 b235_1 r235_14 r235_15 r235_16 r235_17 r235_18 c235 F235
end Sg
namespace Sg
open Go.Proofs
def noQ : List V → Option V := fun _ => none
def oneFm : List (Nat × Nat) := [(231, 9), (43, 19), (229, 32), (40, 16), (51, 26), (232, 34), (233, 36), (234, 35), (41, 17), (35, 11), (68, 45), (39, 15), (47, 22), (235, 52), (72, 49), (57, 30), (63, 40), (64, 41), (65, 42), (66, 44), (67, 43), (71, 48), (54, 28), (74, 51), (75, 54), (76, 55), (73, 50), (69, 46)]
def oneTab : List (Nat × Fn) := [(231, .code F231), (43, .code F43), (229, .codeR F229 0), (40, .code F40), (51, .code F51), (232, .codeR F232 0), (233, .codeR F233 0), (234, .codeR F234 0), (41, .code F41), (35, .code F35), (68, .code F68), (39, .code F39), (47, .code F47), (235, .codeR F235 0), (72, .code F72), (57, .code F57), (63, .code F63), (64, .code F64), (65, .code F65), (66, .code F66), (67, .code F67), (71, .code F71), (54, .code F54), (74, .code F74), (75, .code F75), (76, .code F76), (73, .code F73), (69, .prim (some 0) (cloneQ 1))]
set_option maxRecDepth 100000
theorem okc {P : Go.Program} {cx : Cx} {tab : List (Nat × Fn)} {k : Nat} {F : F} {l : List (Nat × Fn)} (h : okF P cx (look tab) (cx.fm k) F = true) (t : okTab P cx tab l = true) : okTab P cx tab ((k, .code F) :: l) = true := by simp [okTab, h, t]
theorem okcr {P : Go.Program} {cx : Cx} {tab : List (Nat × Fn)} {k j : Nat} {F : F} {l : List (Nat × Fn)} (h : okF P cx (look tab) (cx.fm k) F = true) (h2 : rfQ F j = true) (t : okTab P cx tab l = true) : okTab P cx tab ((k, .codeR F j) :: l) = true := by simp [okTab, h, h2, t]
theorem okp {P : Go.Program} {cx : Cx} {tab : List (Nat × Fn)} {k : Nat} {o : Option Nat} {p} {l : List (Nat × Fn)} (h : plQ o = true) (t : okTab P cx tab l = true) : okTab P cx tab ((k, .prim o p) :: l) = true := by simp [okTab, h, t]
theorem ok231 : okF Try.prog (cxOf oneFm) (look oneTab) ((cxOf oneFm).fm 231) F231 = true := by kernel_rfl
theorem ok43 : okF Try.prog (cxOf oneFm) (look oneTab) ((cxOf oneFm).fm 43) F43 = true := by kernel_rfl
theorem ok229 : okF Try.prog (cxOf oneFm) (look oneTab) ((cxOf oneFm).fm 229) F229 = true := by kernel_rfl
theorem ok40 : okF Try.prog (cxOf oneFm) (look oneTab) ((cxOf oneFm).fm 40) F40 = true := by kernel_rfl
theorem ok51 : okF Try.prog (cxOf oneFm) (look oneTab) ((cxOf oneFm).fm 51) F51 = true := by kernel_rfl
theorem ok232 : okF Try.prog (cxOf oneFm) (look oneTab) ((cxOf oneFm).fm 232) F232 = true := by kernel_rfl
theorem ok233 : okF Try.prog (cxOf oneFm) (look oneTab) ((cxOf oneFm).fm 233) F233 = true := by kernel_rfl
theorem ok234 : okF Try.prog (cxOf oneFm) (look oneTab) ((cxOf oneFm).fm 234) F234 = true := by kernel_rfl
theorem ok41 : okF Try.prog (cxOf oneFm) (look oneTab) ((cxOf oneFm).fm 41) F41 = true := by kernel_rfl
theorem ok35 : okF Try.prog (cxOf oneFm) (look oneTab) ((cxOf oneFm).fm 35) F35 = true := by kernel_rfl
theorem ok68 : okF Try.prog (cxOf oneFm) (look oneTab) ((cxOf oneFm).fm 68) F68 = true := by kernel_rfl
theorem ok39 : okF Try.prog (cxOf oneFm) (look oneTab) ((cxOf oneFm).fm 39) F39 = true := by kernel_rfl
theorem ok47 : okF Try.prog (cxOf oneFm) (look oneTab) ((cxOf oneFm).fm 47) F47 = true := by kernel_rfl
theorem ok235 : okF Try.prog (cxOf oneFm) (look oneTab) ((cxOf oneFm).fm 235) F235 = true := by kernel_rfl
theorem ok72 : okF Try.prog (cxOf oneFm) (look oneTab) ((cxOf oneFm).fm 72) F72 = true := by kernel_rfl
theorem ok57 : okF Try.prog (cxOf oneFm) (look oneTab) ((cxOf oneFm).fm 57) F57 = true := by kernel_rfl
theorem ok63 : okF Try.prog (cxOf oneFm) (look oneTab) ((cxOf oneFm).fm 63) F63 = true := by kernel_rfl
theorem ok64 : okF Try.prog (cxOf oneFm) (look oneTab) ((cxOf oneFm).fm 64) F64 = true := by kernel_rfl
theorem ok65 : okF Try.prog (cxOf oneFm) (look oneTab) ((cxOf oneFm).fm 65) F65 = true := by kernel_rfl
theorem ok66 : okF Try.prog (cxOf oneFm) (look oneTab) ((cxOf oneFm).fm 66) F66 = true := by kernel_rfl
theorem ok67 : okF Try.prog (cxOf oneFm) (look oneTab) ((cxOf oneFm).fm 67) F67 = true := by kernel_rfl
theorem ok71 : okF Try.prog (cxOf oneFm) (look oneTab) ((cxOf oneFm).fm 71) F71 = true := by kernel_rfl
theorem ok54 : okF Try.prog (cxOf oneFm) (look oneTab) ((cxOf oneFm).fm 54) F54 = true := by kernel_rfl
theorem ok74 : okF Try.prog (cxOf oneFm) (look oneTab) ((cxOf oneFm).fm 74) F74 = true := by kernel_rfl
theorem ok75 : okF Try.prog (cxOf oneFm) (look oneTab) ((cxOf oneFm).fm 75) F75 = true := by kernel_rfl
theorem ok76 : okF Try.prog (cxOf oneFm) (look oneTab) ((cxOf oneFm).fm 76) F76 = true := by kernel_rfl
theorem ok73 : okF Try.prog (cxOf oneFm) (look oneTab) ((cxOf oneFm).fm 73) F73 = true := by kernel_rfl
theorem okAll : okTab Try.prog (cxOf oneFm) oneTab oneTab = true := okc ok231 (okc ok43 (okcr ok229 rfl (okc ok40 (okc ok51 (okcr ok232 rfl (okcr ok233 rfl (okcr ok234 rfl (okc ok41 (okc ok35 (okc ok68 (okc ok39 (okc ok47 (okcr ok235 rfl (okc ok72 (okc ok57 (okc ok63 (okc ok64 (okc ok65 (okc ok66 (okc ok67 (okc ok71 (okc ok54 (okc ok74 (okc ok75 (okc ok76 (okc ok73 (okp rfl (rfl))))))))))))))))))))))))))))
theorem okClone69 : okF Try.prog (cxOf oneFm) (onePg 69 (cloneF 1 [.int .i64 0])) 46 (cloneF 1 [.int .i64 0]) = true := by kernel_rfl
#print axioms okAll
end Sg
namespace Sg
open _root_.Go
set_option linter.unusedSimpArgs false
set_option linter.unusedVariables false
variable {N : Nat}
theorem has_int {k : IntKind} {x : V} (h : HasN N (.int k) x) : ∃ n, x = .int k n ∧ (Lit.int k n).wf = true := by cases h; exact ⟨_, rfl, by assumption⟩
theorem has_slice {r : List CT} {x : V} (h : HasN N (.slice r) x) : ∃ rows : List (List V), x = .slice r.length rows ∧ rows.length ≤ N ∧ ∀ row ∈ rows, HasRowN N r row := by
  cases h with
  | slice r rows hl hz h =>
    refine ⟨rows, rfl, hl, fun row hrow => ?_⟩
    obtain ⟨i, hi, rfl⟩ := List.getElem_of_mem hrow
    have hg : gr rows i = rows[i] := by simp [gr, hi]
    exact ⟨by rw [← hg]; exact hz i hi, fun j hj => by rw [← hg]; exact h i j hi hj⟩
theorem rows_enc {α : Type} {enc : α → List V} {Q : α → Prop} : ∀ {rows : List (List V)}, (∀ row ∈ rows, ∃ a, row = enc a ∧ Q a) → ∃ l : List α, rows = l.map enc ∧ ∀ a ∈ l, Q a
  | [], _ => ⟨[], rfl, fun a ha => by simp at ha⟩
  | row :: rows, h => by
    obtain ⟨a, rfl, ha⟩ := h row (by simp)
    obtain ⟨l, rfl, hl⟩ := rows_enc (rows := rows) (fun r hr => h r (by simp [hr]))
    exact ⟨a :: l, rfl, fun b hb => by
      rcases List.mem_cons.1 hb with rfl | hb
      · exact ha
      · exact hl b hb⟩
end Sg
namespace Sg
open _root_.Go (IntKind BinOp UnOp)
set_option linter.unusedSimpArgs false
set_option linter.unusedVariables false
theorem lt_of {i n : Nat} (h : decide ((i : Int) < (n : Int)) = true) : i < n := by simpa using h
theorem eq_of {i n : Nat} (hi : i ≤ n) (h : decide ((i : Int) < (n : Int)) = false) : i = n := by
  have : ¬ i < n := by simpa using h
  omega
theorem inc64 {i n : Nat} (h : i < n) (hn : n < 2 ^ 60) : IntKind.i64.wrap ((i : Int) + 1) = ((i + 1 : Nat) : Int) := wrap64 (by omega) (by omega)
theorem take_s {α : Type} {l : List α} {i : Nat} {x : α} (h : l[i]? = some x) : l.take (i + 1) = l.take i ++ [x] := by rw [List.take_add_one, h]; rfl
theorem take_all {α : Type} {l : List α} {i : Nat} (h : i = l.length) : l.take i = l := by rw [h, List.take_length]
theorem pos_len {n : Nat} : decide ((0 : Int) < ((n + 1 : Nat) : Int)) = true := by simp
end Sg
namespace Sg
open _root_.Go (IntKind BinOp UnOp)
set_option linter.unusedSimpArgs false
set_option linter.unusedVariables false
variable {Pg : Nat → Option Fn}
@[go_sem] def eInts (l : List Int) : V := .slice 1 (l.map fun a => [iz a])
def idxI : List Int → Int → Nat → Int
  | [], _, _ => -1
  | a :: l, n, i => if n = a then i else idxI l n (i + 1)
theorem idxI_mem : ∀ {l : List Int} {n : Int} {i : Nat}, decide (0 ≤ idxI l n i) = decide (n ∈ l)
  | [], n, i => by simp [idxI]
  | a :: l, n, i => by
    simp only [idxI]
    split
    · rename_i h; simp [h]
    · rename_i h; rw [idxI_mem]; simp [h]
def H75 (Pg : Nat → Option Fn) : Prop := Pg 75 = some (.code F75)
theorem K75 (h : H75 Pg) (l : List Int) (n : Int) (hl : l.length < 2 ^ 60) : K' Pg 75 [eInts l, iz n] = some (iz (idxI l n 0)) := by
  refine K'_code h rfl ?_
  simp only [go_sem]
  unfold l75_0
  refine wp_lp (fun (i : Nat) S => i ≤ l.length ∧ S.ρ 0 = eInts l ∧ S.ρ 1 = iz n ∧ S.ρ 7 = iz l.length ∧ S.ρ 8 = iz i ∧ idxI (l.drop i) n i = idxI l n 0) (fun i => l.length - i) 0 ?_ ?_
  · simp [go_sem]
  · intro i S ⟨hi, h0, h1, h7, h8, ho⟩
    simp only [go_sem, h0, h1, h7, h8]
    refine wpc_i (fun h => ?_) (fun h => ?_)
    · have h := lt_of h
      obtain ⟨x, hx, hd⟩ := drop_at h
      rw [hd] at ho
      simp only [go_sem, h0, h1, h7, h8, hx]
      refine wpc_i (fun hc => ?_) (fun hc => ?_)
      · have hc : n = x := of_decide_eq_true hc
        simp only [idxI, hc, if_true] at ho
        simp only [go_sem, ← ho, hc]
      · have hc : ¬ n = x := of_decide_eq_false hc
        simp only [idxI, hc, if_false] at ho
        simp only [go_sem, h0, h1, h7, h8]
        exact ⟨i + 1, by omega, by omega, by rw [inc64 h hl], ho⟩
    · have h := eq_of hi h
      subst h
      simp only [List.drop_length, idxI] at ho
      simp only [go_sem, ← ho]
def H65 (Pg : Nat → Option Fn) : Prop := Pg 65 = some (.code F65) ∧ H75 Pg
theorem K65 (h : H65 Pg) (l : List Int) (n : Int) (hl : l.length < 2 ^ 60) : K' Pg 65 [eInts l, iz n] = some (.bool (decide (n ∈ l))) := by
  obtain ⟨h, h75⟩ := h
  refine K'_code h rfl ?_
  have k75 := K75 h75 l n hl
  simp only [eInts] at k75
  simp only [go_sem, k75, idxI_mem]
def idxF : List Int → (Int → Bool) → Nat → Int
  | [], _, _ => -1
  | a :: l, p, i => if p a then i else idxF l p (i + 1)
theorem idxF_any : ∀ {l : List Int} {p : Int → Bool} {i : Nat}, decide (0 ≤ idxF l p i) = l.any p
  | [], n, i => by simp [idxF]
  | a :: l, n, i => by
    simp only [idxF]
    split
    · rename_i h; simp [h]
    · rename_i h; rw [idxF_any]; simp [h]
def H76 (Pg : Nat → Option Fn) : Prop := Pg 76 = some (.code F76)
theorem K76 (h : H76 Pg) (l : List Int) (g : Nat) (cap : List V) (p : Int → Bool) (hl : l.length < 2 ^ 60) (hcap : cap.all V.datC = true) (hg : ∀ x ∈ l, K' Pg g (iz x :: cap) = some (.bool (p x))) :
    K' Pg 76 [eInts l, .func g cap] = some (iz (idxF l p 0)) := by
  refine K'_code h rfl ?_
  simp only [go_sem]
  unfold l76_0
  refine wp_lp (fun (i : Nat) S => i ≤ l.length ∧ S.ρ 0 = eInts l ∧ S.ρ 1 = .func g cap ∧ S.ρ 7 = iz l.length ∧ S.ρ 8 = iz i ∧ idxF (l.drop i) p i = idxF l p 0) (fun i => l.length - i) 0 ?_ ?_
  · simp [go_sem]
  · intro i S ⟨hi, h0, h1, h7, h8, ho⟩
    simp only [go_sem, h0, h1, h7, h8]
    refine wpc_i (fun h => ?_) (fun h => ?_)
    · have h := lt_of h
      obtain ⟨x, hx, hd⟩ := drop_at h
      rw [hd] at ho
      have hgx := hg x (List.mem_of_getElem? hx)
      simp only [go_sem, h0, h1, h7, h8, hx, hgx]
      refine wpc_i (fun hc => ?_) (fun hc => ?_)
      · simp only [idxF, hc, if_true] at ho
        simp only [go_sem, ← ho]
      · simp only [idxF, hc, Bool.false_eq_true, if_false] at ho
        simp only [go_sem, h0, h1, h7, h8]
        exact ⟨i + 1, by omega, by omega, by rw [inc64 h hl], ho⟩
    · have h := eq_of hi h
      subst h
      simp only [List.drop_length, idxF] at ho
      simp only [go_sem, ← ho]
def H67 (Pg : Nat → Option Fn) : Prop := Pg 67 = some (.code F67) ∧ H76 Pg
theorem K67 (h : H67 Pg) (l : List Int) (g : Nat) (cap : List V) (p : Int → Bool) (hl : l.length < 2 ^ 60) (hcap : cap.all V.datC = true) (hg : ∀ x ∈ l, K' Pg g (iz x :: cap) = some (.bool (p x))) :
    K' Pg 67 [eInts l, .func g cap] = some (.bool (l.any p)) := by
  obtain ⟨h, h76⟩ := h
  refine K'_code h rfl ?_
  have k76 := K76 h76 l g cap p hl hcap hg
  simp only [eInts] at k76
  simp only [go_sem, k76, idxF_any]
def SetP (l : List Int) : Prop := l.length ≤ 8 ∧ (∀ m ∈ l, 1 ≤ m ∧ m ≤ 255) ∧ l.Nodup
instance (l : List Int) : Decidable (SetP l) := inferInstanceAs (Decidable (_ ∧ _ ∧ _))
theorem set_bad {l : List Int} {i : Nat} {x : Int} (hx : l[i]? = some x) (h : ¬ (1 ≤ x ∧ x ≤ 255) ∨ x ∈ l.take i) : ¬ SetP l := by
  rintro ⟨-, h2, h3⟩
  rcases h with h | h
  · exact h (h2 x (List.mem_of_getElem? hx))
  · have hi : i < l.length := by
      rcases Nat.lt_or_ge i l.length with h | h
      · exact h
      · rw [List.getElem?_eq_none h] at hx; simp at hx
    obtain ⟨y, hy, hd⟩ := drop_at hi
    have : x = y := by rw [hx] at hy; simpa using hy
    subst this
    rw [← List.take_append_drop i l, hd, List.nodup_append] at h3
    exact h3.2.2 x h x (List.mem_cons_self ..) rfl
theorem set_next {l : List Int} {i : Nat} {x : Int} (hx : l[i]? = some x) (h : (∀ m ∈ l.take i, 1 ≤ m ∧ m ≤ 255) ∧ (l.take i).Nodup) (h1 : 1 ≤ x ∧ x ≤ 255) (h2 : x ∉ l.take i) :
    (∀ m ∈ l.take (i + 1), 1 ≤ m ∧ m ≤ 255) ∧ (l.take (i + 1)).Nodup := by
  rw [take_s hx]
  refine ⟨fun m hm => ?_, ?_⟩
  · rcases List.mem_append.1 hm with hm | hm
    · exact h.1 m hm
    · have : m = x := by simpa using hm
      rw [this]; exact h1
  · rw [List.nodup_append]
    refine ⟨h.2, by simp, fun a ha b hb e => ?_⟩
    have : b = x := by simpa using hb
    rw [← this, ← e] at h2
    exact h2 ha
end Sg
namespace Sg
open _root_.Go (IntKind BinOp UnOp)
set_option linter.unusedSimpArgs false
set_option linter.unusedVariables false
variable {Pg : Nat → Option Fn}
def H64 (Pg : Nat → Option Fn) : Prop := Pg 64 = some (.code F64) ∧ H65 Pg
theorem K64 (h : H64 Pg) (l : List Int) (hl : l.length < 2 ^ 60) : K' Pg 64 [eInts l] = some (.bool (decide (SetP l))) := by
  obtain ⟨h, h65⟩ := h
  refine K'_code h rfl ?_
  simp only [go_sem]
  unfold l64_0
  refine wp_lp (fun (i : Nat) S => i ≤ l.length ∧ S.ρ 0 = eInts l ∧ S.ρ 5 = eInts l ∧ S.ρ 6 = iz l.length ∧ S.ρ 7 = iz i ∧ (∀ m ∈ l.take i, 1 ≤ m ∧ m ≤ 255) ∧ (l.take i).Nodup) (fun i => l.length - i) 0 ?_ ?_
  · simp [go_sem]
  · intro i S ⟨hi, h0, h5, h6, h7, ho1, ho2⟩
    simp only [go_sem, h0, h5, h6, h7]
    refine wpc_i (fun h => ?_) (fun h => ?_)
    · have h := lt_of h
      obtain ⟨x, hx, hd⟩ := drop_at h
      have bad : ¬ (1 ≤ x ∧ x ≤ 255) → ¬ SetP l := fun e => set_bad hx (.inl e)
      have k65 := K65 h65 (l.take i) x (by simp; omega)
      simp only [eInts, List.map_take] at k65
      simp only [go_sem, h0, h5, h6, h7, hx]
      refine wrg_if (fun hc => ?_) (fun hc => ?_)
      · have h1 : ¬ x < 1 := of_decide_eq_false hc
        simp only [go_sem, h0, h5, h6, h7, hx, hi, h1]
        refine wrg_if (fun hc => ?_) (fun hc => ?_)
        · have h2 : ¬ 255 < x := of_decide_eq_false hc
          simp only [go_sem, h0, h5, h6, h7, hx, hi, h1, h2, k65]
          refine wpc_i (fun hc => ?_) (fun hc => ?_)
          · have hs : ¬ SetP l := set_bad hx (.inr (of_decide_eq_true hc))
            simp only [go_sem, hs]
          · have hn := set_next hx ⟨ho1, ho2⟩ (by omega) (of_decide_eq_false hc)
            simp only [go_sem, h0, h5, h6, h7]
            exact ⟨i + 1, by omega, by omega, by rw [inc64 h hl], hn.1, hn.2⟩
        · have h2 : 255 < x := of_decide_eq_true hc
          have hs : ¬ SetP l := bad (by omega)
          simp only [go_sem, h0, h5, h6, h7, hx, hi, h1, h2, hs]
      · have h1 : x < 1 := of_decide_eq_true hc
        have hs : ¬ SetP l := bad (by omega)
        simp only [go_sem, h0, h5, h6, h7, hx, h1, hs]
    · have h := eq_of hi h
      rw [take_all h] at ho1 ho2
      simp only [go_sem, h0]
      have : decide ((l.length : Int) ≤ 8) = decide (SetP l) := decide_eq_decide.2 ⟨fun e => ⟨by omega, ho1, ho2⟩, fun e => by have := e.1; omega⟩
      rw [this]
end Sg
namespace Sg
open _root_.Go (IntKind BinOp UnOp)
set_option linter.unusedSimpArgs false
set_option linter.unusedVariables false
variable {Pg : Nat → Option Fn}
structure Rep where
  id : Int
  view : Int
  members : List Int
  n : Int
  base : List UInt8
  text : List UInt8
  acks : List Int
  deriving DecidableEq
structure Word where
  kind : Int
  frm : Int
  to : Int
  view : Int
  n : Int
  members : List Int
  text : List UInt8
  deriving DecidableEq
@[go_sem] def eRep (r : Rep) : List V := [iz r.id, iz r.view, eInts r.members, iz r.n, .str r.base, .str r.text, eInts r.acks]
@[go_sem] def eWord (r : Word) : List V := [iz r.kind, iz r.frm, iz r.to, iz r.view, iz r.n, eInts r.members, .str r.text]
@[go_sem] def eWords (l : List Word) : V := .slice 7 (l.map eWord)
structure Rep.Ok (r : Rep) : Prop where
  m : r.members.length < 2 ^ 60
  a : r.acks.length < 2 ^ 60
def numG (n least : Int) : Bool := decide (least ≤ n) && decide (n ≤ 1099511627776)
def H63 (Pg : Nat → Option Fn) : Prop := Pg 63 = some (.code F63)
theorem K63 (h : H63 Pg) (n least : Int) : K' Pg 63 [iz n, iz least] = some (.bool (numG n least)) := by
  refine K'_code h rfl ?_
  simp only [go_sem]
  refine wrg_it (fun h => ?_) (fun h => ?_) <;> simp only [go_sem, h, numG]
def leadsR (r : Rep) : Bool := match r.members with | [] => false | m :: _ => decide (m = r.id)
def H68 (Pg : Nat → Option Fn) : Prop := Pg 68 = some (.code F68)
theorem K68 (h : H68 Pg) (r : Rep) : K' Pg 68 [.agg (eRep r)] = some (.bool (leadsR r)) := by
  refine K'_code h rfl ?_
  obtain ⟨id, view, members, n, base, text, acks⟩ := r
  cases members with
  | nil => simp only [go_sem, leadsR]
  | cons m l =>
    have h0 : iadV 1 (V.slice 1 ([iz m] :: List.map (fun a => [iz a]) l)) (iz 0) = some (.cptr [iz m] 0) := rfl
    simp only [go_sem, leadsR, pos_len, h0]
def allR (r : Rep) : Bool := r.members.all fun m => decide (m ∈ r.acks)
def rightB (r : Rep) : Bool :=
  !(decide (r.id < 1) || (decide (255 < r.id) || ((!decide (r.view = 0) && !numG r.view 1) || ((!decide (r.n = 0) && !numG r.n 1) || (!decide (SetP r.members) || !decide (SetP r.acks)))))) &&
    (r.acks.all (fun m => decide (m ∈ r.members)) && (!(decide ((0 : Int) < (r.members.length : Int)) && !decide (r.id ∈ r.members)) &&
    (bif leadsR r then decide (r.id ∈ r.acks) && (!allR r || decide (r.base = r.text)) else decide ((r.acks.length : Int) = 0) && decide (r.base = r.text))))
end Sg
namespace Sg
open _root_.Go (IntKind BinOp UnOp)
set_option linter.unusedSimpArgs false
set_option linter.unusedVariables false
variable {Pg : Nat → Option Fn}
theorem nodup_len : ∀ {l m : List Int}, l.Nodup → (∀ x ∈ l, x ∈ m) → l.length ≤ m.length
  | [], m, _, _ => by simp
  | a :: l, m, h, hs => by
    rw [List.nodup_cons] at h
    have ha := hs a (List.mem_cons_self ..)
    have h1 := nodup_len (l := l) (m := m.erase a) h.2 (fun x hx => by
      have hne : x ≠ a := fun e => h.1 (e ▸ hx)
      exact (List.mem_erase_of_ne hne).2 (hs x (List.mem_cons_of_mem _ hx)))
    have h2 := List.length_erase_of_mem ha
    have h3 : 0 < m.length := List.length_pos_of_mem ha
    simp only [List.length_cons]; omega
theorem all_len {r : Rep} (hm : SetP r.members) (ha : SetP r.acks) (hs : ∀ x ∈ r.acks, x ∈ r.members) : decide ((r.acks.length : Int) < (r.members.length : Int)) = !allR r := by
  cases h : allR r with
  | true =>
    have : ∀ x ∈ r.members, x ∈ r.acks := by simpa [allR] using h
    have := nodup_len hm.2.2 this
    simp; omega
  | false =>
    obtain ⟨x, hx, hn⟩ : ∃ x, x ∈ r.members ∧ x ∉ r.acks := by simpa [allR] using h
    have := nodup_len (l := x :: r.acks) (m := r.members) (List.nodup_cons.2 ⟨hn, ha.2.2⟩) (fun y hy => by
      rcases List.mem_cons.1 hy with rfl | hy
      · exact hx
      · exact hs y hy)
    simp only [List.length_cons] at this
    simp; omega
def rightG (r : Rep) : Bool :=
  !(decide (r.id < 1) || (decide (255 < r.id) || (!numG r.view 0 || (!numG r.n 0 || (!decide (SetP r.members) || !decide (SetP r.acks)))))) &&
    (!(decide ((0 : Int) < (r.members.length : Int)) && !decide (r.id ∈ r.members)) && (!(r.acks.any (fun m => !decide (m ∈ r.members))) &&
    (bif leadsR r then decide (r.id ∈ r.acks) && (decide ((r.acks.length : Int) < (r.members.length : Int)) || decide (r.base = r.text)) else decide ((r.acks.length : Int) = 0) && decide (r.base = r.text))))
theorem num0 {n : Int} : (!decide (n = 0) && !numG n 1) = !numG n 0 := by
  simp only [numG]
  by_cases h1 : n = 0
  · subst h1; decide
  · have : decide (1 ≤ n) = decide (0 ≤ n) := decide_eq_decide.2 (by omega)
    simp [h1, this]
theorem rightG_eq (r : Rep) : rightG r = rightB r := by
  unfold rightG rightB
  rw [num0, num0]
  have hall : (!(r.acks.any (fun m => !decide (m ∈ r.members)))) = r.acks.all (fun m => decide (m ∈ r.members)) := by
    rw [List.all_eq_not_any_not]
  rw [hall]
  by_cases hm : SetP r.members
  · by_cases ha : SetP r.acks
    · cases hs : r.acks.all (fun m => decide (m ∈ r.members)) with
      | true => rw [all_len hm ha (by simpa using hs)]; simp only [Bool.true_and]
      | false => simp
    · simp [ha]
  · simp [hm]
def H66 (Pg : Nat → Option Fn) : Prop := Pg 66 = some (.code F66) ∧ H65 Pg
theorem K66 (h : H66 Pg) (r : Rep) (m : Int) (ok : r.Ok) : K' Pg 66 [iz m, .cptr (eRep r) 0] = some (.bool (!decide (m ∈ r.members))) := by
  obtain ⟨h, h65⟩ := h
  have k65 := K65 h65 r.members m ok.m
  simp only [eInts] at k65
  refine K'_code h rfl ?_
  simp only [go_sem, k65]
def H39 (Pg : Nat → Option Fn) : Prop := Pg 39 = some (.code F39) ∧ H63 Pg ∧ H64 Pg ∧ H65 Pg ∧ H66 Pg ∧ H67 Pg ∧ H68 Pg
theorem K39 (h : H39 Pg) (r : Rep) (ok : r.Ok) : K' Pg 39 [.agg (eRep r)] = some (.bool (rightB r)) := by
  rw [← rightG_eq]
  obtain ⟨h, h63, h64, h65, h66, h67, h68⟩ := h
  have k63 := fun x y => K63 h63 x y
  have k64m := K64 h64 r.members ok.m
  have k64a := K64 h64 r.acks ok.a
  have k65m := fun x => K65 h65 r.members x ok.m
  have k65a := fun x => K65 h65 r.acks x ok.a
  have k68 := K68 h68 r
  have k67 := K67 h67 r.acks 66 [.cptr (eRep r) 0] (fun m => !decide (m ∈ r.members)) ok.a rfl (fun x _ => K66 h66 r x ok)
  simp only [eInts, eRep] at k63 k64m k64a k65m k65a k68 k67
  refine K'_code h rfl ?_
  simp only [go_sem, k63, k64m, k64a, k65m, k65a, k68]
  repeat' (first | refine wrg_if (fun h => ?_) (fun h => ?_) <;> simp only [go_sem, h, k63, k64m, k64a, k65m, k65a, k68, k67, List.all_cons, List.all_nil] | refine wrg_it (fun h => ?_) (fun h => ?_) <;> simp only [go_sem, h, k63, k64m, k64a, k65m, k65a, k68, k67] | refine wpc_i (fun h => ?_) (fun h => ?_) <;> simp only [go_sem, h, k63, k64m, k64a, k65m, k65a, k68, k67])
  
  all_goals (simp_all only [rightG, Bool.not_eq_true', Bool.not_eq_false', Bool.not_true, Bool.not_false, Bool.or_true, Bool.true_or, Bool.or_false, Bool.false_or, Bool.and_true, Bool.true_and, Bool.and_false, Bool.false_and, cond_true, cond_false]; done)
end Sg
namespace Sg
open _root_.Go (IntKind BinOp UnOp)
set_option linter.unusedSimpArgs false
set_option linter.unusedVariables false
variable {Pg : Nat → Option Fn}
def H40 (Pg : Nat → Option Fn) : Prop := Pg 40 = some (.code F40) ∧ H39 Pg ∧ H68 Pg
theorem K40 (h : H40 Pg) (r : Rep) (ok : r.Ok) : K' Pg 40 [.agg (eRep r)] = some (.bool (rightB r && leadsR r)) := by
  obtain ⟨h, h39, h68⟩ := h
  have k39 := K39 h39 r ok
  have k68 := K68 h68 r
  simp only [eInts, eRep] at k39 k68
  refine K'_code h rfl ?_
  simp only [go_sem, k39, k68]
  refine wrg_it (fun h => ?_) (fun h => ?_) <;> simp only [go_sem, h, k68]
def busyR (r : Rep) : Bool := rightB r && (leadsR r && !allR r)
theorem right_parts {r : Rep} (h : rightB r = true) : SetP r.members ∧ SetP r.acks ∧ (∀ x ∈ r.acks, x ∈ r.members) ∧ 1 ≤ r.id ∧ r.id ≤ 255 ∧ 0 ≤ r.view ∧ r.view ≤ 1099511627776 ∧ 0 ≤ r.n ∧ r.n ≤ 1099511627776 := by
  rw [← rightG_eq] at h
  simp only [rightG, numG, Bool.and_eq_true, Bool.not_eq_true', Bool.or_eq_false_iff, Bool.and_eq_false_iff, Bool.not_eq_false', Bool.not_eq_true', decide_eq_true_eq, decide_eq_false_iff_not] at h
  obtain ⟨⟨h1, h2, h3, h4, h5, h6⟩, h7, h8, -⟩ := h
  refine ⟨h5, h6, by simpa using h8, ?_⟩
  omega
theorem right_len {r : Rep} (h : rightB r = true) : decide ((r.acks.length : Int) < (r.members.length : Int)) = !allR r := by
  obtain ⟨h1, h2, h3, -⟩ := right_parts h
  exact all_len h1 h2 h3
def H41 (Pg : Nat → Option Fn) : Prop := Pg 41 = some (.code F41) ∧ H40 Pg
theorem K41 (h : H41 Pg) (r : Rep) (ok : r.Ok) : K' Pg 41 [.agg (eRep r)] = some (.bool (busyR r)) := by
  obtain ⟨h, h40⟩ := h
  have k40 := K40 h40 r ok
  simp only [eInts, eRep] at k40
  refine K'_code h rfl ?_
  simp only [go_sem, k40]
  refine wrg_it (fun h => ?_) (fun h => ?_) <;> simp only [go_sem, h, k40]
  · simp only [Bool.and_eq_true] at h
    rw [right_len h.1]; simp only [busyR, h.1, h.2, Bool.true_and]
  · rw [busyR, ← Bool.and_assoc, h]; rfl
def fixR (r : Rep) : Rep := if r.acks.length = r.members.length then { r with base := r.text } else r
def H71 (Pg : Nat → Option Fn) : Prop := Pg 71 = some (.code F71)
theorem K71 (h : H71 Pg) (r : Rep) : K' Pg 71 [.agg (eRep r)] = some (.agg (eRep (fixR r))) := by
  refine K'_code h rfl ?_
  simp only [go_sem]
  refine wpc_i (fun h => ?_) (fun h => ?_)
  · have h : r.acks.length = r.members.length := by have := of_decide_eq_true h; omega
    simp only [go_sem, fixR, h]
  · have h : ¬ r.acks.length = r.members.length := by have := of_decide_eq_false h; omega
    simp only [go_sem, fixR, h]
def H69 (Pg : Nat → Option Fn) : Prop := Pg 69 = some (.prim (some 0) (cloneQ 1))
theorem K69 (h : H69 Pg) (l : List Int) (hl : l.length ≤ 1000000000) : K' Pg 69 [eInts l] = some (eInts l) := by
  rw [K'_prim h]; simp [cloneQ, eInts, lim]; omega
def shipsR (r : Rep) : List Word := (r.members.filter fun m => !decide (m ∈ r.acks)).map fun m => ⟨1, r.id, m, r.view, r.n, r.members, r.text⟩
def shipsP (r : Rep) (l : List Int) : List Word := (l.filter fun m => !decide (m ∈ r.acks)).map fun m => ⟨1, r.id, m, r.view, r.n, r.members, r.text⟩
theorem ships_s {r : Rep} {l : List Int} {m : Int} : shipsP r (l ++ [m]) = if m ∈ r.acks then shipsP r l else shipsP r l ++ [⟨1, r.id, m, r.view, r.n, r.members, r.text⟩] := by
  simp only [shipsP, List.filter_append, List.filter_cons, List.filter_nil]
  split <;> simp_all
theorem ships_len {r : Rep} {l : List Int} : (shipsP r l).length ≤ l.length := by
  simp only [shipsP, List.length_map]; exact List.length_filter_le _ _
def H72 (Pg : Nat → Option Fn) : Prop := Pg 72 = some (.code F72) ∧ H65 Pg ∧ H69 Pg
theorem K72 (h : H72 Pg) (r : Rep) (ok : r.Ok) (hm : r.members.length ≤ 1000) : K' Pg 72 [.agg (eRep r)] = some (eWords (shipsR r)) := by
  obtain ⟨h, h65, h69⟩ := h
  have k65 := fun x => K65 h65 r.acks x ok.a
  have k69 := K69 h69 r.members (by omega)
  simp only [eInts] at k65 k69
  refine K'_code h rfl ?_
  simp only [go_sem, mkA]
  unfold l72_0
  refine wp_lp (fun (i : Nat) S => i ≤ r.members.length ∧ S.ρ 1 = .lref 1 0 ∧ S.μ 1 = some (eRep r, false) ∧ S.A 3 = some (7, (shipsP r (r.members.take i)).map eWord, .live) ∧ S.ρ 3 = .own 3 7 (shipsP r (r.members.take i)).length ∧ S.ρ 7 = eInts r.members ∧ S.ρ 8 = iz r.members.length ∧ S.ρ 9 = iz i) (fun i => r.members.length - i) 0 ?_ ?_
  · simp [go_sem, shipsP]
  · intro i S ⟨hi, h1, m1, a3, h3, h7, h8, h9⟩
    simp only [go_sem, m1, a3, h3, h1, h7, h8, h9]
    refine wpc_i (fun h => ?_) (fun h => ?_)
    · have h := lt_of h
      obtain ⟨x, hx, hd⟩ := drop_at h
      have hlen := ships_len (r := r) (l := r.members.take i)
      have hlim : (shipsP r (r.members.take i)).length + 1 ≤ lim := by
        simp only [List.length_take] at hlen
        simp only [lim]; omega
      have hs := ships_s (r := r) (l := r.members.take i) (m := x)
      rw [← take_s hx] at hs
      simp only [go_sem, m1, a3, h3, h1, h7, h8, h9, hx, k65]
      refine wpc_i (fun hc => ?_) (fun hc => ?_)
      · have hc : x ∉ r.acks := by simpa using hc
        rw [if_neg hc] at hs
        simp only [go_sem, m1, a3, h3, h1, h7, h8, h9, hx, hlim, k69]
        exact ⟨i + 1, by omega, by omega, by rw [hs]; simp [eWord, eInts], by rw [hs]; simp, by rw [inc64 h (by omega)]⟩
      · have hc : x ∈ r.acks := by simpa using hc
        rw [if_pos hc] at hs
        simp only [go_sem, m1, a3, h3, h1, h7, h8, h9, hx, hlim]
        exact ⟨i + 1, by omega, by omega, by rw [hs], by rw [hs], by rw [inc64 h (by omega)]⟩
    · have h := eq_of hi h
      subst h
      have e : shipsP r r.members = shipsR r := rfl
      simp only [go_sem, a3, h3, List.take_length, e]
end Sg
namespace Sg
open _root_.Go (IntKind BinOp UnOp)
set_option linter.unusedSimpArgs false
set_option linter.unusedVariables false
variable {Pg : Nat → Option Fn}
def zeroRep : Rep := ⟨0, 0, [], 0, [], [], []⟩
@[go_sem] def eRWE (x : Rep × List Word × Int) : V := .tuple [.agg (eRep x.1), eWords x.2.1, iz x.2.2]
@[go_sem] def eRW (x : Rep × List Word) : V := .tuple [.agg (eRep x.1), eWords x.2]
@[go_sem] def eRE (x : Rep × Int) : V := .tuple [.agg (eRep x.1), iz x.2]
def proposeR (r : Rep) (t : List UInt8) : Rep × List Word × Int :=
  if rightB r then (if leadsR r then (if allR r then (if r.n = 1099511627776 then (zeroRep, [], 6) else
    (fixR ⟨r.id, r.view, r.members, r.n + 1, r.base, t, [r.id]⟩, shipsR ⟨r.id, r.view, r.members, r.n + 1, r.base, t, [r.id]⟩, 0)) else (zeroRep, [], 11)) else (zeroRep, [], 10)) else (zeroRep, [], 1)
def H47 (Pg : Nat → Option Fn) : Prop := Pg 47 = some (.code F47) ∧ H39 Pg ∧ H68 Pg ∧ H41 Pg ∧ H71 Pg ∧ H72 Pg
theorem K47 (h : H47 Pg) (r : Rep) (t : List UInt8) (ok : r.Ok) (hm : r.members.length ≤ 1000) : K' Pg 47 [.agg (eRep r), .str t] = some (eRWE (proposeR r t)) := by
  obtain ⟨h, h39, h68, h41, h71, h72⟩ := h
  have k39 := K39 h39 r ok
  have k68 := K68 h68 r
  have k41 := K41 h41 r ok
  have k71 := K71 h71 ⟨r.id, r.view, r.members, r.n + 1, r.base, t, [r.id]⟩
  have k72 := K72 h72 ⟨r.id, r.view, r.members, r.n + 1, r.base, t, [r.id]⟩ ⟨ok.m, by simp⟩ hm
  simp only [eInts, eRep, List.map_cons, List.map_nil] at k39 k68 k41 k71 k72
  refine K'_code h rfl ?_
  cases hr : rightB r with
  | false => simp only [go_sem, k39, proposeR, hr, zeroRep]
  | true =>
    cases hl : leadsR r with
    | false => simp only [go_sem, k39, k68, proposeR, hr, hl, zeroRep]
    | true =>
      cases ha : allR r with
      | false =>
        have hb : busyR r = true := by simp [busyR, hr, hl, ha]
        simp only [go_sem, k39, k68, k41, hb, proposeR, hr, hl, ha, zeroRep]
      | true =>
        have hb : busyR r = false := by simp [busyR, ha]
        by_cases hn : r.n = 1099511627776
        · have e : proposeR r t = (zeroRep, [], 6) := by simp [proposeR, hr, hl, ha, hn]
          have hd := decide_eq_true hn
          simp only [go_sem, k39, k68, k41, hb, e, hr, hl, ha, hd, zeroRep]
        · obtain ⟨-, -, -, -, -, -, -, h1, h2⟩ := right_parts hr
          have hinc : IntKind.i64.wrap (r.n + 1) = r.n + 1 := wrap64 (by omega) (by omega)
          simp only [go_sem, k39, k68, k41, hb, proposeR, hr, hl, ha, hn, hinc, k71, k72]
def H51 (Pg : Nat → Option Fn) : Prop := Pg 51 = some (.code F51) ∧ H41 Pg ∧ H72 Pg
theorem K51 (h : H51 Pg) (r : Rep) (ok : r.Ok) (hm : r.members.length ≤ 1000) : K' Pg 51 [.agg (eRep r)] = some (eWords (if busyR r then shipsR r else [])) := by
  obtain ⟨h, h41, h72⟩ := h
  have k41 := K41 h41 r ok
  have k72 := K72 h72 r ok hm
  simp only [eInts, eRep] at k41 k72
  refine K'_code h rfl ?_
  cases hb : busyR r <;> simp only [go_sem, k41, k72, hb]
def newR (id : Int) (l : List Int) (t : List UInt8) : Rep × Int :=
  if 1 ≤ id ∧ id ≤ 255 ∧ SetP l ∧ id ∈ l then (⟨id, 1, l, 1, t, t, if l.head? = some id then l else []⟩, 0) else (zeroRep, 1)
theorem new_right {id : Int} {l acks : List Int} {t : List UInt8} (h0 : l ≠ []) (h : acks = l ∧ l.head? = some id ∨ acks = [] ∧ l.head? ≠ some id) :
    rightB ⟨id, 1, l, 1, t, t, acks⟩ = decide (1 ≤ id ∧ id ≤ 255 ∧ SetP l ∧ id ∈ l) := by
  rw [← rightG_eq]
  have n1 : numG 1 0 = true := rfl
  have hz : decide ((0 : Int) < (l.length : Int)) = true := by
    cases l with
    | nil => exact absurd rfl h0
    | cons a l => exact pos_len
  by_cases a1 : id < 1
  · have : ¬ 1 ≤ id := by omega
    simp [rightG, a1, this]
  · by_cases a2 : 255 < id
    · have : ¬ id ≤ 255 := by omega
      simp [rightG, a2, this]
    · have b1 : 1 ≤ id := by omega
      have b2 : id ≤ 255 := by omega
      by_cases a3 : SetP l
      · by_cases a4 : id ∈ l
        · rcases h with ⟨rfl, hh⟩ | ⟨rfl, hh⟩
          · have hl : leadsR ⟨id, 1, acks, 1, t, t, acks⟩ = true := by
              cases acks with
              | nil => simp at hh
              | cons a l => simp at hh; simp [leadsR, hh]
            simp [rightG, a1, a2, a3, a4, b1, b2, n1, hz, hl]
          · have hl : leadsR ⟨id, 1, l, 1, t, t, []⟩ = false := by
              cases l with
              | nil => rfl
              | cons a l => simp at hh; simp [leadsR, hh]
            have s0 : SetP [] := by decide
            simp [rightG, a1, a2, a3, a4, b1, b2, n1, hz, hl, s0]
        · simp only [rightG, a4, hz]; simp
      · simp [rightG, a3]
def H43 (Pg : Nat → Option Fn) : Prop := Pg 43 = some (.code F43) ∧ H69 Pg ∧ H68 Pg ∧ H39 Pg
theorem K43 (h : H43 Pg) (id : Int) (l : List Int) (t : List UInt8) (hl : l.length ≤ 1000) : K' Pg 43 [iz id, eInts l, .str t] = some (eRE (newR id l t)) := by
  obtain ⟨h, h69, h68, h39⟩ := h
  have k69 := K69 h69 l (by omega)
  have k68 := K68 h68 ⟨id, 1, l, 1, t, t, []⟩
  have k39 := fun a ha => K39 h39 ⟨id, 1, l, 1, t, t, a⟩ ⟨by simp only; omega, ha⟩
  refine K'_code h rfl ?_
  cases l with
  | nil =>
    simp only [eInts, eRep, List.map_nil] at k69 k68 k39
    have e : leadsR ⟨id, 1, [], 1, t, t, []⟩ = false := rfl
    simp only [go_sem, k69, k68, e, newR, zeroRep, List.not_mem_nil, and_false]
  | cons m l =>
    simp only [eInts, eRep, List.map_cons, List.map_nil] at k69 k68 k39
    have hz : decide (((l.length + 1 : Nat) : Int) = 0) = false := by simp; omega
    by_cases hm : m = id
    · subst hm
      have e : leadsR ⟨m, 1, m :: l, 1, t, t, []⟩ = true := by simp [leadsR]
      have k := k39 (m :: l) (by simp only [List.length_cons] at hl ⊢; omega)
      simp only [List.map_cons] at k
      rw [new_right (by simp) (.inl ⟨rfl, by simp⟩)] at k
      by_cases hc : 1 ≤ m ∧ m ≤ 255 ∧ SetP (m :: l) ∧ m ∈ m :: l
      · simp only [hc, and_self, decide_true] at k
        simp only [go_sem, k69, k68, e, hz, k, newR, zeroRep, hc, List.head?_cons]
      · simp only [hc, decide_false] at k
        simp only [go_sem, k69, k68, e, hz, k, newR, zeroRep, hc]
    · have e : leadsR ⟨id, 1, m :: l, 1, t, t, []⟩ = false := by simp [leadsR, hm]
      have k := k39 [] (by simp)
      simp only [List.map_nil] at k
      rw [new_right (by simp) (.inr ⟨rfl, by simp [hm]⟩)] at k
      by_cases hc : 1 ≤ id ∧ id ≤ 255 ∧ SetP (m :: l) ∧ id ∈ m :: l
      · simp only [hc, and_self, decide_true] at k
        simp only [go_sem, k69, k68, e, hz, k, newR, zeroRep, hc, hm, List.head?_cons, Option.some.injEq]
      · simp only [hc, decide_false] at k
        simp only [go_sem, k69, k68, e, hz, k, newR, zeroRep, hc]
def H35 (Pg : Nat → Option Fn) : Prop := Pg 35 = some (.code F35) ∧ H43 Pg ∧ H47 Pg ∧ H41 Pg ∧ H40 Pg
theorem K35 (h : H35 Pg) : K' Pg 35 [] = some (.bool true) := by
  obtain ⟨h, h43, h47, h41, h40⟩ := h
  refine K'_code h rfl ?_
  have k43 := K43 h43 1 [1, 2] [120] (by simp)
  have k47 := K47 h47 ⟨1, 1, [1, 2], 1, [120], [120], [1, 2]⟩ [121] ⟨by simp, by simp⟩ (by simp)
  have k41 := K41 h41 ⟨1, 1, [1, 2], 2, [120], [121], [1]⟩ ⟨by simp, by simp⟩
  have k40 := K40 h40 ⟨1, 1, [1, 2], 1, [120], [120], [1, 2]⟩ ⟨by simp, by simp⟩
  have e1 : newR 1 [1, 2] [120] = (⟨1, 1, [1, 2], 1, [120], [120], [1, 2]⟩, 0) := by decide
  have e2 : proposeR ⟨1, 1, [1, 2], 1, [120], [120], [1, 2]⟩ [121] = (⟨1, 1, [1, 2], 2, [120], [121], [1]⟩, [⟨1, 1, 2, 1, 2, [1, 2], [121]⟩], 0) := by decide
  have e3 : busyR ⟨1, 1, [1, 2], 2, [120], [121], [1]⟩ = true := by decide
  have e4 : (rightB ⟨1, 1, [1, 2], 1, [120], [120], [1, 2]⟩ && leadsR ⟨1, 1, [1, 2], 1, [120], [120], [1, 2]⟩) = true := by decide
  rw [e1] at k43
  rw [e2] at k47
  rw [e3] at k41
  rw [e4] at k40
  simp only [eRE, eRWE, eRep, eInts, eWords, eWord, List.map_cons, List.map_nil] at k43 k47 k41 k40
  have one : decide (((1 : Nat) : Int) = 1) = true := rfl
  have h0 : ∀ x : List V, iadV 7 (V.slice 7 [x]) (iz 0) = some (.cptr x 0) := fun x => rfl
  simp only [go_sem, k43, k47, k41, k40, one, h0]
end Sg
namespace Sg
open _root_.Go (IntKind BinOp UnOp)
set_option linter.unusedSimpArgs false
set_option linter.unusedVariables false
variable {Pg : Nat → Option Fn}
def leadGood (r : Rep) (view : Int) (l : List Int) : Prop := rightB r = true ∧ SetP l ∧ l.head? = some r.id ∧ 1 ≤ view ∧ view ≤ 1099511627776
instance (r : Rep) (view : Int) (l : List Int) : Decidable (leadGood r view l) := inferInstanceAs (Decidable (_ ∧ _ ∧ _ ∧ _ ∧ _))
def leadNew (r : Rep) (view : Int) (l : List Int) : Rep := ⟨r.id, view, l, r.n + 1, r.text, r.text, [r.id]⟩
def leadR (r : Rep) (view : Int) (l : List Int) : Rep × List Word × Int :=
  if leadGood r view l then (if view = r.view ∧ leadsR r = true then (r, shipsR r, 0) else if view ≠ r.view + 1 ∨ r.members = [] then (zeroRep, [], 10) else if r.n = 1099511627776 then (zeroRep, [], 6)
    else (leadNew r view l, shipsR (leadNew r view l), 0)) else (zeroRep, [], 1)
def membR (l : List Int) (id leader : Int) : Bool := decide (SetP l) && (decide (id ∈ l) && decide (l.head? = some leader))
def H73 (Pg : Nat → Option Fn) : Prop := Pg 73 = some (.code F73) ∧ H64 Pg ∧ H65 Pg
theorem K73 (h : H73 Pg) (l : List Int) (id leader : Int) (hl : l.length ≤ 1000) : K' Pg 73 [eInts l, iz id, iz leader] = some (.bool (membR l id leader)) := by
  obtain ⟨h, h64, h65⟩ := h
  have k64 := K64 h64 l (by omega)
  have k65 := fun x => K65 h65 l x (by omega)
  refine K'_code h rfl ?_
  cases l with
  | nil => simp only [go_sem, membR, List.not_mem_nil, decide_false]
  | cons m l =>
    have h0 : iadV 1 (V.slice 1 ([iz m] :: List.map (fun a => [iz a]) l)) (iz 0) = some (.cptr [iz m] 0) := rfl
    simp only [eInts, List.map_cons] at k64 k65
    cases h1 : decide (SetP (m :: l)) with
    | false => simp only [go_sem, pos_len, k64, k65, h1, membR]
    | true =>
      cases h2 : decide (id ∈ m :: l) <;> simp only [go_sem, pos_len, k64, k65, h0, h1, h2, membR, List.head?_cons, Option.some.injEq]
theorem pos_ne {l : List Int} (h : l ≠ []) : decide ((l.length : Int) = 0) = false := by
  cases l with
  | nil => exact absurd rfl h
  | cons a l => simp; omega
theorem num_iff {n : Int} : numG n 1 = decide (1 ≤ n ∧ n ≤ 1099511627776) := by
  simp only [numG, Bool.decide_and]
def H54 (Pg : Nat → Option Fn) : Prop := Pg 54 = some (.code F54) ∧ H39 Pg ∧ H73 Pg ∧ H63 Pg ∧ H68 Pg ∧ H72 Pg ∧ H69 Pg
theorem K54 (h : H54 Pg) (r : Rep) (view : Int) (l : List Int) (ok : r.Ok) (hm : r.members.length ≤ 1000) (hl : l.length ≤ 1000) : K' Pg 54 [.agg (eRep r), iz view, eInts l] = some (eRWE (leadR r view l)) := by
  obtain ⟨h, h39, h73, h63, h68, h72, h69⟩ := h
  have k39 := K39 h39 r ok
  have k73 := K73 h73 l r.id r.id hl
  have k63 := K63 h63 view 1
  have k68 := K68 h68 r
  have k72 := K72 h72 r ok hm
  have k72' := K72 h72 (leadNew r view l) ⟨by simp only [leadNew]; omega, by simp [leadNew]⟩ hl
  have k69 := K69 h69 l (by omega)
  simp only [eInts, eRep] at k39 k73 k63 k68 k72 k69
  simp only [eInts, eRep, leadNew, List.map_cons, List.map_nil] at k72'
  refine K'_code h rfl ?_
  have memb : membR l r.id r.id = decide (SetP l ∧ l.head? = some r.id) := by
    simp only [membR, Bool.decide_and]
    cases l with
    | nil => simp
    | cons a l =>
      by_cases ha : a = r.id
      · subst ha; simp
      · simp [ha]
  rw [memb] at k73
  rw [num_iff] at k63
  by_cases hg : leadGood r view l
  · obtain ⟨g1, g2, g3, g4, g5⟩ := hg
    obtain ⟨-, -, -, -, -, h1, h2, h3, h4⟩ := right_parts g1
    have hinc : IntKind.i64.wrap (r.n + 1) = r.n + 1 := wrap64 (by omega) (by omega)
    have hinv : IntKind.i64.wrap (r.view + 1) = r.view + 1 := wrap64 (by omega) (by omega)
    simp only [g2, g3, and_self, decide_true] at k73
    simp only [g4, g5, and_self, decide_true] at k63
    by_cases c1 : view = r.view ∧ leadsR r = true
    · have e : leadR r view l = (r, shipsR r, 0) := by simp only [leadR]; rw [if_pos ⟨g1, g2, g3, g4, g5⟩, if_pos c1]
      have d1 := decide_eq_true c1.1
      rw [e]
      simp only [go_sem, k39, g1, k73, k63, d1, k68, c1.2, k72]
    · have fin : (decide (view = r.view) = false ∨ leadsR r = false) := by
        by_cases hv : view = r.view
        · exact .inr (by simpa [hv] using c1)
        · exact .inl (by simpa using hv)
      by_cases c2 : view ≠ r.view + 1 ∨ r.members = []
      · have e : leadR r view l = (zeroRep, [], 10) := by simp only [leadR]; rw [if_pos ⟨g1, g2, g3, g4, g5⟩, if_neg c1, if_pos c2]
        rw [e]
        have d2 : decide (view = r.view + 1) = false ∨ decide (view = r.view + 1) = true ∧ decide ((r.members.length : Int) = 0) = true := by
          by_cases hv : view = r.view + 1
          · refine .inr ⟨by simp [hv], ?_⟩
            rcases c2 with c2 | c2
            · exact absurd hv c2
            · simp [c2]
          · exact .inl (by simp [hv])
        cases d1 : decide (view = r.view) with
        | false => rcases d2 with d2 | ⟨d2, d3⟩ <;> simp only [go_sem, k39, g1, k73, k63, d1, k68, hinv, d2, zeroRep] <;> simp only [go_sem, d3]
        | true =>
          have d4 : leadsR r = false := by rcases fin with f | f
                                           · rw [d1] at f; simp at f
                                           · exact f
          rcases d2 with d2 | ⟨d2, d3⟩ <;> simp only [go_sem, k39, g1, k73, k63, d1, d4, k68, hinv, d2, zeroRep] <;> simp only [go_sem, d3]
      · have hv : view = r.view + 1 := by
          by_cases hv : view = r.view + 1
          · exact hv
          · exact absurd (.inl hv) c2
        have hne : r.members ≠ [] := fun e => c2 (.inr e)
        have d1 : decide (view = r.view) = false := by simp; omega
        have d2 : decide (view = r.view + 1) = true := by simp [hv]
        have d3 := pos_ne hne
        by_cases c3 : r.n = 1099511627776
        · have e : leadR r view l = (zeroRep, [], 6) := by simp only [leadR]; rw [if_pos ⟨g1, g2, g3, g4, g5⟩, if_neg c1, if_neg c2, if_pos c3]
          have d4 := decide_eq_true c3
          rw [e]
          simp only [go_sem, k39, g1, k73, k63, d1, d2, d3, d4, k68, hinv, zeroRep]
        · have e : leadR r view l = (leadNew r view l, shipsR (leadNew r view l), 0) := by simp only [leadR]; rw [if_pos ⟨g1, g2, g3, g4, g5⟩, if_neg c1, if_neg c2, if_neg c3]
          have d4 := decide_eq_false c3
          rw [e]
          simp only [go_sem, k39, g1, k73, k63, d1, d2, d3, d4, k68, hinv, hinc, k69, k72', leadNew]
  · have e : leadR r view l = (zeroRep, [], 1) := by simp only [leadR, hg, if_false]
    rw [e]
    cases g1 : rightB r with
    | false => simp only [go_sem, k39, g1, zeroRep]
    | true =>
      cases g2 : decide (SetP l ∧ l.head? = some r.id) with
      | false => simp only [go_sem, k39, g1, k73, g2, zeroRep]
      | true =>
        have g2' := of_decide_eq_true g2
        have g3 : decide (1 ≤ view ∧ view ≤ 1099511627776) = false := by
          simp only [decide_eq_false_iff_not]
          exact fun c => hg ⟨g1, g2'.1, g2'.2, c.1, c.2⟩
        simp only [go_sem, k39, g1, k73, g2, k63, g3, zeroRep]
end Sg
namespace Sg
open _root_.Go (IntKind BinOp UnOp)
set_option linter.unusedSimpArgs false
set_option linter.unusedVariables false
set_option maxRecDepth 10000
variable {Pg : Nat → Option Fn}
def shipN (r : Rep) (w : Word) : Rep := ⟨r.id, w.view, w.members, w.n, w.text, w.text, []⟩
def shipT (r : Rep) (w : Word) : Rep × List Word :=
  if w.view < r.view then (r, [⟨3, r.id, w.frm, r.view, 0, [], []⟩])
  else if w.view = r.view ∧ (leadsR r = true ∨ w.n < r.n) then (r, [])
  else if w.view ≠ r.view ∨ r.n < w.n then (shipN r w, [⟨2, r.id, w.frm, w.view, w.n, [], []⟩])
  else (r, [⟨2, r.id, w.frm, r.view, r.n, [], []⟩])
def shipR (r : Rep) (w : Word) : Rep × List Word :=
  if decide (w.frm = r.id) then (r, []) else if membR w.members r.id w.frm then (if numG w.view 1 then (if numG w.n 1 then shipT r w else (r, [])) else (r, [])) else (r, [])
def H74 (Pg : Nat → Option Fn) : Prop := Pg 74 = some (.code F74) ∧ H73 Pg ∧ H63 Pg ∧ H68 Pg ∧ H69 Pg
theorem K74 (h : H74 Pg) (r : Rep) (w : Word) (hw : w.members.length ≤ 1000) : K' Pg 74 [.agg (eRep r), .agg (eWord w)] = some (eRW (shipR r w)) := by
  obtain ⟨h, h73, h63, h68, h69⟩ := h
  have k73 := K73 h73 w.members r.id w.frm hw
  have k63v := K63 h63 w.view 1
  have k63n := K63 h63 w.n 1
  have k68 := K68 h68 r
  have k69 := K69 h69 w.members (by omega)
  simp only [eInts, eRep] at k73 k63v k63n k68 k69
  refine K'_code h rfl ?_
  cases c1 : decide (w.frm = r.id) with
  | true => simp only [go_sem, c1, shipR]
  | false =>
  cases c2 : membR w.members r.id w.frm with
  | false => simp only [go_sem, c1, k73, c2, shipR]
  | true =>
  cases c3 : numG w.view 1 with
  | false => simp only [go_sem, c1, k73, c2, k63v, c3, shipR]
  | true =>
  cases c4 : numG w.n 1 with
  | false => simp only [go_sem, c1, k73, c2, k63v, c3, k63n, c4, shipR]
  | true =>
  have e : shipR r w = shipT r w := by simp only [shipR, c1, c2, c3, c4]; rfl
  rw [e]
  by_cases d1 : w.view < r.view
  · have e : shipT r w = (r, [⟨3, r.id, w.frm, r.view, 0, [], []⟩]) := by simp only [shipT, d1, if_true]
    rw [e]
    simp only [go_sem, c1, k73, c2, k63v, c3, k63n, c4, d1]
  · by_cases d2 : w.view = r.view
    · have d2' := decide_eq_true d2
      cases hl : leadsR r with
      | true =>
        have e : shipT r w = (r, []) := by simp only [shipT]; rw [if_neg d1, if_pos ⟨d2, .inl hl⟩]
        rw [e]
        simp only [go_sem, c1, k73, c2, k63v, c3, k63n, c4, d1, d2', k68, hl]
      | false =>
        by_cases d3 : w.n < r.n
        · have e : shipT r w = (r, []) := by simp only [shipT]; rw [if_neg d1, if_pos ⟨d2, .inr d3⟩]
          rw [e]
          simp only [go_sem, c1, k73, c2, k63v, c3, k63n, c4, d1, d2', k68, hl, d3]
        · by_cases d4 : r.n < w.n
          · have e : shipT r w = (shipN r w, [⟨2, r.id, w.frm, w.view, w.n, [], []⟩]) := by simp only [shipT]; rw [if_neg d1, if_neg (by rw [hl]; simp; omega), if_pos (.inr d4)]
            rw [e]
            simp only [go_sem, c1, k73, c2, k63v, c3, k63n, c4, d1, d2', k68, hl, d3, d4, k69, shipN]
          · have e : shipT r w = (r, [⟨2, r.id, w.frm, r.view, r.n, [], []⟩]) := by simp only [shipT]; rw [if_neg d1, if_neg (by rw [hl]; simp; omega), if_neg (by omega)]
            rw [e]
            simp only [go_sem, c1, k73, c2, k63v, c3, k63n, c4, d1, d2', k68, hl, d3, d4, k69]
    · have d2' := decide_eq_false d2
      have e : shipT r w = (shipN r w, [⟨2, r.id, w.frm, w.view, w.n, [], []⟩]) := by simp only [shipT]; rw [if_neg d1, if_neg (fun x => d2 x.1), if_pos (.inl d2)]
      rw [e]
      simp only [go_sem, c1, k73, c2, k63v, c3, k63n, c4, d1, d2', k68, k69, shipN]
def ackR (r : Rep) (w : Word) : Rep := ⟨r.id, r.view, r.members, r.n, r.base, r.text, r.acks ++ [w.frm]⟩
def pastR (r : Rep) : Rep := ⟨r.id, r.view, [], r.n, r.text, r.text, []⟩
def ackB (r : Rep) (w : Word) : Bool := leadsR r && (decide (w.view = r.view) && (decide (w.n = r.n) && (decide (w.frm ∈ r.members) && !decide (w.frm ∈ r.acks))))
def hearR (r : Rep) (w : Word) : Rep × List Word :=
  if rightB r then (if w.to = r.id then (if w.kind = 1 then shipR r w else if w.kind = 2 then (if ackB r w then (fixR (ackR r w), []) else (r, []))
    else if w.kind = 3 then (if r.view < w.view then (pastR r, []) else (r, [])) else (r, [])) else (r, [])) else (r, [])
def H57 (Pg : Nat → Option Fn) : Prop := Pg 57 = some (.code F57) ∧ H39 Pg ∧ H74 Pg ∧ H68 Pg ∧ H65 Pg ∧ H69 Pg ∧ H71 Pg
theorem K57 (h : H57 Pg) (r : Rep) (w : Word) (ok : r.Ok) (ha : r.acks.length ≤ 1000) (hw : w.members.length ≤ 1000) : K' Pg 57 [.agg (eRep r), .agg (eWord w)] = some (eRW (hearR r w)) := by
  obtain ⟨h, h39, h74, h68, h65, h69, h71⟩ := h
  have k39 := K39 h39 r ok
  have k74 := K74 h74 r w hw
  have k68 := K68 h68 r
  have k65m := K65 h65 r.members w.frm ok.m
  have k65a := K65 h65 r.acks w.frm ok.a
  have k69 := K69 h69 r.acks (by omega)
  have k71 := K71 h71 (ackR r w)
  have hlim : r.acks.length + 1 ≤ lim := by simp only [lim]; omega
  simp only [eInts, eRep, eWord, eRW, eWords] at k39 k74 k68 k65m k65a k69
  simp only [eInts, eRep, ackR, List.map_append, List.map_cons, List.map_nil] at k71
  refine K'_code h rfl ?_
  cases c1 : rightB r with
  | false => simp only [go_sem, k39, c1, hearR]
  | true =>
  by_cases c2 : w.to = r.id
  · have c2' := decide_eq_true c2
    by_cases d1 : w.kind = 1
    · have d1' := decide_eq_true d1
      have e : hearR r w = shipR r w := by simp only [hearR, c1, c2, d1, if_true]
      rw [e]
      simp only [go_sem, k39, c1, c2', d1', k74]
    · have d1' := decide_eq_false d1
      by_cases d2 : w.kind = 2
      · have d2' := decide_eq_true d2
        have e : hearR r w = (if ackB r w then (fixR (ackR r w), []) else (r, [])) := by simp only [hearR]; rw [if_pos c1, if_pos c2, if_neg d1, if_pos d2]
        rw [e]
        cases b1 : leadsR r with
        | false => simp only [go_sem, k39, c1, c2', d1', d2', k68, b1, ackB]
        | true =>
        cases b2 : decide (w.view = r.view) with
        | false => simp only [go_sem, k39, c1, c2', d1', d2', k68, b1, b2, ackB]
        | true =>
        cases b3 : decide (w.n = r.n) with
        | false => simp only [go_sem, k39, c1, c2', d1', d2', k68, b1, b2, b3, ackB]
        | true =>
        cases b4 : decide (w.frm ∈ r.members) with
        | false => simp only [go_sem, k39, c1, c2', d1', d2', k68, b1, b2, b3, k65m, b4, ackB]
        | true =>
        cases b5 : decide (w.frm ∈ r.acks) with
        | true => simp only [go_sem, k39, c1, c2', d1', d2', k68, b1, b2, b3, k65m, k65a, b4, b5, ackB]
        | false => simp only [go_sem, k39, c1, c2', d1', d2', k68, b1, b2, b3, k65m, k65a, b4, b5, ackB, k69, hlim, k71, ackR]
      · have d2' := decide_eq_false d2
        by_cases d3 : w.kind = 3
        · have d3' := decide_eq_true d3
          have e : hearR r w = (if r.view < w.view then (pastR r, []) else (r, [])) := by simp only [hearR]; rw [if_pos c1, if_pos c2, if_neg d1, if_neg d2, if_pos d3]
          rw [e]
          by_cases b : r.view < w.view <;> simp only [go_sem, k39, c1, c2', d1', d2', d3', b, pastR]
        · have d3' := decide_eq_false d3
          have e : hearR r w = (r, []) := by simp only [hearR]; rw [if_pos c1, if_pos c2, if_neg d1, if_neg d2, if_neg d3]
          rw [e]
          simp only [go_sem, k39, c1, c2', d1', d2', d3']
  · have c2' := decide_eq_false c2
    have e : hearR r w = (r, []) := by simp only [hearR, c1, c2, if_true, if_false]
    rw [e]
    simp only [go_sem, k39, c1, c2']
end Sg
namespace Sg
set_option linter.unusedSimpArgs false
set_option linter.unusedVariables false
structure RP (r : Rep) : Prop where
  id : 1 ≤ r.id ∧ r.id ≤ 255
  view : 0 ≤ r.view ∧ r.view ≤ 1099511627776
  n : 0 ≤ r.n ∧ r.n ≤ 1099511627776
  sm : SetP r.members
  sa : SetP r.acks
  sub : ∀ a ∈ r.acks, a ∈ r.members
  inn : r.members ≠ [] → r.id ∈ r.members
  lead : leadsR r = true → r.id ∈ r.acks ∧ (allR r = true → r.base = r.text)
  not : leadsR r = false → r.acks = [] ∧ r.base = r.text
theorem right_iff (r : Rep) : rightB r = true ↔ RP r := by
  have e1 : ((0 : Int) < (r.members.length : Int)) ↔ r.members ≠ [] := by
    cases h : r.members with
    | nil => simp
    | cons a l => simp
  have e2 : ((r.acks.length : Int) = 0) ↔ r.acks = [] := by cases r.acks <;> simp; omega
  unfold rightB
  simp only [Bool.and_eq_true, Bool.not_eq_true', Bool.or_eq_false_iff, decide_eq_false_iff_not, Bool.and_eq_false_iff, List.all_eq_true, decide_eq_true_eq, numG, Bool.not_eq_false', Bool.and_eq_true, Decidable.not_not, e1]
  constructor
  · rintro ⟨⟨h1, h2, h3, h4, h5, h6⟩, h7, h8, h9⟩
    refine ⟨⟨by omega, by omega⟩, ?_, ?_, h5, h6, h7, fun hm => ?_, fun hl => ?_, fun hl => ?_⟩
    · rcases h3 with h | h <;> omega
    · rcases h4 with h | h <;> omega
    · rcases h8 with h | h
      · exact absurd (h) (fun h => by first | exact h hm | exact hm h)
      · exact h
    · rw [hl] at h9
      simp only [cond_true, Bool.and_eq_true, Bool.or_eq_true, Bool.not_eq_true', decide_eq_true_eq] at h9
      refine ⟨h9.1, fun ha => ?_⟩
      rcases h9.2 with h | h
      · rw [ha] at h; cases h
      · exact h
    · rw [hl] at h9
      simp only [cond_false, Bool.and_eq_true, decide_eq_true_eq, e2] at h9
      exact h9
  · rintro ⟨h1, h2, h3, h4, h5, h6, h7, h8, h9⟩
    refine ⟨⟨by omega, by omega, ?_, ?_, h4, h5⟩, h6, ?_, ?_⟩
    · by_cases h : r.view = 0
      · exact .inl h
      · exact .inr ⟨by omega, by omega⟩
    · by_cases h : r.n = 0
      · exact .inl h
      · exact .inr ⟨by omega, by omega⟩
    · by_cases hm : r.members = []
      · exact .inl (by first | exact hm | exact fun h => h hm)
      · exact .inr (h7 hm)
    · cases hl : leadsR r with
      | true =>
        obtain ⟨a, b⟩ := h8 hl
        simp only [cond_true, Bool.and_eq_true, Bool.or_eq_true, Bool.not_eq_true', decide_eq_true_eq]
        refine ⟨a, ?_⟩
        cases ha : allR r with
        | false => exact .inl rfl
        | true => exact .inr (b ha)
      | false =>
        simp only [cond_false, Bool.and_eq_true, decide_eq_true_eq, e2]
        exact h9 hl
theorem leads_iff (r : Rep) : leadsR r = true ↔ r.members.head? = some r.id := by
  unfold leadsR
  cases r.members <;> simp
theorem setp_nil : SetP [] := by decide
def idOf (k : Nat) : Int := (k : Int) + 1
structure Gh where
  V : Int
  who : Int → Nat
  mem : Int → List Int
  n0 : Int → Int
  top : Int → Int
  τ : Int → Int → List UInt8
structure GOK (g : Gh) : Prop where
  V1 : 1 ≤ g.V
  who : ∀ v, 1 ≤ v → v ≤ g.V → g.who v < 3
  set : ∀ v, 1 ≤ v → v ≤ g.V → SetP (g.mem v) ∧ (∀ m ∈ g.mem v, 1 ≤ m ∧ m ≤ 3) ∧ (g.mem v).head? = some (idOf (g.who v))
  n0 : ∀ v, 1 ≤ v → v ≤ g.V → 1 ≤ g.n0 v ∧ g.n0 v ≤ g.top v
  chain : ∀ v, 1 ≤ v → v ≤ g.V → ∀ n m, g.n0 v ≤ n → n ≤ m → m ≤ g.top v → g.τ v n <+: g.τ v m
  next : ∀ v, 1 ≤ v → v + 1 ≤ g.V → idOf (g.who (v + 1)) ∈ g.mem v ∧ g.n0 v ≤ g.n0 (v + 1) - 1 ∧ g.n0 (v + 1) - 1 ≤ g.top v ∧ g.τ (v + 1) (g.n0 (v + 1)) = g.τ v (g.n0 (v + 1) - 1)
def AckOK (g : Gh) (r : Nat → Rep) (j : Nat) (v n : Int) : Prop :=
  v ≤ (r j).view ∧ ((r j).view = v → n ≤ (r j).n) ∧ (v + 1 ≤ g.V → g.who (v + 1) = j → n ≤ g.n0 (v + 1) - 1)
def Evd (g : Gh) (r : Nat → Rep) (v b : Int) : Prop :=
  b = g.n0 v ∨ ∀ j, j < 3 → idOf j ∈ g.mem v → v ≤ (r j).view ∧ ((r j).view = v → b ≤ (r j).n)
structure ROK (g : Gh) (r : Nat → Rep) (k : Nat) : Prop where
  id : (r k).id = idOf k
  right : RP (r k)
  view : 1 ≤ (r k).view ∧ (r k).view ≤ g.V
  n : g.n0 (r k).view ≤ (r k).n ∧ (r k).n ≤ g.top (r k).view
  text : (r k).text = g.τ (r k).view (r k).n
  mem : (r k).members = [] ∨ (r k).members = g.mem (r k).view ∧ idOf k ∈ g.mem (r k).view
  top : leadsR (r k) = true → (r k).n = g.top (r k).view
  base : leadsR (r k) = true → ∃ b, g.n0 (r k).view ≤ b ∧ b ≤ (r k).n ∧ (r k).base = g.τ (r k).view b ∧ ((r k).view + 1 ≤ g.V → b ≤ g.n0 ((r k).view + 1) - 1) ∧ Evd g r (r k).view b
  acks : leadsR (r k) = true → ∀ a ∈ (r k).acks, a ≠ (r k).id → ∃ j, j < 3 ∧ a = idOf j ∧ AckOK g r j (r k).view (r k).n
structure WOK (g : Gh) (r : Nat → Rep) (x : Word) : Prop where
  ship : x.kind = 1 → 1 ≤ x.view ∧ x.view ≤ g.V ∧ g.n0 x.view ≤ x.n ∧ x.n ≤ g.top x.view ∧ x.text = g.τ x.view x.n ∧ x.members = g.mem x.view ∧ x.frm = idOf (g.who x.view)
  ack : x.kind = 2 → ∃ j, j < 3 ∧ x.frm = idOf j ∧ AckOK g r j x.view x.n
  past : x.kind = 3 → x.view ≤ g.V
structure Fixd where
  text : List UInt8
  at_ : Int
structure FOK (g : Gh) (r : Nat → Rep) (x : Fixd) : Prop where
  at_ : 1 ≤ x.at_ ∧ x.at_ ≤ g.V
  b : ∃ b, g.n0 x.at_ ≤ b ∧ b ≤ g.top x.at_ ∧ x.text = g.τ x.at_ b ∧ (x.at_ + 1 ≤ g.V → b ≤ g.n0 (x.at_ + 1) - 1) ∧ Evd g r x.at_ b
  now : ∀ k, k < 3 → leadsR (r k) = true → (r k).view = x.at_ → x.text <+: (r k).base
structure Told where
  view : Int
  who : Int
  members : List Int
structure Inv1 (g : Gh) (r : Nat → Rep) (net : List Word) (views : List Told) (fx : List Fixd) : Prop where
  gk : GOK g
  rk : ∀ k, k < 3 → ROK g r k
  told : ∀ v, 1 ≤ v → v ≤ g.V → v ≤ (r (g.who v)).view
  netk : ∀ x ∈ net, WOK g r x
  viewk : ∀ t ∈ views, 2 ≤ t.view ∧ t.view ≤ g.V ∧ t.who = (g.who t.view : Int)
  all : ∀ v, 2 ≤ v → v ≤ g.V → ∃ t ∈ views, t.view = v
  fxk : ∀ x ∈ fx, FOK g r x
theorem idOf_inj {i j : Nat} (h : idOf i = idOf j) : i = j := by unfold idOf at h; omega
section
variable {g : Gh} {r : Nat → Rep} {net : List Word} {views : List Told} {fx : List Fixd}
theorem ROK.who (hg : GOK g) {k : Nat} (h : ROK g r k) (hl : leadsR (r k) = true) : g.who (r k).view = k ∧ (r k).members = g.mem (r k).view := by
  rcases h.mem with hm | ⟨hm, _⟩
  · rw [leads_iff, hm] at hl; simp at hl
  · have h1 := (leads_iff _).1 hl
    rw [hm, (hg.set _ h.view.1 h.view.2).2.2, h.id] at h1
    exact ⟨idOf_inj (by simpa using h1), hm⟩
structure Goes (r : Nat → Rep) (k : Nat) (x : Rep) : Prop where
  view : (r k).view ≤ x.view
  n : x.view = (r k).view → (r k).n ≤ x.n
theorem Goes.ack {k : Nat} {x : Rep} (h : Goes r k x) {j : Nat} {v n : Int} (ha : AckOK g r j v n) : AckOK g (upd r k x) j v n := by
  obtain ⟨a1, a2, a3⟩ := ha
  refine ⟨?_, ?_, a3⟩
  · simp only [upd]; split
    · rename_i e; subst e; exact Int.le_trans a1 h.view
    · exact a1
  · simp only [upd]; split
    · rename_i e; subst e
      intro hv
      have := h.view
      have e2 : (r j).view = v := by omega
      exact Int.le_trans (a2 e2) (h.n (by omega))
    · exact a2
theorem Goes.evd {k : Nat} {x : Rep} (h : Goes r k x) {v b : Int} (ha : Evd g r v b) : Evd g (upd r k x) v b := by
  rcases ha with ha | ha
  · exact .inl ha
  · refine .inr fun j hj hm => ?_
    obtain ⟨a1, a2⟩ := ha j hj hm
    simp only [upd]; split
    · rename_i e; subst e
      have := h.view
      exact ⟨by omega, fun hv => Int.le_trans (a2 (by omega)) (h.n (by omega))⟩
    · exact ⟨a1, a2⟩
theorem Inv1.go (h : Inv1 g r net views fx) {k : Nat} (hk : k < 3) {x : Rep} (hg : Goes r k x) (hx : ROK g (upd r k x) k)
    (hf : leadsR x = true → leadsR (r k) = true ∧ x.view = (r k).view ∧ (r k).base <+: x.base) : Inv1 g (upd r k x) net views fx := by
  refine ⟨h.gk, fun j hj => ?_, fun v h1 h2 => ?_, fun y hy => ?_, h.viewk, h.all, fun y hy => ?_⟩
  · by_cases e : j = k
    · subst e; exact hx
    · have hr := h.rk j hj
      have e1 : upd r k x j = r j := by simp [upd, e]
      refine ⟨by rw [e1]; exact hr.id, by rw [e1]; exact hr.right, by rw [e1]; exact hr.view, by rw [e1]; exact hr.n, by rw [e1]; exact hr.text, by rw [e1]; exact hr.mem, by rw [e1]; exact hr.top, ?_, ?_⟩
      · rw [e1]; intro hl
        obtain ⟨b, b1, b2, b3, b4, b5⟩ := hr.base hl
        exact ⟨b, b1, b2, b3, b4, hg.evd b5⟩
      · rw [e1]; intro hl a ha hne
        obtain ⟨i, i1, i2, i3⟩ := hr.acks hl a ha hne
        exact ⟨i, i1, i2, hg.ack i3⟩
  · have := h.told v h1 h2
    simp only [upd]; split
    · rename_i e; rw [e] at this; exact Int.le_trans this hg.view
    · exact this
  · have hw := h.netk y hy
    exact ⟨hw.ship, fun hk => by obtain ⟨j, j1, j2, j3⟩ := hw.ack hk; exact ⟨j, j1, j2, hg.ack j3⟩, hw.past⟩
  · have hw := h.fxk y hy
    obtain ⟨b, b1, b2, b3, b4, b5⟩ := hw.b
    refine ⟨hw.at_, ⟨b, b1, b2, b3, b4, hg.evd b5⟩, fun j hj hl hv => ?_⟩
    by_cases e : j = k
    · subst e
      have e1 : upd r j x j = x := by simp [upd]
      rw [e1] at hl hv ⊢
      obtain ⟨f1, f2, f3⟩ := hf hl
      exact (hw.now j hj f1 (by omega)).trans f3
    · have e1 : upd r k x j = r j := by simp [upd, e]
      rw [e1] at hl hv ⊢
      exact hw.now j hj hl hv
theorem upd_k {k : Nat} {x : Rep} : upd r k x k = x := by simp [upd]
theorem Inv1.say (h : Inv1 g r net views fx) {net' : List Word} (hn : ∀ x ∈ net', WOK g r x) : Inv1 g r net' views fx := ⟨h.gk, h.rk, h.told, hn, h.viewk, h.all, h.fxk⟩
theorem memb_spec {l : List Int} {id f : Int} (h : membR l id f = true) : SetP l ∧ id ∈ l ∧ l.head? = some f := by
  simp only [membR, Bool.and_eq_true, decide_eq_true_eq] at h
  exact ⟨h.1, h.2.1, h.2.2⟩
theorem Inv1.notNext (h : Inv1 g r net views fx) {k : Nat} {v : Int} (hv : (r k).view ≤ v) (h1 : 1 ≤ v) (h2 : v + 1 ≤ g.V) : g.who (v + 1) ≠ k := fun e => by
  have := h.told (v + 1) (by omega) h2
  rw [e] at this
  omega
theorem Inv1.ship (h : Inv1 g r net views fx) {k : Nat} (hk : k < 3) {w : Word} (hw : WOK g r w) (h1 : w.kind = 1) :
    Inv1 g (upd r k (shipR (r k) w).1) (net ++ (shipR (r k) w).2) views fx := by
  have hr := h.rk k hk
  have hsame : upd r k (r k) = r := by funext i; simp only [upd]; split <;> simp_all
  have keep : ∀ l : List Word, (∀ x ∈ l, WOK g r x) → Inv1 g (upd r k (r k)) (net ++ l) views fx := fun l hl => by
    rw [hsame]
    exact h.say fun x hx => (List.mem_append.1 hx).elim (h.netk x) (hl x)
  have nil : Inv1 g (upd r k (r k)) (net ++ []) views fx := keep [] (fun x hx => by simp at hx)
  unfold shipR
  split
  · exact nil
  rename_i hne
  split
  rotate_left
  · exact nil
  rename_i hm
  split
  rotate_left
  · exact nil
  rename_i hnv
  split
  rotate_left
  · exact nil
  rename_i hnn
  obtain ⟨m1, m2, m3⟩ := memb_spec hm
  obtain ⟨s1, s2, s3, s4, s5, s6, s7⟩ := hw.ship h1
  simp only [numG, Bool.and_eq_true, decide_eq_true_eq] at hnv hnn
  have hne' : w.frm ≠ (r k).id := by simpa using hne
  unfold shipT
  split
  · refine keep _ fun x hx => ?_
    have : x = ⟨3, (r k).id, w.frm, (r k).view, 0, [], []⟩ := by simpa using hx
    subst this
    exact ⟨fun e => by simp at e, fun e => by simp at e, fun _ => hr.view.2⟩
  rename_i c1
  split
  · exact nil
  rename_i c2
  split
  · rename_i c3
    -- taken
    have hnl : leadsR (shipN (r k) w) = false := by
      cases hl : leadsR (shipN (r k) w) with
      | false => rfl
      | true =>
        have := (leads_iff _).1 hl
        simp only [shipN] at this
        rw [m3] at this
        exact absurd (by simpa using this) hne'
    have hgo : Goes r k (shipN (r k) w) := ⟨by simp only [shipN]; omega, fun e => by
      simp only [shipN] at e ⊢
      rcases c3 with c3 | c3
      · exact absurd e c3
      · omega⟩
    have hR : ROK g (upd r k (shipN (r k) w)) k := by
      have hp : RP (shipN (r k) w) := ⟨hr.right.id, ⟨by simp only [shipN]; omega, by simp only [shipN]; omega⟩, ⟨by simp only [shipN]; omega, by simp only [shipN]; omega⟩, m1, setp_nil,
        fun a ha => (by simp [shipN] at ha), fun _ => m2, fun hl => (by rw [hnl] at hl; cases hl), fun _ => ⟨rfl, rfl⟩⟩
      refine ⟨by rw [upd_k]; exact hr.id, by rw [upd_k]; exact hp, by rw [upd_k]; exact ⟨s1, s2⟩, by rw [upd_k]; exact ⟨s3, s4⟩, by rw [upd_k]; exact s5, ?_, ?_, ?_, ?_⟩
      · rw [upd_k]
        refine .inr ⟨s6, ?_⟩
        show idOf k ∈ g.mem w.view
        rw [← s6, ← hr.id]; exact m2
      all_goals (rw [upd_k]; intro hl; rw [hnl] at hl; cases hl)
    have hgo' := h.go hk hgo hR (fun hl => by rw [hnl] at hl; cases hl)
    refine hgo'.say fun x hx => ?_
    rcases List.mem_append.1 hx with hx | hx
    · exact hgo'.netk x hx
    · have : x = ⟨2, (r k).id, w.frm, w.view, w.n, [], []⟩ := by simpa using hx
      subst this
      refine ⟨fun e => by simp at e, fun _ => ⟨k, hk, hr.id, ?_, ?_, ?_⟩, fun e => by simp at e⟩
      · rw [upd_k]; exact Int.le_refl _
      · intro _; rw [upd_k]; exact Int.le_refl _
      · intro hv hw'
        exact absurd hw' (hgo'.notNext (k := k) (v := w.view) (by rw [upd_k]; exact Int.le_refl _) s1 hv)
  · refine keep _ fun x hx => ?_
    have : x = ⟨2, (r k).id, w.frm, (r k).view, (r k).n, [], []⟩ := by simpa using hx
    subst this
    refine ⟨fun e => by simp at e, fun _ => ⟨k, hk, hr.id, Int.le_refl _, fun _ => Int.le_refl _, fun hv hw' => ?_⟩, fun e => by simp at e⟩
    exact absurd hw' (h.notNext (Int.le_refl _) hr.view.1 hv)
theorem setp_snoc {l : List Int} {a : Int} (h : SetP l) (ha : a ∉ l) (hl : (l ++ [a]).length ≤ 8) (hr : 1 ≤ a ∧ a ≤ 255) : SetP (l ++ [a]) := by
  refine ⟨hl, fun m hm => ?_, ?_⟩
  · rcases List.mem_append.1 hm with hm | hm
    · exact h.2.1 m hm
    · have : m = a := by simpa using hm
      subst this; exact hr
  · refine List.nodup_append.2 ⟨h.2.2, by simp, fun x hx y hy e => ?_⟩
    have : y = a := by simpa using hy
    subst this; subst e; exact ha hx
theorem all_of_len {l m : List Int} (hl : l.Nodup) (hm : m.Nodup) (hs : ∀ x ∈ l, x ∈ m) (h : l.length = m.length) : ∀ x ∈ m, x ∈ l := fun x hx => by
  by_cases hn : x ∈ l
  · exact hn
  · exfalso
    have := nodup_len (l := x :: l) (m := m) (List.nodup_cons.2 ⟨hn, hl⟩) (fun y hy => by
      rcases List.mem_cons.1 hy with rfl | hy
      · exact hx
      · exact hs y hy)
    simp at this; omega
theorem fix_fields (r : Rep) : (fixR r).id = r.id ∧ (fixR r).view = r.view ∧ (fixR r).members = r.members ∧ (fixR r).n = r.n ∧ (fixR r).text = r.text ∧ (fixR r).acks = r.acks := by
  unfold fixR; split <;> exact ⟨rfl, rfl, rfl, rfl, rfl, rfl⟩
theorem leads_fix (r : Rep) : leadsR (fixR r) = leadsR r := by
  obtain ⟨h1, h2, h3, h4, h5, h6⟩ := fix_fields r
  unfold leadsR; rw [h3, h1]
theorem all_fix (r : Rep) : allR (fixR r) = allR r := by
  obtain ⟨h1, h2, h3, h4, h5, h6⟩ := fix_fields r
  unfold allR; rw [h3, h6]
theorem Inv1.ack (h : Inv1 g r net views fx) {k : Nat} (hk : k < 3) {w : Word} (hw : WOK g r w) (h2 : w.kind = 2) (hb : ackB (r k) w = true) :
    Inv1 g (upd r k (fixR (ackR (r k) w))) net views fx := by
  have hr := h.rk k hk
  simp only [ackB, Bool.and_eq_true, decide_eq_true_eq, Bool.not_eq_true', decide_eq_false_iff_not] at hb
  obtain ⟨b1, b2, b3, b4, b5⟩ := hb
  obtain ⟨e1, e2, e3, e4, e5, e6⟩ := fix_fields (ackR (r k) w)
  have hl' : leadsR (fixR (ackR (r k) w)) = true := by rw [leads_fix]; exact b1
  obtain ⟨w1, w2⟩ := hr.who h.gk b1
  obtain ⟨j, j1, j2, j3⟩ := hw.ack h2
  rw [b2, b3] at j3
  have hgo : Goes r k (fixR (ackR (r k) w)) := ⟨by rw [e2]; exact Int.le_refl _, fun _ => by rw [e4]; exact Int.le_refl _⟩
  have hlen : ((r k).acks ++ [w.frm]).length ≤ (r k).members.length := nodup_len (List.nodup_append.2 ⟨hr.right.sa.2.2, by simp, fun x hx y hy e => by
      have : y = w.frm := by simpa using hy
      subst this; subst e; exact b5 hx⟩) (fun x hx => by
    rcases List.mem_append.1 hx with hx | hx
    · exact hr.right.sub x hx
    · have : x = w.frm := by simpa using hx
      subst this; exact b4)
  have hset : SetP ((r k).acks ++ [w.frm]) := setp_snoc hr.right.sa b5 (Nat.le_trans hlen hr.right.sm.1) (hr.right.sm.2.1 _ b4)
  have hsub : ∀ a ∈ (r k).acks ++ [w.frm], a ∈ (r k).members := fun a ha => by
    rcases List.mem_append.1 ha with ha | ha
    · exact hr.right.sub a ha
    · have : a = w.frm := by simpa using ha
      subst this; exact b4
  have hacks : ∀ a ∈ (r k).acks ++ [w.frm], a ≠ (r k).id → ∃ j, j < 3 ∧ a = idOf j ∧ AckOK g r j (r k).view (r k).n := fun a ha hne => by
    rcases List.mem_append.1 ha with ha | ha
    · exact hr.acks b1 a ha hne
    · have : a = w.frm := by simpa using ha
      subst this; exact ⟨j, j1, j2, j3⟩
  have hR : ROK g (upd r k (fixR (ackR (r k) w))) k := by
    have hp : RP (fixR (ackR (r k) w)) := by
      refine ⟨by rw [e1]; exact hr.right.id, by rw [e2]; exact hr.right.view, by rw [e4]; exact hr.right.n, by rw [e3]; exact hr.right.sm, by rw [e6]; exact hset, by rw [e6, e3]; exact hsub, by rw [e3, e1]; exact hr.right.inn, fun _ => ?_, fun hl => by rw [hl'] at hl; cases hl⟩
      rw [e1, e6]
      refine ⟨List.mem_append.2 (.inl (hr.right.lead b1).1), fun ha => ?_⟩
      rw [all_fix] at ha
      unfold fixR
      split
      · rfl
      · rename_i hn
        exfalso
        have hs : ∀ m ∈ (r k).members, m ∈ (r k).acks ++ [w.frm] := by simpa [allR, ackR] using ha
        have := nodup_len hr.right.sm.2.2 hs
        exact hn (by simp only [ackR]; omega)
    refine ⟨by rw [upd_k, e1]; exact hr.id, by rw [upd_k]; exact hp, by rw [upd_k, e2]; exact hr.view, by rw [upd_k, e2, e4]; exact hr.n, by rw [upd_k, e5, e2, e4]; exact hr.text, by rw [upd_k, e3, e2]; exact hr.mem, ?_, ?_, ?_⟩
    · rw [upd_k, e2, e4]; intro _; exact hr.top b1
    · rw [upd_k, e2, e4]; intro _
      unfold fixR
      split
      · rename_i hlen2
        simp only [ackR] at hlen2
        have hall := all_of_len hset.2.2 hr.right.sm.2.2 hsub hlen2
        refine ⟨(r k).n, hr.n.1, Int.le_refl _, hr.text, fun hv => ?_, .inr fun i hi hm => ?_⟩
        · have hmem := (h.gk.next _ hr.view.1 hv).1
          rw [← w2] at hmem
          obtain ⟨i, i1, i2, i3⟩ := hacks _ (hall _ hmem) (fun e => by
            rw [hr.id] at e
            exact h.notNext (Int.le_refl _) hr.view.1 hv (idOf_inj e))
          exact i3.2.2 hv (idOf_inj i2)
        · have hm : idOf i ∈ g.mem (r k).view := hm
          rw [← w2] at hm
          by_cases e : i = k
          · subst e; rw [upd_k]; exact ⟨Int.le_refl _, fun _ => Int.le_refl _⟩
          · obtain ⟨i', i1, i2, i3⟩ := hacks _ (hall _ hm) (fun e' => by rw [hr.id] at e'; exact e (idOf_inj e'))
            have : i = i' := idOf_inj i2
            subst this
            simp only [upd, if_neg e]
            exact ⟨i3.1, i3.2.1⟩
      · obtain ⟨b, c1, c2, c3, c4, c5⟩ := hr.base b1
        refine ⟨b, c1, c2, c3, c4, ?_⟩
        have := hgo.evd c5
        unfold fixR at this
        rename_i hn
        rwa [if_neg hn] at this
    · rw [upd_k, e2, e4, e6, e1]
      intro _ a ha hne
      obtain ⟨i, i1, i2, i3⟩ := hacks a ha hne
      exact ⟨i, i1, i2, hgo.ack i3⟩
  refine h.go hk hgo hR (fun _ => ⟨b1, e2, ?_⟩)
  unfold fixR
  split
  · obtain ⟨b, c1, c2, c3, -, -⟩ := hr.base b1
    show (r k).base <+: (r k).text
    rw [c3, hr.text]
    exact h.gk.chain _ hr.view.1 hr.view.2 _ _ c1 c2 hr.n.2
  · exact List.prefix_refl _
theorem Inv1.hear (h : Inv1 g r net views fx) {k : Nat} (hk : k < 3) {w : Word} (hw : WOK g r w) :
    Inv1 g (upd r k (hearR (r k) w).1) (net ++ (hearR (r k) w).2) views fx := by
  have hr := h.rk k hk
  have hsame : upd r k (r k) = r := by funext i; simp only [upd]; split <;> simp_all
  have nil : Inv1 g (upd r k (r k)) (net ++ []) views fx := by rw [hsame, List.append_nil]; exact h
  unfold hearR
  split
  rotate_left
  · exact nil
  split
  rotate_left
  · exact nil
  split
  · rename_i h1; exact h.ship hk hw h1
  split
  · rename_i h2
    split
    · rename_i hb; simp only [List.append_nil]; exact h.ack hk hw h2 hb
    · exact nil
  split
  rotate_left
  · exact nil
  split
  rotate_left
  · exact nil
  simp only [List.append_nil]
  have hnl : leadsR (pastR (r k)) = false := rfl
  refine h.go hk ⟨Int.le_refl _, fun _ => Int.le_refl _⟩ ?_ (fun hl => by rw [hnl] at hl; cases hl)
  refine ⟨by rw [upd_k]; exact hr.id, ?_, by rw [upd_k]; exact hr.view, by rw [upd_k]; exact hr.n, by rw [upd_k]; exact hr.text, by rw [upd_k]; exact .inl rfl, ?_, ?_, ?_⟩
  · rw [upd_k]
    exact ⟨hr.right.id, hr.right.view, hr.right.n, setp_nil, setp_nil, fun a ha => (by simp [pastR] at ha), fun hm => absurd rfl hm,
      fun hl => (by rw [hnl] at hl; cases hl), fun _ => ⟨rfl, rfl⟩⟩
  all_goals (rw [upd_k]; intro hl; rw [hnl] at hl; cases hl)
end
end Sg
namespace Sg
set_option linter.unusedSimpArgs false
set_option linter.unusedVariables false
section
variable {g : Gh} {r : Nat → Rep} {net : List Word} {views : List Told} {fx : List Fixd}
def Gh.prop (g : Gh) (v n : Int) (t : List UInt8) : Gh := ⟨g.V, g.who, g.mem, g.n0, fun x => if x = v then n else g.top x, fun x m => if x = v ∧ m = n then t else g.τ x m⟩
theorem prop_τ {v n : Int} {t : List UInt8} {x m : Int} (h : m ≤ g.top x) (hn : n = g.top v + 1) : (g.prop v n t).τ x m = g.τ x m := by
  simp only [Gh.prop]
  rw [if_neg]
  rintro ⟨rfl, rfl⟩
  omega
theorem prop_top {v n : Int} {t : List UInt8} {x : Int} (hn : n = g.top v + 1) : g.top x ≤ (g.prop v n t).top x := by
  simp only [Gh.prop]; split
  · rename_i e; subst e; omega
  · exact Int.le_refl _
theorem ships_of {r : Rep} {x : Word} (h : x ∈ shipsR r) : x.kind = 1 ∧ x.frm = r.id ∧ x.view = r.view ∧ x.n = r.n ∧ x.members = r.members ∧ x.text = r.text := by
  simp only [shipsR, List.mem_map] at h
  obtain ⟨m, -, rfl⟩ := h
  exact ⟨rfl, rfl, rfl, rfl, rfl, rfl⟩
theorem Inv1.propose (h : Inv1 g r net views fx) {k : Nat} (hk : k < 3) {c : List UInt8} {x : Rep} {l : List Word} (hp : proposeR (r k) ((r k).base ++ c) = (x, l, 0)) :
    ∃ g', Inv1 g' (upd r k x) (net ++ l) views fx ∧ g'.V = g.V ∧ g'.who = g.who := by
  have hr := h.rk k hk
  unfold proposeR at hp
  have hright := (right_iff _).2 hr.right
  rw [if_pos hright] at hp
  split at hp <;> try (simp at hp; done)
  rename_i hl
  split at hp <;> try (simp at hp; done)
  rename_i hall
  split at hp <;> try (simp at hp; done)
  rename_i hmax
  simp only [Prod.mk.injEq, and_true] at hp
  obtain ⟨hx, hl'⟩ := hp
  obtain ⟨w1, w2⟩ := hr.who h.gk hl
  have hbt := (hr.right.lead hl).2 hall
  have htop := hr.top hl
  -- the new replica
  generalize hy : (⟨(r k).id, (r k).view, (r k).members, (r k).n + 1, (r k).base, (r k).base ++ c, [(r k).id]⟩ : Rep) = y at hx hl'
  have y1 : y.id = (r k).id := by rw [← hy]
  have y2 : y.view = (r k).view := by rw [← hy]
  have y3 : y.members = (r k).members := by rw [← hy]
  have y4 : y.n = (r k).n + 1 := by rw [← hy]
  have y5 : y.base = (r k).base := by rw [← hy]
  have y6 : y.text = (r k).base ++ c := by rw [← hy]
  have y7 : y.acks = [(r k).id] := by rw [← hy]
  obtain ⟨e1, e2, e3, e4, e5, e6⟩ := fix_fields y
  rw [hx] at e1 e2 e3 e4 e5 e6
  have hly : leadsR y = true := by
    rw [leads_iff, y3, y1]; exact (leads_iff _).1 hl
  have hlx : leadsR x = true := by rw [← hx, leads_fix]; exact hly
  have hn : (r k).n + 1 = g.top (r k).view + 1 := by omega
  have hτ : ∀ {v m : Int}, m ≤ g.top v → (g.prop (r k).view ((r k).n + 1) ((r k).base ++ c)).τ v m = g.τ v m := fun hm => prop_τ hm hn
  have htp : ∀ v, g.top v ≤ (g.prop (r k).view ((r k).n + 1) ((r k).base ++ c)).top v := fun v => prop_top hn
  have hτn : (g.prop (r k).view ((r k).n + 1) ((r k).base ++ c)).τ (r k).view ((r k).n + 1) = (r k).base ++ c := by simp [Gh.prop]
  have htn : (g.prop (r k).view ((r k).n + 1) ((r k).base ++ c)).top (r k).view = (r k).n + 1 := by simp [Gh.prop]
  have hgo : Goes r k x := ⟨by rw [e2, y2]; exact Int.le_refl _, fun _ => by rw [e4, y4]; omega⟩
  have hmemid : (r k).id ∈ (r k).members := hr.right.inn (fun e => by rw [leads_iff, e] at hl; simp at hl)
  have hgk : GOK (g.prop (r k).view ((r k).n + 1) ((r k).base ++ c)) := by
    refine ⟨h.gk.V1, h.gk.who, h.gk.set, fun v h1 h2 => ⟨(h.gk.n0 v h1 h2).1, Int.le_trans (h.gk.n0 v h1 h2).2 (htp v)⟩, fun v h1 h2 n m a1 a2 a3 => ?_, fun v h1 h2 => ?_⟩
    · by_cases hv : v = (r k).view
      · subst hv
        by_cases hm : m = (r k).n + 1
        · subst hm
          rw [hτn]
          by_cases hn' : n = (r k).n + 1
          · subst hn'; rw [hτn]; exact List.prefix_refl _
          · rw [hτ (by omega)]
            have := h.gk.chain _ h1 h2 n (r k).n a1 (by omega) (by omega)
            rw [← hr.text, ← hbt] at this
            exact this.trans (List.prefix_append _ _)
        · rw [htn] at a3
          rw [hτ (by omega), hτ (by omega)]
          exact h.gk.chain _ h1 h2 n m a1 a2 (by omega)
      · have e : (g.prop (r k).view ((r k).n + 1) ((r k).base ++ c)).top v = g.top v := by simp [Gh.prop, hv]
        rw [e] at a3
        rw [hτ (by omega), hτ a3]
        exact h.gk.chain _ h1 h2 n m a1 a2 a3
    · obtain ⟨b1, b2, b3, b4⟩ := h.gk.next v h1 h2
      refine ⟨b1, b2, Int.le_trans b3 (htp v), ?_⟩
      have e1 : (g.prop (r k).view ((r k).n + 1) ((r k).base ++ c)).n0 = g.n0 := rfl
      rw [e1, hτ (h.gk.n0 (v + 1) (by omega) h2).2, hτ b3]
      exact b4
  refine ⟨g.prop (r k).view ((r k).n + 1) ((r k).base ++ c), ⟨hgk, fun j hj => ?_, fun v h1 h2 => ?_, fun z hz => ?_, h.viewk, h.all, fun z hz => ?_⟩, rfl, rfl⟩
  · by_cases e : j = k
    · subst e
      have hpx : RP x := by
        refine ⟨by rw [e1, y1]; exact hr.right.id, by rw [e2, y2]; exact hr.right.view, by rw [e4, y4]; have := hr.right.n; omega, by rw [e3, y3]; exact hr.right.sm, ?_, ?_, by rw [e3, e1, y3, y1]; exact hr.right.inn, fun _ => ?_, fun hn => by rw [hlx] at hn; cases hn⟩
        · rw [e6, y7]
          refine ⟨by simp, fun m hm => ?_, by simp⟩
          have : m = (r j).id := by simpa using hm
          subst this; exact hr.right.id
        · rw [e6, y7, e3, y3]
          intro a ha
          have : a = (r j).id := by simpa using ha
          subst this; exact hmemid
        · refine ⟨by rw [e1, e6, y7, y1]; simp, fun ha => ?_⟩
          rw [← hx, all_fix] at ha
          rw [← hx]
          unfold fixR
          split
          · rfl
          · rename_i hne
            exfalso
            have hs : ∀ m ∈ y.members, m ∈ y.acks := by simpa [allR] using ha
            rw [y3, y7] at hs
            have l1 := nodup_len hr.right.sm.2.2 hs
            have l2 : 0 < (r j).members.length := List.length_pos_of_mem hmemid
            apply hne
            rw [y3, y7]
            simp at l1 ⊢
            omega
      refine ⟨by rw [upd_k, e1, y1]; exact hr.id, by rw [upd_k]; exact hpx, by rw [upd_k, e2, y2]; exact hr.view, ?_, ?_, by rw [upd_k, e3, e2, y3, y2]; exact hr.mem, ?_, ?_, ?_⟩
      · rw [upd_k, e2, e4, y2, y4, htn]; exact ⟨by have := hr.n.1; show g.n0 _ ≤ _; omega, Int.le_refl _⟩
      · rw [upd_k, e5, e2, e4, y6, y2, y4, hτn]
      · rw [upd_k, e2, e4, y2, y4, htn]; intro _; rfl
      · rw [upd_k, e2, e4, y2, y4]; intro _
        rw [← hx]
        unfold fixR
        split
        · rename_i hlen
          have hone : (r j).members.length = 1 := by rw [y7, y3] at hlen; simpa using hlen.symm
          have hsing : ∀ a ∈ (r j).members, a = (r j).id := fun a ha => by
            match hmm : (r j).members, hone with
            | [b], _ =>
              rw [hmm] at ha hmemid
              simp at ha hmemid
              rw [ha, hmemid]
          refine ⟨(r j).n + 1, by have := hr.n.1; show g.n0 _ ≤ _; omega, Int.le_refl _, by rw [hτn]; exact y6, fun hv => ?_, .inr fun i hi hm => ?_⟩
          · exfalso
            have hmem := (h.gk.next _ hr.view.1 hv).1
            rw [← w2] at hmem
            have := hsing _ hmem
            rw [hr.id] at this
            exact h.notNext (Int.le_refl _) hr.view.1 hv (idOf_inj this)
          · have hm : idOf i ∈ g.mem (r j).view := hm
            rw [← w2] at hm
            have := hsing _ hm
            rw [hr.id] at this
            have hij := idOf_inj this
            subst hij
            have ez : ({ y with base := y.text } : Rep).view = (r i).view := y2
            have en : ({ y with base := y.text } : Rep).n = (r i).n + 1 := y4
            rw [upd_k]
            exact ⟨by rw [ez]; exact Int.le_refl _, fun _ => by rw [en]; exact Int.le_refl _⟩
        · rename_i hne
          obtain ⟨b, b1, b2, b3, b4, b5⟩ := hr.base hl
          refine ⟨b, b1, by omega, by rw [y5, hτ (by omega)]; exact b3, b4, ?_⟩
          have hyx : y = x := by rw [← hx]; unfold fixR; rw [if_neg hne]
          rw [hyx]
          exact hgo.evd (g := g) b5
      · rw [upd_k, e6, e1, y7, y1]
        intro _ a ha hne
        have : a = (r j).id := by simpa using ha
        exact absurd this hne
    · have hj' := h.rk j hj
      have eu : upd r k x j = r j := by simp [upd, e]
      refine ⟨by rw [eu]; exact hj'.id, by rw [eu]; exact hj'.right, by rw [eu]; exact hj'.view, by rw [eu]; exact ⟨hj'.n.1, Int.le_trans hj'.n.2 (htp _)⟩, by rw [eu, hτ hj'.n.2]; exact hj'.text, by rw [eu]; exact hj'.mem, ?_, ?_, ?_⟩
      · rw [eu]; intro hlj
        have hvne : (r j).view ≠ (r k).view := fun hv => by
          have := (hj'.who h.gk hlj).1
          rw [hv, w1] at this
          exact e this.symm
        have : (g.prop (r k).view ((r k).n + 1) ((r k).base ++ c)).top (r j).view = g.top (r j).view := by simp [Gh.prop, hvne]
        rw [this]; exact hj'.top hlj
      · rw [eu]; intro hlj
        obtain ⟨b, b1, b2, b3, b4, b5⟩ := hj'.base hlj
        exact ⟨b, b1, b2, by rw [hτ (Int.le_trans b2 hj'.n.2)]; exact b3, b4, hgo.evd (g := g) b5⟩
      · rw [eu]; intro hlj a ha hne
        obtain ⟨i, i1, i2, i3⟩ := hj'.acks hlj a ha hne
        exact ⟨i, i1, i2, hgo.ack (g := g) i3⟩
  · have := h.told v h1 h2
    show v ≤ (upd r k x (g.who v)).view
    simp only [upd]; split
    · rename_i e; rw [e] at this; exact Int.le_trans this hgo.view
    · exact this
  · rcases List.mem_append.1 hz with hz | hz
    · have hw := h.netk z hz
      refine ⟨fun e => ?_, fun e => ?_, hw.past⟩
      · obtain ⟨s1, s2, s3, s4, s5, s6, s7⟩ := hw.ship e
        exact ⟨s1, s2, s3, Int.le_trans s4 (htp _), by rw [hτ s4]; exact s5, s6, s7⟩
      · obtain ⟨j, j1, j2, j3⟩ := hw.ack e
        exact ⟨j, j1, j2, hgo.ack (g := g) j3⟩
    · rw [← hl'] at hz
      obtain ⟨z1, z2, z3, z4, z5, z6⟩ := ships_of hz
      refine ⟨fun _ => ?_, fun e => by omega, fun e => by omega⟩
      rw [z3, z4, z5, z6, z2, y2, y4, y3, y6, y1, htn, hτn]
      refine ⟨hr.view.1, hr.view.2, by have := hr.n.1; show g.n0 _ ≤ _; omega, Int.le_refl _, rfl, w2, ?_⟩
      show (r k).id = idOf (g.who (r k).view)
      rw [w1]; exact hr.id
  · have hw := h.fxk z hz
    obtain ⟨b, b1, b2, b3, b4, b5⟩ := hw.b
    refine ⟨hw.at_, ⟨b, b1, Int.le_trans b2 (htp _), by rw [hτ b2]; exact b3, b4, hgo.evd (g := g) b5⟩, fun j hj hlj hv => ?_⟩
    by_cases e : j = k
    · subst e
      rw [upd_k] at hlj hv ⊢
      have := hw.now j hj hl (by rw [← hv, e2, y2])
      rw [← hx]
      unfold fixR
      split
      · show z.text <+: y.text
        rw [y6]; exact this.trans (List.prefix_append _ _)
      · rw [y5]; exact this
    · have eu : upd r k x j = r j := by simp [upd, e]
      rw [eu] at hlj hv ⊢
      exact hw.now j hj hlj hv
def Gh.tell (g : Gh) (k : Nat) (l : List Int) (n : Int) (t : List UInt8) : Gh :=
  ⟨g.V + 1, upd' g.who (g.V + 1) k, upd' g.mem (g.V + 1) l, upd' g.n0 (g.V + 1) n, upd' g.top (g.V + 1) n, fun v m => if v = g.V + 1 then t else g.τ v m⟩
where upd' {α : Type} (f : Int → α) (v : Int) (x : α) : Int → α := fun i => if i = v then x else f i
theorem tell_old {k : Nat} {l : List Int} {n : Int} {t : List UInt8} {v : Int} (h : v ≤ g.V) : (g.tell k l n t).who v = g.who v ∧ (g.tell k l n t).mem v = g.mem v ∧ (g.tell k l n t).n0 v = g.n0 v ∧
    (g.tell k l n t).top v = g.top v ∧ ∀ m, (g.tell k l n t).τ v m = g.τ v m := by
  have : v ≠ g.V + 1 := by omega
  simp [Gh.tell, Gh.tell.upd', this]
theorem tell_new {k : Nat} {l : List Int} {n : Int} {t : List UInt8} : (g.tell k l n t).who (g.V + 1) = k ∧ (g.tell k l n t).mem (g.V + 1) = l ∧ (g.tell k l n t).n0 (g.V + 1) = n ∧
    (g.tell k l n t).top (g.V + 1) = n ∧ (∀ m, (g.tell k l n t).τ (g.V + 1) m = t) ∧ (g.tell k l n t).V = g.V + 1 := by
  simp [Gh.tell, Gh.tell.upd']
theorem Inv1.lead (h : Inv1 g r net views fx) {k : Nat} (hk : k < 3) {l : List Int} (hl3 : ∀ m ∈ l, 1 ≤ m ∧ m ≤ 3) {view : Int} {x : Rep} {ws : List Word}
    (hp : leadR (r k) view l = (x, ws, 0)) (hnew : ∀ t ∈ views, t.view ≠ view) (hv : view = (r k).view + 1) :
    ∃ g', Inv1 g' (upd r k x) (net ++ ws) (views ++ [⟨view, k, l⟩]) fx ∧ g'.V = view ∧ g'.who view = k := by
  have hr := h.rk k hk
  have hview := hr.view
  unfold leadR at hp
  split at hp
  rotate_left
  · simp at hp
  rename_i hgood
  obtain ⟨-, q1, q2, q3, q4⟩ := hgood
  rw [if_neg (fun e => by omega)] at hp
  split at hp
  · simp at hp
  rename_i hmm
  split at hp
  · simp at hp
  rename_i hmax
  simp only [Prod.mk.injEq, and_true] at hp
  obtain ⟨rfl, rfl⟩ := hp
  have hmne : (r k).members ≠ [] := fun e => hmm (.inr e)
  have hV : (r k).view = g.V := by
    rcases Int.lt_or_le (r k).view g.V with h' | h'
    · obtain ⟨t, t1, t2⟩ := h.all ((r k).view + 1) (by omega) (by omega)
      exact absurd (t2.trans hv.symm) (hnew t t1)
    · omega
  have hview' : view = g.V + 1 := by omega
  subst hview'
  obtain ⟨hm1, hm2⟩ : (r k).members = g.mem (r k).view ∧ idOf k ∈ g.mem (r k).view := hr.mem.resolve_left hmne
  rw [hV] at hm1 hm2
  obtain ⟨n1, n2, n3, n4, n5, n6⟩ := tell_new (g := g) (k := k) (l := l) (n := (r k).n + 1) (t := (r k).text)
  have old := fun {v : Int} (hv : v ≤ g.V) => tell_old (g := g) (k := k) (l := l) (n := (r k).n + 1) (t := (r k).text) hv
  generalize hg' : g.tell k l ((r k).n + 1) (r k).text = g' at n1 n2 n3 n4 n5 n6 old
  have hgo : Goes r k (leadNew (r k) (g.V + 1) l) := ⟨by show (r k).view ≤ g.V + 1; omega, fun e => by have : g.V + 1 = (r k).view := e; omega⟩
  have hrn := hr.n
  rw [hV] at hrn
  have hack : ∀ {j : Nat} {v n : Int}, v ≤ g.V → AckOK g r j v n → AckOK g' (upd r k (leadNew (r k) (g.V + 1) l)) j v n := fun {j v n} hvv ha => by
    obtain ⟨a1, a2, a3⟩ := hgo.ack ha
    refine ⟨a1, a2, fun h1 h2 => ?_⟩
    by_cases hvV : v = g.V
    · subst hvV
      rw [n1] at h2
      subst h2
      rw [n3]
      have := ha.2.1 hV
      omega
    · obtain ⟨o1, o2, o3, o4, o5⟩ := old (v := v + 1) (by omega)
      rw [o3]
      rw [o1] at h2
      exact a3 (by omega) h2
  have hevd : ∀ {v b : Int}, v ≤ g.V → Evd g r v b → Evd g' (upd r k (leadNew (r k) (g.V + 1) l)) v b := fun {v b} hvv ha => by
    obtain ⟨o1, o2, o3, o4, o5⟩ := old hvv
    rcases hgo.evd ha with h' | h'
    · exact .inl (by rw [o3]; exact h')
    · exact .inr (by rw [o2]; exact h')
  -- what counts avs fixed in the view that ends is in the next one
  have hin : ∀ {b : Int}, g.n0 g.V ≤ b → Evd g r g.V b → b ≤ (r k).n := fun hb he => by
    rcases he with he | he
    · rw [he]; exact hrn.1
    · exact (he k hk hm2).2 hV
  have hnext : ∀ {v b : Int}, v ≤ g.V → g.n0 v ≤ b → (v + 1 ≤ g.V → b ≤ g.n0 (v + 1) - 1) → Evd g r v b → (v + 1 ≤ g'.V → b ≤ g'.n0 (v + 1) - 1) := fun {v b} hvv hb h1 he h2 => by
    by_cases hvV : v = g.V
    · subst hvV
      rw [n3]
      have := hin hb he
      omega
    · obtain ⟨o1, o2, o3, o4, o5⟩ := old (v := v + 1) (by omega)
      rw [o3]; exact h1 (by omega)
  have hgk : GOK g' := by
    refine ⟨by rw [n6]; have := h.gk.V1; omega, fun v h1 h2 => ?_, fun v h1 h2 => ?_, fun v h1 h2 => ?_, fun v h1 h2 n m a1 a2 a3 => ?_, fun v h1 h2 => ?_⟩
    · by_cases e : v = g.V + 1
      · subst e; rw [n1]; exact hk
      · rw [(old (by omega)).1]; exact h.gk.who v h1 (by omega)
    · by_cases e : v = g.V + 1
      · subst e; rw [n1, n2]; exact ⟨q1, hl3, by rw [q2, hr.id]⟩
      · obtain ⟨o1, o2, -⟩ := old (v := v) (by omega)
        rw [o1, o2]; exact h.gk.set v h1 (by omega)
    · by_cases e : v = g.V + 1
      · subst e
        rw [n3, n4]
        have := (h.gk.n0 g.V h.gk.V1 (Int.le_refl _)).1
        exact ⟨by omega, Int.le_refl _⟩
      · obtain ⟨o1, o2, o3, o4, -⟩ := old (v := v) (by omega)
        rw [o3, o4]; exact h.gk.n0 v h1 (by omega)
    · by_cases e : v = g.V + 1
      · subst e; rw [n5, n5]; exact List.prefix_refl _
      · obtain ⟨o1, o2, o3, o4, o5⟩ := old (v := v) (by omega)
        rw [o3] at a1
        rw [o4] at a3
        rw [o5, o5]; exact h.gk.chain v h1 (by omega) n m a1 a2 a3
    · by_cases e : v = g.V
      · subst e
        obtain ⟨o1, o2, o3, o4, o5⟩ := old (v := g.V) (Int.le_refl _)
        rw [n1, n3, n5, o2, o3, o4, o5]
        refine ⟨hm2, by omega, by omega, ?_⟩
        rw [Int.add_sub_cancel, ← hV]; exact hr.text
      · obtain ⟨o1, o2, o3, o4, o5⟩ := old (v := v) (by omega)
        obtain ⟨p1, p2, p3, p4, p5⟩ := old (v := v + 1) (by omega)
        rw [p1, p3, p5, o2, o3, o4, o5]
        exact h.gk.next v h1 (by omega)
  have hlx : leadsR (leadNew (r k) (g.V + 1) l) = true := (leads_iff _).2 q2
  refine ⟨g', ⟨hgk, fun j hj => ?_, fun v h1 h2 => ?_, fun z hz => ?_, fun t ht => ?_, fun v h1 h2 => ?_, fun z hz => ?_⟩, n6, n1⟩
  · by_cases e : j = k
    · subst e
      have hpx : RP (leadNew (r j) (g.V + 1) l) := by
        refine ⟨hr.right.id, ⟨by show 0 ≤ g.V + 1; omega, by show g.V + 1 ≤ _; omega⟩, ⟨by show 0 ≤ (r j).n + 1; have := hr.right.n; omega, by show (r j).n + 1 ≤ _; have := hr.right.n; omega⟩, q1, ⟨by simp [leadNew], fun m hm => ?_, by simp [leadNew]⟩, fun a ha => ?_, fun _ => ?_, fun _ => ⟨by simp [leadNew], fun _ => rfl⟩, fun hn => by rw [hlx] at hn; cases hn⟩
        · have : m = (r j).id := by simpa [leadNew] using hm
          subst this; exact hr.right.id
        · have : a = (r j).id := by simpa [leadNew] using ha
          subst this
          exact List.mem_of_mem_head? q2
        · exact List.mem_of_mem_head? q2
      refine ⟨by rw [upd_k]; exact hr.id, by rw [upd_k]; exact hpx, by rw [upd_k, n6]; exact ⟨by show 1 ≤ g.V + 1; omega, Int.le_refl _⟩, ?_, ?_, ?_, ?_, ?_, ?_⟩
      · rw [upd_k]; show g'.n0 (g.V + 1) ≤ (r j).n + 1 ∧ (r j).n + 1 ≤ g'.top (g.V + 1); rw [n3, n4]; exact ⟨Int.le_refl _, Int.le_refl _⟩
      · rw [upd_k]; show (r j).text = g'.τ (g.V + 1) ((r j).n + 1); rw [n5]
      · rw [upd_k]; right
        show l = g'.mem (g.V + 1) ∧ idOf j ∈ g'.mem (g.V + 1)
        rw [n2]; exact ⟨rfl, by rw [← hr.id]; exact List.mem_of_mem_head? q2⟩
      · rw [upd_k]; intro _; show (r j).n + 1 = g'.top (g.V + 1); rw [n4]
      · rw [upd_k]; intro _
        refine ⟨(r j).n + 1, ?_, Int.le_refl _, ?_, fun hv => ?_, .inl ?_⟩
        · show g'.n0 (g.V + 1) ≤ _; rw [n3]; exact Int.le_refl _
        · show (r j).text = g'.τ (g.V + 1) _; rw [n5]
        · exfalso; have : g.V + 1 + 1 ≤ g'.V := hv; omega
        · show _ = g'.n0 (g.V + 1); rw [n3]
      · rw [upd_k]; intro _ a ha hne
        have : a = (r j).id := by simpa [leadNew] using ha
        exact absurd this hne
    · have hj' := h.rk j hj
      have eu : upd r k (leadNew (r k) (g.V + 1) l) j = r j := by simp [upd, e]
      obtain ⟨o1, o2, o3, o4, o5⟩ := old hj'.view.2
      refine ⟨by rw [eu]; exact hj'.id, by rw [eu]; exact hj'.right, by rw [eu, n6]; have := hj'.view; omega, by rw [eu, o3, o4]; exact hj'.n, by rw [eu, o5]; exact hj'.text, by rw [eu, o2]; exact hj'.mem, by rw [eu, o4]; exact hj'.top, ?_, ?_⟩
      · rw [eu]; intro hlj
        obtain ⟨b, b1, b2, b3, b4, b5⟩ := hj'.base hlj
        exact ⟨b, by rw [o3]; exact b1, b2, by rw [o5]; exact b3, hnext hj'.view.2 b1 b4 b5, hevd hj'.view.2 b5⟩
      · rw [eu]; intro hlj a ha hne
        obtain ⟨i, i1, i2, i3⟩ := hj'.acks hlj a ha hne
        exact ⟨i, i1, i2, hack hj'.view.2 i3⟩
  · by_cases e : v = g.V + 1
    · subst e
      rw [n1, upd_k]; exact Int.le_refl _
    · have := h.told v h1 (by omega)
      rw [(old (by omega)).1]
      simp only [upd]; split
      · rename_i e'; rw [e'] at this; exact Int.le_trans this hgo.view
      · exact this
  · rcases List.mem_append.1 hz with hz | hz
    · have hw := h.netk z hz
      refine ⟨fun e => ?_, fun e => ?_, fun e => by rw [n6]; have := hw.past e; omega⟩
      · obtain ⟨s1, s2, s3, s4, s5, s6, s7⟩ := hw.ship e
        obtain ⟨o1, o2, o3, o4, o5⟩ := old s2
        exact ⟨s1, by omega, by rw [o3]; exact s3, by rw [o4]; exact s4, by rw [o5]; exact s5, by rw [o2]; exact s6, by rw [o1]; exact s7⟩
      · obtain ⟨j, j1, j2, j3⟩ := hw.ack e
        exact ⟨j, j1, j2, hack (Int.le_trans j3.1 (h.rk j j1).view.2) j3⟩
    · obtain ⟨z1, z2, z3, z4, z5, z6⟩ := ships_of hz
      refine ⟨fun _ => ?_, fun e => by omega, fun e => by omega⟩
      have e3 : z.view = g.V + 1 := z3
      have e4 : z.n = (r k).n + 1 := z4
      have e5 : z.members = l := z5
      have e6 : z.text = (r k).text := z6
      have e2 : z.frm = (r k).id := z2
      rw [e3, e4, e5, e6, e2, n1, n2, n3, n4, n5, n6]
      have := h.gk.V1
      exact ⟨by omega, Int.le_refl _, Int.le_refl _, Int.le_refl _, rfl, rfl, hr.id⟩
  · rcases List.mem_append.1 ht with ht | ht
    · obtain ⟨t1, t2, t3⟩ := h.viewk t ht
      exact ⟨t1, by omega, by rw [(old t2).1]; exact t3⟩
    · have : t = ⟨g.V + 1, k, l⟩ := by simpa using ht
      subst this
      have := h.gk.V1
      exact ⟨by show 2 ≤ g.V + 1; omega, by show g.V + 1 ≤ _; omega, by show (k : Int) = _; rw [n1]⟩
  · by_cases e : v = g.V + 1
    · exact ⟨_, List.mem_append.2 (.inr (List.mem_singleton.2 rfl)), e.symm⟩
    · obtain ⟨t, t1, t2⟩ := h.all v h1 (by omega)
      exact ⟨t, List.mem_append.2 (.inl t1), t2⟩
  · have hw := h.fxk z hz
    obtain ⟨b, b1, b2, b3, b4, b5⟩ := hw.b
    obtain ⟨o1, o2, o3, o4, o5⟩ := old hw.at_.2
    refine ⟨by rw [n6]; have := hw.at_; omega, ⟨b, by rw [o3]; exact b1, by rw [o4]; exact b2, by rw [o5]; exact b3, hnext hw.at_.2 b1 b4 b5, hevd hw.at_.2 b5⟩, fun j hj hlj hv => ?_⟩
    by_cases e : j = k
    · subst e
      rw [upd_k] at hv
      have : g.V + 1 = z.at_ := hv
      have := hw.at_
      omega
    · have eu : upd r k (leadNew (r k) (g.V + 1) l) j = r j := by simp [upd, e]
      rw [eu] at hlj hv ⊢
      exact hw.now j hj hlj hv
def r0 (k : Nat) : Rep := ⟨idOf k, 1, [1, 2, 3], 1, [], [], if k = 0 then [1, 2, 3] else []⟩
theorem Inv1.init : Inv1 ⟨1, fun _ => 0, fun _ => [1, 2, 3], fun _ => 1, fun _ => 1, fun _ _ => []⟩ r0 [] [] [] := by
  have hs : SetP [1, 2, 3] := by decide
  refine ⟨⟨Int.le_refl _, fun v _ _ => (by show (0 : Nat) < 3; decide), fun v _ _ => ⟨hs, (by show ∀ m ∈ ([1, 2, 3] : List Int), 1 ≤ m ∧ m ≤ 3; decide), rfl⟩, fun v _ _ => ⟨Int.le_refl _, Int.le_refl _⟩, fun v _ _ n m _ _ _ => List.prefix_refl _, fun v h1 h2 => by simp only at h2; omega⟩,
    fun k hk => ?_, fun v h1 h2 => h2, fun x hx => by simp at hx, fun t ht => by simp at ht, fun v h1 h2 => by simp only at h2; omega, fun x hx => by simp at hx⟩
  have hk' : k = 0 ∨ k = 1 ∨ k = 2 := by omega
  have hrp : RP (r0 k) := (right_iff _).1 (by rcases hk' with rfl | rfl | rfl <;> decide)
  refine ⟨rfl, hrp, ⟨Int.le_refl _, Int.le_refl _⟩, ⟨Int.le_refl _, Int.le_refl _⟩, rfl, .inr ⟨rfl, by rcases hk' with rfl | rfl | rfl <;> decide⟩, fun _ => rfl, fun _ => ⟨1, Int.le_refl _, Int.le_refl _, rfl, fun hv => ?_, .inl rfl⟩, fun hl a ha hne => ?_⟩
  · have : (1 : Int) + 1 ≤ 1 := hv
    omega
  · have hk0 : k = 0 := by rcases hk' with rfl | rfl | rfl <;> first | rfl | (revert hl; decide)
    subst hk0
    have : a = 1 ∨ a = 2 ∨ a = 3 := by simpa [r0] using ha
    have hid : (r0 0).id = 1 := rfl
    rcases this with rfl | rfl | rfl
    · exact absurd rfl hne
    · exact ⟨1, by omega, rfl, Int.le_refl _, fun _ => Int.le_refl _, fun hv => by have : (1 : Int) + 1 ≤ 1 := hv; omega⟩
    · exact ⟨2, by omega, rfl, Int.le_refl _, fun _ => Int.le_refl _, fun hv => by have : (1 : Int) + 1 ≤ 1 := hv; omega⟩
end
end Sg
namespace Sg
set_option linter.unusedSimpArgs false
set_option linter.unusedVariables false
structure Thr where
  r : Nat → Rep
  net : List Word
  views : List Told
  fx : List Fixd
  count : Int
def sayN (net l : List Word) : List Word := l.foldl (fun n x => if n.length < 200 then n ++ [x] else n) net
theorem sayN_mem : ∀ {l net : List Word} {x : Word}, x ∈ sayN net l → x ∈ net ∨ x ∈ l
  | [], net, x, h => .inl h
  | y :: l, net, x, h => by
    have h' : x ∈ sayN (if net.length < 200 then net ++ [y] else net) l := h
    rcases sayN_mem h' with h1 | h1
    · split at h1
      · rcases List.mem_append.1 h1 with h1 | h1
        · exact .inl h1
        · exact .inr (by simp at h1; simp [h1])
      · exact .inl h1
    · exact .inr (by simp [h1])
theorem sayN_len : ∀ {l net : List Word}, net.length ≤ 200 → (sayN net l).length ≤ 200
  | [], net, h => h
  | y :: l, net, h => by
    show (sayN (if net.length < 200 then net ++ [y] else net) l).length ≤ 200
    refine sayN_len ?_
    split
    · simp only [List.length_append, List.length_singleton]; omega
    · exact h
theorem sayN_all : ∀ {l net : List Word}, net.length + l.length ≤ 200 → sayN net l = net ++ l
  | [], net, _ => by simp [sayN]
  | y :: l, net, h => by
    have h' : net.length < 200 := by simp at h; omega
    show sayN (if net.length < 200 then net ++ [y] else net) l = _
    rw [if_pos h', sayN_all (by simp at h ⊢; omega)]
    simp
def offN (net : List Word) (i : Nat) : List Word := net.take i ++ net.drop (i + 1)
theorem offN_mem {net : List Word} {i : Nat} {x : Word} (h : x ∈ offN net i) : x ∈ net := by
  rcases List.mem_append.1 h with h | h
  · exact List.mem_of_mem_take h
  · exact List.mem_of_mem_drop h
def hearT (t : Thr) (x : Word) : Thr :=
  if x.to < 1 ∨ 3 < x.to then t else
    { t with r := upd t.r (x.to - 1).toNat (hearR (t.r (x.to - 1).toNat) x).1, net := sayN t.net (hearR (t.r (x.to - 1).toNat) x).2 }
def letter (n : Int) : UInt8 := UInt8.ofNat ((Go.IntKind.u8.wrap (97 + n.tmod 26)).toNat)
def propT (t : Thr) (k : Nat) : Thr :=
  if (proposeR (t.r k) ((t.r k).base ++ [letter (t.count + 1)])).2.2 = 0 then
    { t with count := t.count + 1, r := upd t.r k (proposeR (t.r k) ((t.r k).base ++ [letter (t.count + 1)])).1, net := sayN t.net (proposeR (t.r k) ((t.r k).base ++ [letter (t.count + 1)])).2.1 }
  else { t with count := t.count + 1 }
def bitB (bits m : Int) : Bool := match intBin .and .i64 (bits.fdiv (2 ^ (min m.toNat 64))) 1 with
  | some (.int _ x) => decide (x = 1)
  | _ => false
def bitF (k : Nat) (bits m : Int) : Bool := !decide (m = idOf k) && bitB bits m
def bitsM (k : Nat) (bits : Int) : List Int := idOf k :: ([1, 2, 3].filter (bitF k bits))
def tellT (views : List Told) (t : Told) : Option Told :=
  match views with
  | [] => some t
  | v :: vs => if v.view = t.view ∧ v.who ≠ t.who then none else tellT vs (if v.view = t.view then ⟨v.view, t.who, v.members⟩ else t)
def leadT (t : Thr) (k : Nat) (bits : Int) : Thr :=
  match tellT t.views ⟨(t.r k).view + 1, k, bitsM k bits⟩ with
  | none => t
  | some v => if (leadR (t.r k) v.view v.members).2.2 = 0 then
      { t with views := t.views ++ [v], r := upd t.r k (leadR (t.r k) v.view v.members).1, net := sayN t.net (leadR (t.r k) v.view v.members).2.1 } else t
structure Act14 where
  kind : Int
  who : Int
  n : Int
def u64 (n : Int) : Int := Go.IntKind.u64.wrap n
def actT (t : Thr) (a : Act14) : Thr :=
  let k := ((u64 a.who).tmod 3).toNat
  let n := (u64 a.kind).tmod 12
  if n < 3 then propT t k
  else if n = 10 then { t with net := sayN t.net (if busyR (t.r k) then shipsR (t.r k) else []) }
  else if n = 11 then leadT t k ((u64 a.n).tmod 16)
  else match t.net with
    | [] => t
    | _ => let i := ((u64 a.n).tmod t.net.length).toNat
      if n = 8 then { t with net := offN t.net i }
      else if n = 9 then (match t.net[i]? with | some x => hearT t x | none => t)
      else (match t.net[i]? with | some x => hearT { t with net := offN t.net i } x | none => t)
abbrev IT (g : Gh) (t : Thr) : Prop := Inv1 g t.r t.net t.views t.fx
def LastT (g : Gh) (t : Thr) : Prop := leadsR (t.r (g.who g.V)) = true ∧ (t.r (g.who g.V)).view = g.V
section
variable {g : Gh} {t : Thr}
theorem hear_last {r : Nat → Rep} {k : Nat} {x : Word} (hk : k < 3) (hr : ROK g r k) (hx : WOK g r x) (hl : leadsR (r k) = true) (hv : (r k).view = g.V) :
    leadsR (hearR (r k) x).1 = true ∧ (hearR (r k) x).1.view = g.V := by
  unfold hearR
  split
  rotate_left
  · exact ⟨hl, hv⟩
  split
  rotate_left
  · exact ⟨hl, hv⟩
  split
  · rename_i h1
    unfold shipR
    split
    · exact ⟨hl, hv⟩
    split
    rotate_left
    · exact ⟨hl, hv⟩
    split
    rotate_left
    · exact ⟨hl, hv⟩
    split
    rotate_left
    · exact ⟨hl, hv⟩
    unfold shipT
    split
    · exact ⟨hl, hv⟩
    rename_i c1
    have h2 := (hx.ship h1).2.1
    rw [if_pos ⟨by omega, .inl hl⟩]
    exact ⟨hl, hv⟩
  split
  · split
    · obtain ⟨e1, e2, e3, e4, e5, e6⟩ := fix_fields (ackR (r k) x)
      exact ⟨by rw [leads_fix]; exact hl, by rw [e2]; exact hv⟩
    · exact ⟨hl, hv⟩
  split
  · rename_i h3
    split
    · have := hx.past h3; omega
    · exact ⟨hl, hv⟩
  · exact ⟨hl, hv⟩
theorem IT.hear (h : IT g t) {x : Word} (hx : WOK g t.r x) : IT g (hearT t x) ∧ (LastT g t → LastT g (hearT t x)) := by
  unfold hearT
  split
  · exact ⟨h, fun hl => hl⟩
  rename_i hn
  have hk : (x.to - 1).toNat < 3 := by omega
  have h1 := Inv1.hear h hk hx
  refine ⟨h1.say fun y hy => h1.netk y (List.mem_append.2 (sayN_mem hy)), fun hl => ?_⟩
  by_cases e : g.who g.V = (x.to - 1).toNat
  · obtain ⟨l1, l2⟩ := hl
    rw [e] at l1 l2
    have := hear_last hk (h.rk _ hk) hx l1 l2
    simp only [LastT, e, upd_k]
    exact this
  · simp only [LastT, upd, if_neg e]; exact hl
theorem IT.off (h : IT g t) (i : Nat) : IT g { t with net := offN t.net i } := Inv1.say h fun y hy => h.netk y (offN_mem hy)
theorem IT.prop (h : IT g t) {k : Nat} (hk : k < 3) : ∃ g', IT g' (propT t k) ∧ (LastT g t → LastT g' (propT t k)) := by
  unfold propT
  split
  · rename_i he
    generalize hp : proposeR (t.r k) ((t.r k).base ++ [letter (t.count + 1)]) = q at he ⊢
    obtain ⟨x, l, e⟩ := q
    simp only at he
    subst he
    obtain ⟨g', h1, h2, h3⟩ := Inv1.propose h hk hp
    refine ⟨g', h1.say fun y hy => h1.netk y (List.mem_append.2 (sayN_mem hy)), fun hl => ?_⟩
    simp only [LastT, h2, h3]
    by_cases e : g.who g.V = k
    · rw [e, upd_k]
      obtain ⟨l1, l2⟩ := hl
      rw [e] at l1 l2
      unfold proposeR at hp
      rw [if_pos ((right_iff _).2 (h.rk k hk).right), if_pos l1] at hp
      split at hp <;> try (simp at hp; done)
      split at hp <;> try (simp at hp; done)
      simp only [Prod.mk.injEq, and_true] at hp
      obtain ⟨rfl, -⟩ := hp
      obtain ⟨e1, e2, e3, e4, e5, e6⟩ := fix_fields ⟨(t.r k).id, (t.r k).view, (t.r k).members, (t.r k).n + 1, (t.r k).base, (t.r k).base ++ [letter (t.count + 1)], [(t.r k).id]⟩
      exact ⟨by rw [leads_fix]; exact l1, by rw [e2]; exact l2⟩
    · simp only [upd, if_neg e]; exact hl
  · exact ⟨g, h, fun hl => hl⟩
theorem bits_mem {k : Nat} {bits m : Int} (hk : k < 3) (h : m ∈ bitsM k bits) : 1 ≤ m ∧ m ≤ 3 := by
  unfold bitsM at h
  rcases List.mem_cons.1 h with rfl | h
  · unfold idOf; omega
  · have := (List.mem_filter.1 h).1
    simp at this; omega
theorem tell_none : ∀ {views : List Told} {t v : Told}, tellT views t = some v → (∀ u ∈ views, u.view = t.view → u.who ≠ t.who) → v = t ∧ ∀ u ∈ views, u.view ≠ t.view
  | [], t, v, h, _ => by simp only [tellT, Option.some.injEq] at h; exact ⟨h.symm, fun u hu => by simp at hu⟩
  | u :: us, t, v, h, hn => by
    simp only [tellT] at h
    split at h
    · simp at h
    rename_i hc
    have hne : u.view ≠ t.view := fun e => hc ⟨e, hn u (by simp) e⟩
    rw [if_neg hne] at h
    obtain ⟨h1, h2⟩ := tell_none h (fun w hw => hn w (by simp [hw]))
    exact ⟨h1, fun w hw => by
      rcases List.mem_cons.1 hw with rfl | hw
      · exact hne
      · exact h2 w hw⟩
theorem IT.lead (h : IT g t) {k : Nat} (hk : k < 3) (bits : Int) : ∃ g', IT g' (leadT t k bits) ∧ (LastT g t → LastT g' (leadT t k bits)) := by
  unfold leadT
  split
  · exact ⟨g, h, fun hl => hl⟩
  rename_i v hv
  obtain ⟨rfl, hnew⟩ := tell_none hv (fun u hu e e' => by
    obtain ⟨a1, a2, a3⟩ := h.viewk u hu
    simp only at e e'
    have : g.who u.view = k := by omega
    have h2 := h.told u.view (by omega) a2
    rw [this, e] at h2
    omega)
  simp only
  split
  · rename_i he
    generalize hp : leadR (t.r k) ((t.r k).view + 1) (bitsM k bits) = q at he ⊢
    obtain ⟨x, l, e⟩ := q
    simp only at he
    subst he
    obtain ⟨g', h1, h2, h3⟩ := Inv1.lead h hk (fun m hm => bits_mem hk hm) hp hnew rfl
    refine ⟨g', h1.say fun y hy => h1.netk y (List.mem_append.2 (sayN_mem hy)), fun _ => ?_⟩
    simp only [LastT, h2, h3, upd_k]
    unfold leadR at hp
    split at hp <;> try (simp at hp; done)
    rename_i hgood
    obtain ⟨-, -, q2, -, -⟩ := hgood
    rw [if_neg (fun e => by omega)] at hp
    split at hp <;> try (simp at hp; done)
    split at hp <;> try (simp at hp; done)
    simp only [Prod.mk.injEq, and_true] at hp
    obtain ⟨rfl, -⟩ := hp
    exact ⟨(leads_iff _).2 q2, rfl⟩
  · exact ⟨g, h, fun hl => hl⟩
theorem ships_ok (h : IT g t) {k : Nat} (hk : k < 3) (hl : leadsR (t.r k) = true) {x : Word} (hx : x ∈ shipsR (t.r k)) : WOK g t.r x := by
  obtain ⟨z1, z2, z3, z4, z5, z6⟩ := ships_of hx
  have hr := h.rk k hk
  obtain ⟨w1, w2⟩ := hr.who h.gk hl
  refine ⟨fun _ => ?_, fun e => by omega, fun e => by omega⟩
  rw [z3, z4, z5, z6, z2, w1]
  exact ⟨hr.view.1, hr.view.2, hr.n.1, hr.n.2, hr.text, w2, hr.id⟩
theorem who_lt (n : Int) : ((u64 n).tmod 3).toNat < 3 := by
  have h1 : 0 ≤ u64 n := by unfold u64; simp [Go.IntKind.wrap, Go.IntKind.bits, Go.IntKind.signed]; omega
  have := Int.tmod_lt_of_pos (u64 n) (b := 3) (by omega)
  have := Int.tmod_nonneg (b := 3) h1
  omega
theorem IT.act (h : IT g t) (a : Act14) : ∃ g', IT g' (actT t a) ∧ (LastT g t → LastT g' (actT t a)) := by
  have hk := who_lt a.who
  unfold actT
  generalize ((u64 a.who).tmod 3).toNat = k at hk
  simp only
  split
  · exact h.prop hk
  split
  · refine ⟨g, Inv1.say h fun y hy => ?_, fun hl => hl⟩
    rcases sayN_mem hy with hy | hy
    · exact h.netk y hy
    · split at hy
      · rename_i hb
        have : leadsR (t.r k) = true := by
          unfold busyR at hb
          simp only [Bool.and_eq_true] at hb
          exact hb.2.1
        exact ships_ok h hk this hy
      · simp at hy
  split
  · exact h.lead hk _
  split
  · exact ⟨g, h, fun hl => hl⟩
  split
  · exact ⟨g, h.off _, fun hl => hl⟩
  split
  · split
    · rename_i x hx; exact ⟨g, h.hear (h.netk x (List.mem_of_getElem? hx))⟩
    · exact ⟨g, h, fun hl => hl⟩
  · split
    · rename_i x hx; exact ⟨g, IT.hear (h.off _) (h.netk x (List.mem_of_getElem? hx))⟩
    · exact ⟨g, h, fun hl => hl⟩
end
end Sg
namespace Sg
set_option linter.unusedSimpArgs false
set_option linter.unusedVariables false
def msr : List Word → Nat
  | [] => 0
  | x :: l => (if x.kind = 1 then 2 else 1) + msr l
theorem msr_append (l m : List Word) : msr (l ++ m) = msr l + msr m := by
  induction l with
  | nil => simp [msr]
  | cons x l ih => simp only [List.cons_append, msr, ih]; omega
structure LI (g : Gh) (t : Thr) (N : Int) (T : List UInt8) : Prop where
  it : IT g t
  last : LastT g t
  n : (t.r (g.who g.V)).n = N
  text : (t.r (g.who g.V)).text = T
  net : ∀ x ∈ t.net, (x.kind = 1 ∧ x.frm = idOf (g.who g.V) ∧ x.view = g.V ∧ x.n = N ∧ x.members = g.mem g.V ∧ x.text = T ∧ x.to ∈ g.mem g.V ∧ x.to ≠ idOf (g.who g.V)) ∨
    (x.kind = 2 ∧ x.to = idOf (g.who g.V) ∧ x.view = g.V ∧ x.n = N ∧ x.frm ∈ g.mem g.V)
  mem : ∀ m ∈ g.mem g.V, m ∈ (t.r (g.who g.V)).acks ∨ ∃ x ∈ t.net, x.kind = 1 ∧ x.to = m ∨ x.kind = 2 ∧ x.frm = m
  len : t.net.length ≤ 8
section
variable {g : Gh} {t : Thr} {N : Int} {T : List UInt8}
theorem LI.ship (h : LI g t N T) {x : Word} {rest : List Word} (hn : t.net = x :: rest) (h1 : x.kind = 1) :
    LI g (hearT { t with net := rest } x) N T ∧ msr (hearT { t with net := rest } x).net + 1 ≤ msr t.net := by
  have hV1 := h.it.gk.V1
  have hw := h.it.gk.who g.V hV1 (Int.le_refl _)
  have hx := (h.net x (by rw [hn]; simp)).resolve_right (fun e => by omega)
  obtain ⟨-, x2, x3, x4, x5, x6, x7, x8⟩ := hx
  obtain ⟨hset, hm3, hhead⟩ := h.it.gk.set g.V hV1 (Int.le_refl _)
  have hto := hm3 _ x7
  have hto' : ¬ (x.to < 1 ∨ 3 < x.to) := by omega
  have hk : (x.to - 1).toNat < 3 := by omega
  have hid : idOf (x.to - 1).toNat = x.to := by unfold idOf; omega
  generalize hkk : (x.to - 1).toNat = k at hk hid
  have hr := h.it.rk k hk
  have htop := h.it.rk _ hw
  have hne : k ≠ g.who g.V := fun e => x8 (by rw [← hid, e])
  have htopn := htop.top h.last.1
  rw [h.last.2, h.n] at htopn
  have hnn : 1 ≤ N ∧ N ≤ 1099511627776 := by
    have a1 := htop.right.n; have a2 := htop.n.1; have a3 := (h.it.gk.n0 g.V hV1 (Int.le_refl _)).1
    rw [h.last.2] at a2
    rw [h.n] at a1 a2
    omega
  have hvv : g.V ≤ 1099511627776 := by have := htop.right.view.2; rw [h.last.2] at this; exact this
  -- what it hears
  have key : ∃ y, hearR (t.r k) x = (y, [⟨2, idOf k, idOf (g.who g.V), g.V, N, [], []⟩]) := by
    unfold hearR
    rw [if_pos ((right_iff _).2 hr.right), if_pos (by rw [hr.id, hid]), if_pos h1]
    unfold shipR
    have c1 : decide (x.frm = (t.r k).id) = false := decide_eq_false (by rw [x2, hr.id]; exact fun e => hne (idOf_inj e).symm)
    have c2 : membR x.members (t.r k).id x.frm = true := by
      simp only [membR, Bool.and_eq_true, decide_eq_true_eq]
      rw [x5, x2, hr.id]
      exact ⟨hset, by rw [hid]; exact x7, hhead⟩
    have c3 : numG x.view 1 = true := by simp only [numG, Bool.and_eq_true, decide_eq_true_eq]; omega
    have c4 : numG x.n 1 = true := by simp only [numG, Bool.and_eq_true, decide_eq_true_eq]; omega
    rw [c1, c2, c3, c4]
    simp only [Bool.false_eq_true, if_false, if_true]
    unfold shipT
    have hv := hr.view
    rw [if_neg (by omega)]
    have hn2 : ¬ (x.view = (t.r k).view ∧ (leadsR (t.r k) = true ∨ x.n < (t.r k).n)) := by
      rintro ⟨e1, e2⟩
      have hvk : (t.r k).view = g.V := by omega
      rcases e2 with e2 | e2
      · have := (hr.who h.it.gk e2).1
        rw [hvk] at this
        exact hne this.symm
      · have := hr.n.2
        rw [hvk] at this
        omega
    rw [if_neg hn2]
    split
    · exact ⟨_, by rw [hr.id, x2, x3, x4]⟩
    · rename_i c5
      have hvk : (t.r k).view = g.V := by
        rcases Decidable.em (x.view = (t.r k).view) with e | e
        · omega
        · exact absurd (.inl e) c5
      have hnk : (t.r k).n = N := by
        have h2 := hr.n.2
        rw [hvk] at h2
        have h3 : ¬ (t.r k).n < x.n := fun e => c5 (.inr e)
        omega
      exact ⟨_, by rw [hr.id, x2, hvk, hnk]⟩
  obtain ⟨y, hy⟩ := key
  have hlen : rest.length + 1 ≤ 8 := by have := h.len; rw [hn] at this; simpa using this
  have hsub : IT g { t with net := rest } := Inv1.say h.it fun z hz => h.it.netk z (by rw [hn]; simp [hz])
  have hwx : WOK g t.r x := h.it.netk x (by rw [hn]; simp)
  have hit := IT.hear hsub hwx
  have hT : hearT { t with net := rest } x = { t with r := upd t.r k y, net := rest ++ [⟨2, idOf k, idOf (g.who g.V), g.V, N, [], []⟩] } := by
    unfold hearT
    rw [if_neg hto']
    simp only [hkk, hy]
    rw [sayN_all (by simp; omega)]
  rw [hT] at hit ⊢
  have hlead : upd t.r k y (g.who g.V) = t.r (g.who g.V) := by simp [upd, Ne.symm hne]
  refine ⟨⟨hit.1, hit.2 h.last, by simp only [hlead]; exact h.n, by simp only [hlead]; exact h.text, fun z hz => ?_, fun m hm => ?_, by simp; omega⟩, ?_⟩
  · rcases List.mem_append.1 hz with hz | hz
    · exact h.net z (by rw [hn]; simp [hz])
    · have : z = ⟨2, idOf k, idOf (g.who g.V), g.V, N, [], []⟩ := by simpa using hz
      subst this
      exact .inr ⟨rfl, rfl, rfl, rfl, by show idOf k ∈ _; rw [hid]; exact x7⟩
  · simp only [hlead]
    rcases h.mem m hm with h' | ⟨z, hz, hz'⟩
    · exact .inl h'
    · rw [hn] at hz
      rcases List.mem_cons.1 hz with rfl | hz
      · refine .inr ⟨⟨2, idOf k, idOf (g.who g.V), g.V, N, [], []⟩, by simp, .inr ⟨rfl, ?_⟩⟩
        rcases hz' with ⟨_, e⟩ | ⟨e, _⟩
        · show idOf k = m; rw [hid]; exact e
        · omega
      · exact .inr ⟨z, by simp [hz], hz'⟩
  · rw [hn]
    simp only [msr_append, msr, h1, if_true]
    simp
    omega
theorem LI.ack (h : LI g t N T) {x : Word} {rest : List Word} (hn : t.net = x :: rest) (h2 : x.kind = 2) :
    LI g (hearT { t with net := rest } x) N T ∧ msr (hearT { t with net := rest } x).net + 1 ≤ msr t.net := by
  have hV1 := h.it.gk.V1
  have hw := h.it.gk.who g.V hV1 (Int.le_refl _)
  have hx := (h.net x (by rw [hn]; simp)).resolve_left (fun e => by omega)
  obtain ⟨-, x2, x3, x4, x5⟩ := hx
  have hto' : ¬ (x.to < 1 ∨ 3 < x.to) := by rw [x2]; unfold idOf; omega
  have hkk : (x.to - 1).toNat = g.who g.V := by rw [x2]; unfold idOf; omega
  have htop := h.it.rk _ hw
  obtain ⟨w1, w2⟩ := htop.who h.it.gk h.last.1
  rw [h.last.2] at w2
  have hlen : rest.length + 1 ≤ 8 := by have := h.len; rw [hn] at this; simpa using this
  have hsub : IT g { t with net := rest } := Inv1.say h.it fun z hz => h.it.netk z (by rw [hn]; simp [hz])
  have hwx : WOK g t.r x := h.it.netk x (by rw [hn]; simp)
  have hit := IT.hear hsub hwx
  have key : ∃ y, hearR (t.r (g.who g.V)) x = (y, []) ∧ y.n = N ∧ y.text = T ∧ (∀ m ∈ (t.r (g.who g.V)).acks, m ∈ y.acks) ∧ x.frm ∈ y.acks := by
    unfold hearR
    rw [if_pos ((right_iff _).2 htop.right), if_pos (by rw [x2, htop.id]), if_neg (by omega), if_pos h2]
    split
    · rename_i hb
      obtain ⟨e1, e2, e3, e4, e5, e6⟩ := fix_fields (ackR (t.r (g.who g.V)) x)
      refine ⟨_, rfl, by rw [e4]; exact h.n, by rw [e5]; exact h.text, fun m hm => by rw [e6]; exact List.mem_append.2 (.inl hm), by rw [e6]; exact List.mem_append.2 (.inr (by simp))⟩
    · rename_i hb
      refine ⟨_, rfl, h.n, h.text, fun m hm => hm, ?_⟩
      by_cases hin : x.frm ∈ (t.r (g.who g.V)).acks
      · exact hin
      · exfalso
        apply hb
        simp only [ackB, Bool.and_eq_true, decide_eq_true_eq, Bool.not_eq_true', decide_eq_false_iff_not]
        exact ⟨h.last.1, by rw [x3, h.last.2], by rw [x4, h.n], by rw [w2]; exact x5, hin⟩
  obtain ⟨y, hy, y1, y2, y3, y4⟩ := key
  have hT : hearT { t with net := rest } x = { t with r := upd t.r (g.who g.V) y, net := rest } := by
    unfold hearT
    rw [if_neg hto']
    simp only [hkk, hy]
    rfl
  rw [hT] at hit ⊢
  refine ⟨⟨hit.1, hit.2 h.last, by simp only [upd_k]; exact y1, by simp only [upd_k]; exact y2, fun z hz => h.net z (by rw [hn]; simp [hz]), fun m hm => ?_, by show rest.length ≤ 8; omega⟩, ?_⟩
  · simp only [upd_k]
    rcases h.mem m hm with h' | ⟨z, hz, hz'⟩
    · exact .inl (y3 m h')
    · rw [hn] at hz
      rcases List.mem_cons.1 hz with rfl | hz
      · rcases hz' with ⟨e, _⟩ | ⟨_, e⟩
        · omega
        · exact .inl (e ▸ y4)
      · exact .inr ⟨z, hz, hz'⟩
  · rw [hn]
    simp only [msr, h2]
    simp
    omega
theorem LI.step (h : LI g t N T) {x : Word} {rest : List Word} (hn : t.net = x :: rest) : LI g (hearT { t with net := rest } x) N T ∧ msr (hearT { t with net := rest } x).net + 1 ≤ msr t.net := by
  rcases h.net x (by rw [hn]; simp) with hx | hx
  · exact h.ship hn hx.1
  · exact h.ack hn hx.1
theorem LI.done (h : LI g t N T) (hn : t.net = []) : allR (t.r (g.who g.V)) = true ∧ (t.r (g.who g.V)).base = (t.r (g.who g.V)).text ∧ (∀ m ∈ (t.r (g.who g.V)).members, 1 ≤ m ∧ m ≤ 3 ∧
    (t.r (m - 1).toNat).text = (t.r (g.who g.V)).text ∧ (t.r (m - 1).toNat).view = (t.r (g.who g.V)).view) := by
  have hV1 := h.it.gk.V1
  have hw := h.it.gk.who g.V hV1 (Int.le_refl _)
  have htop := h.it.rk _ hw
  obtain ⟨w1, w2⟩ := htop.who h.it.gk h.last.1
  rw [h.last.2] at w2
  have hall : ∀ m ∈ g.mem g.V, m ∈ (t.r (g.who g.V)).acks := fun m hm => by
    rcases h.mem m hm with h' | ⟨z, hz, _⟩
    · exact h'
    · rw [hn] at hz; simp at hz
  have ha : allR (t.r (g.who g.V)) = true := by
    simp only [allR, List.all_eq_true, decide_eq_true_eq]
    rw [w2]; exact hall
  refine ⟨ha, (htop.right.lead h.last.1).2 ha, fun m hm => ?_⟩
  rw [w2] at hm
  have hm3 := (h.it.gk.set g.V hV1 (Int.le_refl _)).2.1 m hm
  refine ⟨hm3.1, hm3.2, ?_⟩
  by_cases e : m = (t.r (g.who g.V)).id
  · rw [e, htop.id]
    have : (idOf (g.who g.V) - 1).toNat = g.who g.V := by unfold idOf; omega
    rw [this]
    exact ⟨rfl, rfl⟩
  · obtain ⟨j, j1, j2, j3⟩ := htop.acks h.last.1 m (hall m hm) e
    have hj : (m - 1).toNat = j := by rw [j2]; unfold idOf; omega
    rw [hj]
    have hrj := h.it.rk j j1
    have hvj : (t.r j).view = g.V := by have := j3.1; rw [h.last.2] at this; have := hrj.view.2; omega
    have hnj : (t.r j).n = N := by
      have h1 := j3.2.1 (by rw [h.last.2]; exact hvj)
      rw [h.n] at h1
      have h2 := hrj.n.2
      rw [hvj] at h2
      have h3 := htop.top h.last.1
      rw [h.last.2, h.n] at h3
      omega
    refine ⟨?_, by rw [hvj, h.last.2]⟩
    rw [hrj.text, hvj, hnj, htop.text, h.last.2, h.n]
theorem LI.begin (h : IT g t) (hl : LastT g t) : LI g { t with net := sayN [] (if busyR (t.r (g.who g.V)) then shipsR (t.r (g.who g.V)) else []) } (t.r (g.who g.V)).n (t.r (g.who g.V)).text ∧
    msr (sayN [] (if busyR (t.r (g.who g.V)) then shipsR (t.r (g.who g.V)) else [])) ≤ 16 := by
  have hV1 := h.gk.V1
  have hw := h.gk.who g.V hV1 (Int.le_refl _)
  have htop := h.rk _ hw
  obtain ⟨w1, w2⟩ := htop.who h.gk hl.1
  rw [hl.2] at w2
  have hsl : (shipsR (t.r (g.who g.V))).length ≤ 8 := by
    simp only [shipsR, List.length_map]
    exact Nat.le_trans (List.length_filter_le _ _) htop.right.sm.1
  generalize hl0 : (if busyR (t.r (g.who g.V)) then shipsR (t.r (g.who g.V)) else []) = l0
  have hl8 : l0.length ≤ 8 := by
    rw [← hl0]; split
    · exact hsl
    · simp
  have hsay : sayN [] l0 = l0 := by rw [sayN_all (by simp; omega)]; rfl
  rw [hsay]
  have hin : ∀ x ∈ l0, x ∈ shipsR (t.r (g.who g.V)) := fun x hx => by
    rw [← hl0] at hx
    split at hx
    · exact hx
    · simp at hx
  have hto : ∀ x ∈ shipsR (t.r (g.who g.V)), x.to ∈ g.mem g.V ∧ x.to ∉ (t.r (g.who g.V)).acks := fun x hx => by
    simp only [shipsR, List.mem_map, List.mem_filter] at hx
    obtain ⟨m, ⟨m1, m2⟩, rfl⟩ := hx
    rw [w2] at m1
    exact ⟨m1, by simpa using m2⟩
  refine ⟨⟨Inv1.say h fun x hx => ships_ok h hw hl.1 (hin x hx), hl, rfl, rfl, fun x hx => .inl ?_, fun m hm => ?_, hl8⟩, ?_⟩
  · obtain ⟨z1, z2, z3, z4, z5, z6⟩ := ships_of (hin x hx)
    obtain ⟨t1, t2⟩ := hto x (hin x hx)
    refine ⟨z1, by rw [z2]; exact htop.id, by rw [z3]; exact hl.2, z4, by rw [z5]; exact w2, z6, t1, fun e => t2 ?_⟩
    rw [e, ← htop.id]; exact (htop.right.lead hl.1).1
  · by_cases hma : m ∈ (t.r (g.who g.V)).acks
    · exact .inl hma
    · refine .inr ⟨⟨1, (t.r (g.who g.V)).id, m, (t.r (g.who g.V)).view, (t.r (g.who g.V)).n, (t.r (g.who g.V)).members, (t.r (g.who g.V)).text⟩, ?_, .inl ⟨rfl, rfl⟩⟩
      show _ ∈ l0
      have hb : busyR (t.r (g.who g.V)) = true := by
        simp only [busyR, Bool.and_eq_true, Bool.not_eq_true']
        refine ⟨(right_iff _).2 htop.right, hl.1, ?_⟩
        cases ha : allR (t.r (g.who g.V)) with
        | false => rfl
        | true =>
          exfalso
          simp only [allR, List.all_eq_true, decide_eq_true_eq] at ha
          exact hma (ha m (by rw [w2]; exact hm))
      rw [← hl0, if_pos hb]
      simp only [shipsR, List.mem_map, List.mem_filter]
      exact ⟨m, ⟨by rw [w2]; exact hm, by simpa using hma⟩, rfl⟩
  · have : ∀ l : List Word, msr l ≤ 2 * l.length := by
      intro l
      induction l with
      | nil => simp [msr]
      | cons x l ih => simp only [msr, List.length_cons]; split <;> omega
    have := this l0
    omega
end
end Sg
namespace Sg
open _root_.Go (IntKind BinOp UnOp)
set_option linter.unusedSimpArgs false
set_option linter.unusedVariables false
@[go_sem] def eTold (t : Told) : List V := [iz t.view, iz t.who, eInts t.members]
def eThrG (r : Nat → Rep) (v1 v2 v3 v4 v5 : V) : List V := eRep (r 0) ++ (eRep (r 1) ++ (eRep (r 2) ++ [v1, v2, v3, v4, v5]))
@[go_sem] def eThrO (t : Thr) (a b c d : Nat) : List V := eThrG t.r (.own a 7 t.net.length) (.own b 3 t.views.length) (.own c 1 t.fx.length) (.own d 1 t.fx.length) (iz t.count)
def eThrT (t : Thr) : List V := eRep (t.r 0) ++ (eRep (t.r 1) ++ (eRep (t.r 2) ++ [.tuple [eWords t.net], .tuple [.slice 3 (t.views.map eTold)], .tuple [.slice 1 (t.fx.map fun f => [.str f.text])], .tuple [.slice 1 (t.fx.map fun f => [iz f.at_])], iz t.count]))
structure Arr4 (A : AA) (t : Thr) (a b c d : Nat) : Prop where
  ra : A a = some (7, t.net.map eWord, .live)
  rb : A b = some (3, t.views.map eTold, .live)
  rc : A c = some (1, t.fx.map (fun f => [.str f.text]), .live)
  rd : A d = some (1, t.fx.map (fun f => [iz f.at_]), .live)
  rn : a ≠ b ∧ a ≠ c ∧ a ≠ d ∧ b ≠ c ∧ b ≠ d ∧ c ≠ d
def HT (S : St) (v : Nat) (t : Thr) (a b c d : Nat) : Prop := S.μ v = some (eThrO t a b c d, false) ∧ Arr4 S.A t a b c d
theorem hand_dat {A : AA} : ∀ {l m : List V}, l.all V.datC = true → (∀ z, V.nslice z ∉ l) → handL (l ++ m) A = (handL m A).map fun r => (l ++ r.1, r.2)
  | [], m, _, _ => by cases h : handL m A <;> simp [h]
  | x :: l, m, hd, hn => by
    simp only [List.all_cons, Bool.and_eq_true] at hd
    have hx : handC A x = some (x, A) := by
      cases x <;> first | rfl | (simp [V.datC] at hd; done) | (exact absurd (List.mem_cons_self ..) (hn _))
    rw [List.cons_append, hand_cons, hx]
    simp only [Option.bind_some]
    rw [hand_dat hd.2 (fun z hz => hn z (by simp [hz]))]
    cases handL m A <;> simp
theorem take_dat {A : AA} : ∀ {l m : List V} {d : Nat}, l.all V.datC = true → takeL d (l ++ m) A = (takeL (d + l.length) m A).map fun r => (l ++ r.1, r.2)
  | [], m, d, _ => by cases h : takeL d m A <;> simp [h]
  | x :: l, m, d, hd => by
    simp only [List.all_cons, Bool.and_eq_true] at hd
    have hx : takeC d A x = some (x, A) := by
      cases x <;> first | rfl | (simp [V.datC] at hd; done)
    rw [List.cons_append, take_cons, hx]
    simp only [Option.bind_some]
    rw [take_dat hd.2, show d + 1 + l.length = d + (x :: l).length by simp; omega]
    cases takeL (d + (x :: l).length) m A <;> simp
theorem rep_dat (r : Rep) : (eRep r).all V.datC = true := rfl
theorem rep_ns (r : Rep) (z : Nat) : V.nslice z ∉ eRep r := by simp [eRep, eInts]
theorem rep_len (r : Rep) : (eRep r).length = 7 := rfl
theorem hand_thr {A : AA} {t : Thr} {a b c d : Nat} (h : Arr4 A t a b c d) :
    handL (eThrO t a b c d) A = some (eThrT t, upd (upd (upd (upd A a (some (7, [], .dead))) b (some (3, [], .dead))) c (some (1, [], .dead))) d (some (1, [], .dead))) := by
  obtain ⟨n1, n2, n3, n4, n5, n6⟩ := h.rn
  have u1 : upd A a (some (7, [], .dead)) b = some (3, t.views.map eTold, .live) := by simp [upd, Ne.symm n1, h.rb]
  have u2 : upd (upd A a (some (7, [], .dead))) b (some (3, [], .dead)) c = some (1, t.fx.map (fun f => [.str f.text]), .live) := by simp [upd, Ne.symm n2, Ne.symm n4, h.rc]
  have u3 : upd (upd (upd A a (some (7, [], .dead))) b (some (3, [], .dead))) c (some (1, [], .dead)) d = some (1, t.fx.map (fun f => [iz f.at_]), .live) := by simp [upd, Ne.symm n3, Ne.symm n5, Ne.symm n6, h.rd]
  unfold eThrO eThrG
  rw [hand_dat (rep_dat _) (rep_ns _), hand_dat (rep_dat _) (rep_ns _), hand_dat (rep_dat _) (rep_ns _)]
  have := h.ra
  simp only [hand_cons, hand_nil, handC_o, this, hdo_s, List.length_map, if_true, Option.bind_some, u1, u2, u3, handC_i, Option.map_some]
  rfl
theorem take_thr {A : AA} {t : Thr} {p : Nat} (h1 : A (p + 21) = none) (h2 : A (p + 22) = none) (h3 : A (p + 23) = none) (h4 : A (p + 24) = none) :
    takeL p (eThrT t) A = some (eThrO t (p + 21) (p + 22) (p + 23) (p + 24), upd (upd (upd (upd A (p + 21) (some (7, t.net.map eWord, .live))) (p + 22) (some (3, t.views.map eTold, .live))) (p + 23) (some (1, t.fx.map (fun f => [.str f.text]), .live))) (p + 24) (some (1, t.fx.map (fun f => [iz f.at_]), .live))) := by
  unfold eThrT
  rw [take_dat (rep_dat _), take_dat (rep_dat _), take_dat (rep_dat _)]
  have e1 : p + 7 + 7 + 7 = p + 21 := by omega
  have e2 : p + 21 + 1 = p + 22 := by omega
  have e3 : p + 22 + 1 = p + 23 := by omega
  have e4 : p + 23 + 1 = p + 24 := by omega
  have u1 : upd A (p + 21) (some (7, t.net.map eWord, .live)) (p + 22) = none := by simp [upd, h2]
  have u2 : upd (upd A (p + 21) (some (7, t.net.map eWord, .live))) (p + 22) (some (3, t.views.map eTold, .live)) (p + 23) = none := by simp [upd, h3]
  have u3 : upd (upd (upd A (p + 21) (some (7, t.net.map eWord, .live))) (p + 22) (some (3, t.views.map eTold, .live))) (p + 23) (some (1, t.fx.map (fun f => [V.str f.text]), .live)) (p + 24) = none := by simp [upd, h4]
  simp only [rep_len, e1, take_cons, take_nil, eWords, takeC_t, h1, tko_n, Option.bind_some, e2, u1, e3, u2, e4, u3, takeC_i, Option.map_some, List.length_map]
  rfl
theorem arr_put {A : AA} {t : Thr} {p : Nat} : Arr4 (upd (upd (upd (upd A (p + 21) (some (7, t.net.map eWord, .live))) (p + 22) (some (3, t.views.map eTold, .live))) (p + 23) (some (1, t.fx.map (fun f => [V.str f.text]), .live))) (p + 24) (some (1, t.fx.map (fun f => [iz f.at_]), .live))) t (p + 21) (p + 22) (p + 23) (p + 24) :=
  ⟨by simp [upd], by simp [upd], by simp [upd], by simp [upd], by omega, by omega, by omega, by omega, by omega, by omega⟩
theorem start_thr {args : List V} {k : Nat} {t : Thr} : startR args k (eThrT t) = some ⟨fun i => if i = k then .lref k 0 else (args[i]?).getD .undef, upd (fun _ => none) k (some (eThrO t 9021 9022 9023 9024, false)),
    upd (upd (upd (upd (fun _ => none) 9021 (some (7, t.net.map eWord, .live))) 9022 (some (3, t.views.map eTold, .live))) 9023 (some (1, t.fx.map (fun f => [V.str f.text]), .live))) 9024 (some (1, t.fx.map (fun f => [iz f.at_]), .live))⟩ := by
  unfold startR
  rw [take_thr (p := 9000) rfl rfl rfl rfl]
  rfl
theorem finish_thr {F : F} {S : St} {k : Nat} {t : Thr} {a b c d : Nat} (h : HT S k t a b c d) {vs ws : List V} (h1 : mapO (resV S) F.res = some vs) (h2 : ∀ A, mapO (toD A) vs = some ws) :
    finishR F k S = some (.tuple [shut ws, .tuple (eThrT t)]) := by
  unfold finishR
  rw [h1]
  simp only [Option.bind_some, h.1, hand_thr h.2, h2]
theorem rcall_thr {κ : Nat → List V → Option V} {S : St} {f v p n : Nat} {rest : List V} {t t' : Thr} {a b c d : Nat} {r : V} (h : HT S v t a b c d) (hn : Fr S.A n) (hp : n ≤ p)
    (hd : ∀ A, mapO (toD A) rest = some rest) (hs : rest.flatMap sitesV = [])
    (hκ : κ f (.tuple (.lref 0 0 :: eThrT t) :: rest) = some (.tuple [r, .tuple (eThrT t')])) :
    ∃ S', rcallV κ p S f 0 v (.lref v 0 :: rest) = some (r, S') ∧ S'.ρ = S.ρ ∧ (∀ i, i ≠ v → S'.μ i = S.μ i) ∧ HT S' v t' (p + 21) (p + 22) (p + 23) (p + 24) ∧ Fr S'.A (p + 25) ∧ (∀ i, i < p + 21 → S.A i = none → S'.A i = none) := by
  have lt : ∀ {x y}, S.A x = some y → x < n := fun {x y} hx => by
    rcases Nat.lt_or_ge x n with h' | h'
    · exact h'
    · rw [hn x h'] at hx; cases hx
  have la := lt h.2.ra
  have lb := lt h.2.rb
  have lc := lt h.2.rc
  have ld := lt h.2.rd
  have free : ∀ q, n ≤ q → (upd (upd (upd (upd S.A a (some (7, [], .dead))) b (some (3, [], .dead))) c (some (1, [], .dead))) d (some (1, [], .dead)) : AA) q = none := fun q hq => by
    simp only [upd]
    rw [if_neg (by omega), if_neg (by omega), if_neg (by omega), if_neg (by omega)]
    exact hn q hq
  have hA : rcallA S 0 v (.lref v 0 :: rest) = some (.tuple (.lref 0 0 :: eThrT t) :: rest, upd (upd (upd (upd S.A a (some (7, [], .dead))) b (some (3, [], .dead))) c (some (1, [], .dead))) d (some (1, [], .dead))) := by
    simp only [rcallA_e, get_z, rcA1_l, List.set_cons_zero, mapO, toD_u, hd, Option.bind_some, h.1, rcA2_s, flat_cons, sites_u, hs, List.nil_append, frz_nil, hand_thr h.2]
  refine ⟨⟨S.ρ, upd S.μ v (some (eThrO t' (p + 21) (p + 22) (p + 23) (p + 24), false)), upd (upd (upd (upd (upd (upd (upd (upd S.A a (some (7, [], .dead))) b (some (3, [], .dead))) c (some (1, [], .dead))) d (some (1, [], .dead))) (p + 21) (some (7, t'.net.map eWord, .live))) (p + 22) (some (3, t'.views.map eTold, .live))) (p + 23) (some (1, t'.fx.map (fun f => [V.str f.text]), .live))) (p + 24) (some (1, t'.fx.map (fun f => [iz f.at_]), .live))⟩, by rw [rcall_e, hA]; simp only [Option.bind_some, hκ, rcallE_t]; rw [take_thr (free _ (by omega)) (free _ (by omega)) (free _ (by omega)) (free _ (by omega))]; rfl, rfl, fun i hi => by simp [upd, hi], ⟨by simp [upd], arr_put⟩, fun x hx => ?_, fun i hi h0 => ?_⟩
  · simp only [upd]
    rw [if_neg (by omega), if_neg (by omega), if_neg (by omega), if_neg (by omega)]
    exact free x (by omega)
  · have ia : i ≠ a := fun e => by rw [e, h.2.ra] at h0; cases h0
    have ib : i ≠ b := fun e => by rw [e, h.2.rb] at h0; cases h0
    have ic : i ≠ c := fun e => by rw [e, h.2.rc] at h0; cases h0
    have id' : i ≠ d := fun e => by rw [e, h.2.rd] at h0; cases h0
    simp only [upd]
    rw [if_neg (by omega), if_neg (by omega), if_neg (by omega), if_neg (by omega), if_neg id', if_neg ic, if_neg ib, if_neg ia]
    exact h0
section
variable {r : Nat → Rep} {v1 v2 v3 v4 v5 w : V} {k s : Nat} {S : St}
theorem thr_len : (eThrG r v1 v2 v3 v4 v5).length = 26 := rfl
theorem k3 (hk : k < 3) : k = 0 ∨ k = 1 ∨ k = 2 := by omega
theorem ld_rep (hk : k < 3) : ((eThrG r v1 v2 v3 v4 v5).drop (k * 7)).take 7 = eRep (r k) := by
  rcases k3 hk with rfl | rfl | rfl <;> rfl
theorem le_rep (hk : k < 3) : decide (k * 7 + 7 ≤ 26) = true := decide_eq_true (by omega)
theorem ld_view (hk : k < 3) : (eThrG r v1 v2 v3 v4 v5)[k * 7 + 1]? = some (iz (r k).view) := by
  rcases k3 hk with rfl | rfl | rfl <;> rfl
theorem ld_base (hk : k < 3) : (eThrG r v1 v2 v3 v4 v5)[k * 7 + 4]? = some (.str (r k).base) := by
  rcases k3 hk with rfl | rfl | rfl <;> rfl
theorem ld_text (hk : k < 3) : (eThrG r v1 v2 v3 v4 v5)[k * 7 + 5]? = some (.str (r k).text) := by
  rcases k3 hk with rfl | rfl | rfl <;> rfl
theorem ld_21 : (eThrG r v1 v2 v3 v4 v5)[21]? = some v1 := rfl
theorem ld_22 : (eThrG r v1 v2 v3 v4 v5)[22]? = some v2 := rfl
theorem ld_23 : (eThrG r v1 v2 v3 v4 v5)[23]? = some v3 := rfl
theorem ld_24 : (eThrG r v1 v2 v3 v4 v5)[24]? = some v4 := rfl
theorem ld_25 : (eThrG r v1 v2 v3 v4 v5)[25]? = some v5 := rfl
theorem stv_rep (hk : k < 3) (x : Rep) : stV S s (k * 7) (eRep x) (some (eThrG r v1 v2 v3 v4 v5, false)) = some ⟨S.ρ, upd S.μ s (some (eThrG (upd r k x) v1 v2 v3 v4 v5, false)), S.A⟩ := by
  rcases k3 hk with rfl | rfl | rfl <;> rfl
theorem stv_rep' {a b n : Int} {l ak : List Int} {bs tx : List UInt8} (hk : k < 3) : stV S s (k * 7) [iz a, iz b, .slice 1 (l.map fun a => [iz a]), iz n, .str bs, .str tx, .slice 1 (ak.map fun a => [iz a])] (some (eThrG r v1 v2 v3 v4 v5, false)) =
    some ⟨S.ρ, upd S.μ s (some (eThrG (upd r k ⟨a, b, l, n, bs, tx, ak⟩) v1 v2 v3 v4 v5, false)), S.A⟩ := stv_rep hk ⟨a, b, l, n, bs, tx, ak⟩
theorem stv_21 : stV S s 21 [w] (some (eThrG r v1 v2 v3 v4 v5, false)) = some ⟨S.ρ, upd S.μ s (some (eThrG r w v2 v3 v4 v5, false)), S.A⟩ := rfl
theorem stv_22 : stV S s 22 [w] (some (eThrG r v1 v2 v3 v4 v5, false)) = some ⟨S.ρ, upd S.μ s (some (eThrG r v1 w v3 v4 v5, false)), S.A⟩ := rfl
theorem stv_23 : stV S s 23 [w] (some (eThrG r v1 v2 v3 v4 v5, false)) = some ⟨S.ρ, upd S.μ s (some (eThrG r v1 v2 w v4 v5, false)), S.A⟩ := rfl
theorem stv_24 : stV S s 24 [w] (some (eThrG r v1 v2 v3 v4 v5, false)) = some ⟨S.ρ, upd S.μ s (some (eThrG r v1 v2 v3 w v5, false)), S.A⟩ := rfl
theorem stv_25 : stV S s 25 [w] (some (eThrG r v1 v2 v3 v4 v5, false)) = some ⟨S.ρ, upd S.μ s (some (eThrG r v1 v2 v3 v4 w, false)), S.A⟩ := rfl
attribute [go_sem] ld_21 ld_22 ld_23 ld_24 ld_25 thr_len
attribute [go_sem high] stv_rep' stv_21 stv_22 stv_23 stv_24 stv_25
end
theorem ren_arr {A : AA} {t : Thr} {a b c d x h : Nat} (hA : Arr4 A t a b c d) : Arr4 (fun i => A (swp x h i)) t (swp x h a) (swp x h b) (swp x h c) (swp x h d) := by
  obtain ⟨n1, n2, n3, n4, n5, n6⟩ := hA.rn
  have inj : ∀ {p q : Nat}, p ≠ q → swp x h p ≠ swp x h q := fun {p q} hn e => hn (by
    have : ∀ r, swp x h (swp x h r) = r := fun r => by
      unfold swp
      by_cases e1 : r = x
      · subst e1; simp only [if_true]; split
        · rename_i e; exact e
        · rfl
      · rw [if_neg e1]
        by_cases e2 : r = h
        · subst e2; simp
        · rw [if_neg e2, if_neg e1, if_neg e2]
    rw [← this p, e, this q])
  have inv : ∀ r, swp x h (swp x h r) = r := fun r => by
      unfold swp
      by_cases e1 : r = x
      · subst e1; simp only [if_true]; split
        · rename_i e; exact e
        · rfl
      · rw [if_neg e1]
        by_cases e2 : r = h
        · subst e2; simp
        · rw [if_neg e2, if_neg e1, if_neg e2]
  exact ⟨by simp only [inv]; exact hA.ra, by simp only [inv]; exact hA.rb, by simp only [inv]; exact hA.rc, by simp only [inv]; exact hA.rd, inj n1, inj n2, inj n3, inj n4, inj n5, inj n6⟩
theorem HT.ren {S : St} {v x h : Nat} {t : Thr} {a b c d : Nat} (hT : HT S v t a b c d) : HT (S.ren x h) v t (swp x h a) (swp x h b) (swp x h c) (swp x h d) := by
  refine ⟨?_, ren_arr hT.2⟩
  show (S.μ v).map _ = _
  rw [hT.1]; rfl
theorem swp_keep {x h p : Nat} (h1 : p ≠ x) (h2 : p ≠ h) : swp x h p = p := by simp [swp, h1, h2]
theorem swp_in {T : List Nat} {x h y : Nat} (hx : x ∈ T) (hh : h ∈ T) (hy : y ∈ T) : swp x h y ∈ T := by
  unfold swp
  split
  · exact hh
  · split
    · exact hx
    · exact hy
theorem HT.head {S : St} {v : Nat} {t : Thr} {a b c d h1 h2 h3 h4 : Nat} {Wv Wa : List Nat} (hT : HT S v t a b c d) (hh : h1 ≠ h2 ∧ h1 ≠ h3 ∧ h1 ≠ h4 ∧ h2 ≠ h3 ∧ h2 ≠ h4 ∧ h3 ≠ h4)
    (hv : Wv.contains v = false) (hw : Wa.contains h1 = false ∧ Wa.contains h2 = false ∧ Wa.contains h3 = false ∧ Wa.contains h4 = false) :
    HT (S.head [] [v, 21, h1, v, 22, h2, v, 23, h3, v, 24, h4] Wv Wa) v t h1 h2 h3 h4 ∧ (∀ x, Wa.contains x = true → (S.head [] [v, 21, h1, v, 22, h2, v, 23, h3, v, 24, h4] Wv Wa).A x = none) ∧
      (∀ x, x ∉ [a, b, c, d, h1, h2, h3, h4] → S.A x = none → (S.head [] [v, 21, h1, v, 22, h2, v, 23, h3, v, 24, h4] Wv Wa).A x = none) := by
  obtain ⟨q1, q2, q3, q4, q5, q6⟩ := hh
  have s1 := hT.ren (x := a) (h := h1)
  rw [swp_l] at s1
  have e1 : S.swp1 v 21 h1 = S.ren a h1 := by rw [swp1_e, hT.1, sw1_s]; rfl
  have T0 : ∀ y ∈ [a, b, c, d, h1, h2, h3, h4], swp a h1 y ∈ [a, b, c, d, h1, h2, h3, h4] := fun y hy => swp_in (by simp) (by simp) hy
  have tb1 := T0 b (by simp)
  have tc1 := T0 c (by simp)
  have td1 := T0 d (by simp)
  generalize swp a h1 b = b1 at *
  generalize swp a h1 c = c1 at *
  generalize swp a h1 d = d1 at *
  obtain ⟨n1, n2, n3, n4, n5, n6⟩ := s1.2.rn
  have s2 := s1.ren (x := b1) (h := h2)
  rw [swp_l, swp_keep n1 q1] at s2
  have e2 : (S.ren a h1).swp1 v 22 h2 = (S.ren a h1).ren b1 h2 := by rw [swp1_e, s1.1, sw1_s]; rfl
  have tc2 := swp_in (h := h2) tb1 (by simp) tc1
  have td2 := swp_in (h := h2) tb1 (by simp) td1
  generalize swp b1 h2 c1 = c2 at *
  generalize swp b1 h2 d1 = d2 at *
  obtain ⟨m1, m2, m3, m4, m5, m6⟩ := s2.2.rn
  have s3 := s2.ren (x := c2) (h := h3)
  rw [swp_l, swp_keep m2 q2, swp_keep m4 q4] at s3
  have e3 : ((S.ren a h1).ren b1 h2).swp1 v 23 h3 = ((S.ren a h1).ren b1 h2).ren c2 h3 := by rw [swp1_e, s2.1, sw1_s]; rfl
  have td3 := swp_in (h := h3) tc2 (by simp) td2
  generalize swp c2 h3 d2 = d3 at *
  obtain ⟨l1, l2, l3, l4, l5, l6⟩ := s3.2.rn
  have s4 := s3.ren (x := d3) (h := h4)
  rw [swp_l, swp_keep l3 q3, swp_keep l5 q5, swp_keep l6 q6] at s4
  have e4 : (((S.ren a h1).ren b1 h2).ren c2 h3).swp1 v 24 h4 = (((S.ren a h1).ren b1 h2).ren c2 h3).ren d3 h4 := by rw [swp1_e, s3.1, sw1_s]; rfl
  have eh : S.head [] [v, 21, h1, v, 22, h2, v, 23, h3, v, 24, h4] Wv Wa = ((((S.ren a h1).ren b1 h2).ren c2 h3).ren d3 h4).scrub [] Wv Wa := by
    rw [head_sw, e1, head_sw, e2, head_sw, e3, head_sw, e4]; rfl
  rw [eh]
  refine ⟨⟨?_, ?_⟩, fun x hx => ?_, fun x hx h0 => ?_⟩
  · show (if Wv.contains v then none else _) = _
    rw [hv, s4.1]
    simp only [Bool.false_eq_true, if_false, Option.map_some]
    have : (eThrO t h1 h2 h3 h4).map (scrubC Wa) = eThrO t h1 h2 h3 h4 := by
      unfold eThrO eThrG
      simp only [List.map_append, scrub_data (rep_dat _), List.map_cons, List.map_nil, scrubC, hw.1, hw.2.1, hw.2.2.1, hw.2.2.2]
      rfl
    rw [this]
    cases Wa.isEmpty <;> rfl
  · have keep : ∀ x, Wa.contains x = false → (((((S.ren a h1).ren b1 h2).ren c2 h3).ren d3 h4).scrub [] Wv Wa).A x = ((((S.ren a h1).ren b1 h2).ren c2 h3).ren d3 h4).A x := fun x hx => by
      show (if Wa.contains x then none else _) = _
      rw [hx]; rfl
    exact ⟨by rw [keep _ hw.1]; exact s4.2.ra, by rw [keep _ hw.2.1]; exact s4.2.rb, by rw [keep _ hw.2.2.1]; exact s4.2.rc, by rw [keep _ hw.2.2.2]; exact s4.2.rd, q1, q2, q3, q4, q5, q6⟩
  · show (if Wa.contains x then none else _) = _
    rw [hx]; rfl
  · show (if Wa.contains x then none else _) = _
    split
    · rfl
    · show S.A (swp a h1 (swp b1 h2 (swp c2 h3 (swp d3 h4 x)))) = none
      have ne : ∀ {y}, y ∈ [a, b, c, d, h1, h2, h3, h4] → x ≠ y := fun hy e => hx (e ▸ hy)
      rw [swp_keep (ne td3) (ne (by simp)), swp_keep (ne tc2) (ne (by simp)), swp_keep (ne tb1) (ne (by simp)), swp_keep (ne (by simp)) (ne (by simp))]
      exact h0
structure SThr (S : St) (rest : List V) (t : Thr) : Prop where
  r0 : S.ρ 0 = .lref 0 0
  r : ∀ i, S.ρ (i + 1) = (rest[i]?).getD .undef
  h : HT S 0 t 9021 9022 9023 9024
  m : ∀ i, (i == 0) = false → S.μ i = none
  a : ∀ x, x < 9021 ∨ 9024 < x → S.A x = none
def OutT (rs : List Res) (ws : List V) (t : Thr) (S : St) : Prop := ∃ a b c d, HT S 0 t a b c d ∧ ∃ vs, mapO (resV S) rs = some vs ∧ ∀ A, mapO (toD A) vs = some ws
theorem K'_thr {Pg : Nat → Option Fn} {f : Nat} {F : F} (rs : List Res) {rest ws : List V} {t t' : Thr} (hF : Pg f = some (.codeR F 0)) (hl : rest.length + 1 = F.np) (hrs : F.res = rs)
    (h : ∀ S, SThr S rest t → Wp (K' Pg) F.body S fun ex S' => (ex = .norm ∨ ex = .ret) ∧ OutT rs ws t' S') :
    K' Pg f (.tuple (.lref 0 0 :: eThrT t) :: rest) = some (.tuple [shut ws, .tuple (eThrT t')]) := by
  have hm : ∀ i, (i == 0) = false → (upd (fun _ => none) 0 (some (eThrO t 9021 9022 9023 9024, false)) : Nat → Option (List V × Bool)) i = none := fun i hi => upd_ne_ hi
  refine K'_codeR hF (by simpa using hl) rfl start_thr ((h _ ⟨rfl, fun i => rfl, ⟨by simp [upd], arr_put (p := 9000)⟩, hm, fun x hx => ?_⟩).mono fun ex S' hq => ⟨hq.1, ?_⟩)
  · simp only [upd]
    rw [if_neg (by omega), if_neg (by omega), if_neg (by omega), if_neg (by omega)]
  · obtain ⟨a, b, c, d, h1, vs, h2, h3⟩ := hq.2
    exact finish_thr h1 (by rw [hrs]; exact h2) h3
theorem HT.head0 {S : St} {t : Thr} {Wv : List Nat} (hT : HT S 0 t 9021 9022 9023 9024) (hv : Wv.contains 0 = false) :
    HT (S.head [] [0, 21, 9021, 0, 22, 9022, 0, 23, 9023, 0, 24, 9024] Wv []) 0 t 9021 9022 9023 9024 :=
  (hT.head ⟨by decide, by decide, by decide, by decide, by decide, by decide⟩ hv ⟨rfl, rfl, rfl, rfl⟩).1
theorem HT.set {ρ : Nat → V} {μ : Nat → Option (List V × Bool)} {A : AA} {v : Nat} {t : Thr} {a b c d : Nat} {S : St} (h : HT S v t a b c d) (h1 : μ v = S.μ v) (h2 : A = S.A) : HT ⟨ρ, μ, A⟩ v t a b c d :=
  ⟨h1.trans h.1, h2 ▸ h.2⟩
theorem Arr4.net {A : AA} {t : Thr} {a b c d : Nat} (h : Arr4 A t a b c d) (l : List Word) : Arr4 (upd A a (some (7, l.map eWord, .live))) { t with net := l } a b c d := by
  obtain ⟨n1, n2, n3, n4, n5, n6⟩ := h.rn
  exact ⟨by simp [upd], by simp [upd, Ne.symm n1, h.rb], by simp [upd, Ne.symm n2, h.rc], by simp [upd, Ne.symm n3, h.rd], n1, n2, n3, n4, n5, n6⟩
theorem Arr4.of {A : AA} {t t' : Thr} {a b c d : Nat} (h : Arr4 A t a b c d) (h1 : t'.net = t.net) (h2 : t'.views = t.views) (h3 : t'.fx = t.fx) : Arr4 A t' a b c d :=
  ⟨by rw [h1]; exact h.ra, by rw [h2]; exact h.rb, by rw [h3]; exact h.rc, by rw [h3]; exact h.rd, h.rn⟩
theorem wro_thr {κ : Nat → List V → Option V} {dst : Option Nat} {gl : Bool} {ops : List Op} {i : Nat} {e : Nat → V} {Q : St → Prop} {S : St} {f v p n : Nat} {rest : List V} {t t' : Thr} {a b c d : Nat} {r : V}
    (hκ : κ f (.tuple (.lref 0 0 :: eThrT t) :: rest) = some (.tuple [r, .tuple (eThrT t')]))
    (hm : S.μ v = some (eThrO t a b c d, false)) (hA : Arr4 S.A t a b c d) (hn : Fr S.A n) (hp : n ≤ p)
    (hd : ∀ A, mapO (toD A) rest = some rest) (hs : rest.flatMap sitesV = [])
    (hq : ∀ S', S'.ρ = S.ρ → (∀ i, (i == v) = false → S'.μ i = S.μ i) → HT S' v t' (p + 21) (p + 22) (p + 23) (p + 24) → Fr S'.A (p + 25) → (∀ i, i < p + 21 → S.A i = none → S'.A i = none) →
      Wr κ ops (i + 1) (upd e i r) (putS gl dst S' r) Q) :
    WrO κ dst gl ops i e Q (rcallV κ p S f 0 v (.lref v 0 :: rest)) := by
  obtain ⟨S', e1, e2, e3, e4, e5, e6⟩ := rcall_thr (S := S) ⟨hm, hA⟩ hn hp hd hs hκ
  rw [e1]
  exact hq S' e2 (fun i hi => e3 i (by simpa using hi)) e4 e5 e6
end Sg
namespace Sg
open _root_.Go (IntKind BinOp UnOp)
set_option linter.unusedSimpArgs false
set_option linter.unusedVariables false
set_option maxRecDepth 10000
variable {Pg : Nat → Option Fn}
theorem sayN_snoc (net l : List Word) (x : Word) : sayN net (l ++ [x]) = if (sayN net l).length < 200 then sayN net l ++ [x] else sayN net l := by
  simp only [sayN, List.foldl_append, List.foldl_cons, List.foldl_nil]
  rfl
def H232 (Pg : Nat → Option Fn) : Prop := Pg 232 = some (.codeR F232 0)
theorem K232 (h : H232 Pg) (t : Thr) (l : List Word) (hl : l.length < 2 ^ 60) (hn : t.net.length ≤ 200) :
    K' Pg 232 [.tuple (.lref 0 0 :: eThrT t), eWords l] = some (.tuple [.tuple [], .tuple (eThrT { t with net := sayN t.net l })]) := by
  refine K'_thr [] (ws := []) h rfl rfl fun S0 ⟨r0, r, hT0, m0, a0⟩ => ?_
  have r1 := r 0
  have m5 := m0 5 rfl
  simp only [get_z, Option.getD_some] at r1
  simp only [F232, c232, r232_0, go_sem, r1]
  unfold l232_0
  refine wp_lp (fun (i : Nat) S => i ≤ l.length ∧ S.ρ 0 = .lref 0 0 ∧ S.ρ 6 = eWords l ∧ S.ρ 7 = iz l.length ∧ S.ρ 8 = iz i ∧ HT S 0 { t with net := sayN t.net (l.take i) } 9021 9022 9023 9024 ∧ S.μ 5 = none) (fun i => l.length - i) 0 ?_ ?_
  · exact ⟨Nat.zero_le _, head_ρs r0 rfl, head_ρs rfl rfl, head_ρs rfl rfl, head_ρs rfl rfl, (hT0.set rfl rfl).head0 rfl, head_μn (.inl m5)⟩
  · intro i S ⟨hi, s0, s6, s7, s8, hT, m5⟩
    cases c1 : decide ((i : Int) < (l.length : Int)) with
    | false =>
      have : i = l.length := by have := of_decide_eq_false c1; omega
      subst this
      rw [List.take_length] at hT
      simp only [go_sem, s8, s7, c1]
      exact ⟨_, _, _, _, hT.set rfl rfl, [], rfl, fun _ => rfl⟩
    | true =>
      have hlt := lt_of c1
      obtain ⟨x, hx, -⟩ := drop_at hlt
      have hinc : IntKind.i64.wrap ((i : Int) + 1) = ((i + 1 : Nat) : Int) := by rw [wrap64 (by omega) (by omega)]; omega
      have hm := hT.1
      have hA := hT.2.ra
      have hlen : (sayN t.net (l.take i)).length ≤ 200 := sayN_len hn
      have htk : l.take (i + 1) = l.take i ++ [x] := by rw [List.take_add_one, hx]; rfl
      cases c2 : decide (((sayN t.net (l.take i)).length : Int) < 200) with
      | false =>
        have hs : sayN t.net (l.take (i + 1)) = sayN t.net (l.take i) := by
          rw [htk, sayN_snoc, if_neg (by have := of_decide_eq_false c2; omega)]
        simp only [go_sem, s0, s6, s7, s8, hx, c1, m5, hm, c2, hinc]
        refine ⟨i + 1, by omega, by omega, head_ρs s0 rfl, head_ρs s6 rfl, head_ρs s7 rfl, head_ρs rfl rfl, ?_, head_μn (.inr rfl)⟩
        rw [hs]
        refine HT.head0 ?_ rfl
        exact HT.set hT (by simp only [go_sem]) rfl
      | true =>
        have hc := of_decide_eq_true c2
        have hs : sayN t.net (l.take (i + 1)) = sayN t.net (l.take i) ++ [x] := by
          rw [htk, sayN_snoc, if_pos (by omega)]
        have hlim : (sayN t.net (l.take i)).length + 1 ≤ lim := by unfold lim; omega
        simp only [go_sem, s0, s6, s7, s8, hx, c1, m5, hm, c2, hinc, hA, hlim, List.length_map]
        refine ⟨i + 1, by omega, by omega, head_ρs s0 rfl, head_ρs s6 rfl, head_ρs s7 rfl, head_ρs rfl rfl, ?_, head_μn (.inr rfl)⟩
        rw [hs]
        refine HT.head0 ⟨by simp [upd, go_sem], ?_⟩ rfl
        have := hT.2.net (sayN t.net (l.take i) ++ [x])
        rw [List.map_append] at this
        exact this
def H233 (Pg : Nat → Option Fn) : Prop := Pg 233 = some (.codeR F233 0)
theorem K233 (h : H233 Pg) (t : Thr) (i : Nat) (hi : i < t.net.length) (hn : t.net.length ≤ 200) :
    K' Pg 233 [.tuple (.lref 0 0 :: eThrT t), iz i] = some (.tuple [.agg (eWord (t.net.getD i ⟨0, 0, 0, 0, 0, [], []⟩)), .tuple (eThrT { t with net := offN t.net i })]) := by
  obtain ⟨x, hx, -⟩ := drop_at hi
  have hg : t.net.getD i ⟨0, 0, 0, 0, 0, [], []⟩ = x := by simp [List.getD_eq_getElem?_getD, hx]
  rw [hg]
  refine K'_thr [.cell 4 (some 7)] (ws := [.agg (eWord x)]) h rfl rfl fun S0 ⟨r0, r, hT0, m0, a0⟩ => ?_
  have r1 := r 0
  have m4 := m0 4 rfl
  have m5 := m0 5 rfl
  have a6 := a0 6 (by omega)
  simp only [get_z, Option.getD_some] at r1
  have hm := hT0.1
  have hA := hT0.2.ra
  have hinc : IntKind.i64.wrap ((i : Int) + 1) = ((i + 1 : Nat) : Int) := by rw [wrap64 (by omega) (by omega)]; omega
  have h1 : i ≤ t.net.length := by omega
  have h2 : i + 1 ≤ t.net.length := by omega
  have h4 : (0 : Nat) ≤ i := Nat.zero_le _
  have hb : bound (some (V.int IntKind.i64 ((i : Int) + 1))) t.net.length = some (i + 1) := by simp [bound]; omega
  have hmin : min i t.net.length = i := by omega
  have e1 : (List.take i (List.map eWord t.net)).length = i := by simp; omega
  have e2 : List.take t.net.length (List.map eWord t.net) = List.map eWord t.net := List.take_of_length_le (by simp)
  have e3 : (List.drop (i + 1) (List.map eWord t.net)).length = t.net.length - (i + 1) := by simp
  have l1 : i ≤ lim := by unfold lim; omega
  have l2 : i + (t.net.length - (i + 1)) ≤ lim := by unfold lim; omega
  have e4 : List.take i (List.map eWord t.net) ++ List.drop (i + 1) (List.map eWord t.net) = (offN t.net i).map eWord := by simp [offN, List.map_take, List.map_drop]
  have e5 : i + (t.net.length - (i + 1)) = (offN t.net i).length := by simp [offN]; omega
  simp only [F233, c233, go_sem, r0, r1, m4, m5, a6, hm, hA, hx, hi, hinc, h1, h2, h4, List.length_map, e1, e2, e3, l1, l2]
  refine ⟨6, 9022, 9023, 9024, ⟨?_, ?_⟩, [.agg (eWord x)], ?_, fun A => ?_⟩
  · simp only [go_sem, e5, hm]
  · have hB := hT0.2
    rw [e4]
    exact ⟨by simp only [go_sem], by simp only [go_sem]; exact hB.rb, by simp only [go_sem]; exact hB.rc, by simp only [go_sem]; exact hB.rd, by decide, by decide, by decide, by decide, by decide, by decide⟩
  · simp only [go_sem]
  · simp only [go_sem, eWord, mapO, toD_a, toDC_i, toDC_r, toDC_s]
structure TB (n : Nat) (t : Thr) : Prop where
  net : t.net.length ≤ 200
  word : ∀ x ∈ t.net, x.members.length ≤ 8 ∧ x.text.length ≤ n
  rep : ∀ k, k < 3 → (t.r k).members.length ≤ 8 ∧ (t.r k).acks.length ≤ 8 ∧ (t.r k).base.length ≤ n ∧ (t.r k).text.length ≤ n
  views : t.views.length ≤ n ∧ ∀ v ∈ t.views, v.members.length ≤ 8
  fx : t.fx.length ≤ 3 * n
  count : 0 ≤ t.count ∧ t.count ≤ n
theorem hear_len (r : Rep) (x : Word) : (hearR r x).2.length ≤ 1 := by
  unfold hearR shipR shipT
  repeat' split
  all_goals simp
def H234 (Pg : Nat → Option Fn) : Prop := Pg 234 = some (.codeR F234 0) ∧ H57 Pg ∧ H232 Pg
theorem K234 (h : H234 Pg) (t : Thr) (x : Word) (hx : x.members.length ≤ 1000) (hr : ∀ k, k < 3 → (t.r k).members.length ≤ 8 ∧ (t.r k).acks.length ≤ 8) (hn : t.net.length ≤ 200) :
    K' Pg 234 [.tuple (.lref 0 0 :: eThrT t), .agg (eWord x)] = some (.tuple [.tuple [], .tuple (eThrT (hearT t x))]) := by
  obtain ⟨h, h57, h232⟩ := h
  refine K'_thr [] (ws := []) h rfl rfl fun S0 ⟨r0, r, hT0, m0, a0⟩ => ?_
  have r1 := r 0
  have m3 := m0 3 rfl
  have m4 := m0 4 rfl
  simp only [get_z, Option.getD_some] at r1
  have hm := hT0.1
  simp only [go_sem] at r1 hm
  cases c1 : decide (x.to < 1) with
  | true =>
    have hT : hearT t x = t := by unfold hearT; rw [if_pos (.inl (of_decide_eq_true c1))]
    rw [hT]
    simp only [F234, c234, go_sem, r0, r1, m3, m4, hm, c1]
    exact ⟨_, _, _, _, hT0.set (by simp only [go_sem]) rfl, [], rfl, fun _ => rfl⟩
  | false =>
  cases c2 : decide (3 < x.to) with
  | true =>
    have hT : hearT t x = t := by unfold hearT; rw [if_pos (.inr (of_decide_eq_true c2))]
    rw [hT]
    simp only [F234, c234, go_sem, r0, r1, m3, m4, hm, c1, c2]
    exact ⟨_, _, _, _, hT0.set (by simp only [go_sem]) rfl, [], rfl, fun _ => rfl⟩
  | false =>
    have d1 := of_decide_eq_false c1
    have d2 := of_decide_eq_false c2
    have hk : (x.to - 1).toNat < 3 := by omega
    have hw : IntKind.i64.wrap (x.to - 1) = (((x.to - 1).toNat : Nat) : Int) := by rw [wrap64 (by omega) (by omega)]; omega
    have hT : hearT t x = { t with r := upd t.r (x.to - 1).toNat (hearR (t.r (x.to - 1).toNat) x).1, net := sayN t.net (hearR (t.r (x.to - 1).toNat) x).2 } := by
      unfold hearT; rw [if_neg (by omega)]
    rw [hT]
    generalize (x.to - 1).toNat = k at hk hw
    obtain ⟨b1, b2⟩ := hr k hk
    have k57 := K57 h57 (t.r k) x ⟨by omega, by omega⟩ (by omega) hx
    generalize hy : hearR (t.r k) x = y at k57
    obtain ⟨y1, y2⟩ := y
    have hlr := ld_rep (r := t.r) (v1 := .own 9021 7 t.net.length) (v2 := .own 9022 3 t.views.length) (v3 := .own 9023 1 t.fx.length) (v4 := .own 9024 1 t.fx.length) (v5 := iz t.count) hk
    have hle := le_rep hk
    simp only [go_sem] at k57 hlr
    have hle' : k * 7 + 7 ≤ 26 := by omega
    simp only [F234, c234, go_sem, r0, r1, m3, m4, hm, c1, c2, hw, hk, hlr, hle', k57]
    have hy2 : y2.length ≤ 1 := by have := hear_len (t.r k) x; rw [hy] at this; exact this
    have k232 := K232 h232 { t with r := upd t.r k y1 } y2 (by omega) hn
    refine wro_thr (n := 20000) (a := 9021) (b := 9022) (c := 9023) (d := 9024) k232 (by simp only [go_sem]) (hT0.2.of rfl rfl rfl) (fun x hx => a0 x (by omega)) (Nat.le_refl _) (fun A => rfl) rfl fun S' e1 e2 e3 e4 e5 => ?_
    simp only [go_sem]
    exact ⟨_, _, _, _, e3, [], rfl, fun _ => rfl⟩
theorem HT.headn {S : St} {v : Nat} {t : Thr} {a b c d : Nat} {Wv : List Nat} (h : HT S v t a b c d) (hv : Wv.contains v = false) : HT (S.head [] [] Wv []) v t a b c d := by
  refine ⟨?_, ?_⟩
  · show (if Wv.contains v then none else _) = _
    rw [hv]
    show (S.μ v).map _ = _
    rw [h.1]; rfl
  · have e : (S.head [] [] Wv []).A = S.A := by
      funext x
      show (if ([] : List Nat).contains x then none else S.A x) = S.A x
      simp
    rw [e]; exact h.2
def memN (k : Nat) (bits : Int) (i : Nat) : List Int := idOf k :: ([1, 2, 3].take i).filter (bitF k bits)
theorem memN_next {k : Nat} {bits : Int} {i : Nat} (hi : i < 3) : memN k bits (i + 1) = if bitF k bits ((i : Int) + 1) then memN k bits i ++ [(i : Int) + 1] else memN k bits i := by
  have : i = 0 ∨ i = 1 ∨ i = 2 := by omega
  rcases this with rfl | rfl | rfl <;> simp only [memN] <;> (split <;> rename_i h <;> cases h1 : bitF k bits 1 <;> cases h2 : bitF k bits 2 <;> simp_all [List.take, List.filter])
end Sg
namespace Sg
open _root_.Go (IntKind BinOp UnOp)
set_option linter.unusedSimpArgs false
set_option linter.unusedVariables false
set_option maxRecDepth 10000
variable {Pg : Nat → Option Fn}
theorem tell_first {views : List Told} {t : Told} (hne : ∀ v ∈ views, v.view = t.view → v.who ≠ t.who) : tellT views t = if views.any (fun v => decide (v.view = t.view)) then none else some t := by
  induction views with
  | nil => rfl
  | cons v vs ih =>
    simp only [tellT]
    by_cases h : v.view = t.view
    · rw [if_pos ⟨h, hne v (by simp) h⟩]; simp [h]
    · rw [if_neg (fun e => h e.1), if_neg h, ih (fun w hw => hne w (by simp [hw]))]; simp [h]
theorem lead_len (r : Rep) (v : Int) (l : List Int) (h1 : r.members.length ≤ 8) (h2 : l.length ≤ 8) : (leadR r v l).2.1.length ≤ 8 := by
  have sl : ∀ x : Rep, x.members.length ≤ 8 → (shipsR x).length ≤ 8 := fun x hx => by
    simp only [shipsR, List.length_map]
    exact Nat.le_trans (List.length_filter_le _ _) hx
  unfold leadR
  split
  · split
    · exact sl _ h1
    · split
      · simp
      · split
        · simp
        · exact sl _ h2
  · simp
def H235 (Pg : Nat → Option Fn) : Prop := Pg 235 = some (.codeR F235 0) ∧ H54 Pg ∧ H232 Pg
set_option maxHeartbeats 4000000 in
theorem K235 (h : H235 Pg) (t : Thr) (k : Nat) (bits : Int) (hk : k < 3) (hr : ∀ k, k < 3 → (t.r k).members.length ≤ 8 ∧ (t.r k).acks.length ≤ 8) (hn : t.net.length ≤ 200)
    (hv : 0 ≤ (t.r k).view ∧ (t.r k).view ≤ 1099511627776) (hvl : t.views.length ≤ 1000) (hne : ∀ v ∈ t.views, v.view = (t.r k).view + 1 → v.who ≠ (k : Int)) :
    K' Pg 235 [.tuple (.lref 0 0 :: eThrT t), iz k, iz bits] = some (.tuple [.tuple [], .tuple (eThrT (leadT t k bits))]) := by
  obtain ⟨h, h54, h232⟩ := h
  refine K'_thr [] (ws := []) h rfl rfl fun S0 ⟨r0, r, hT0, m0, a0⟩ => ?_
  have r1 := r 0
  have r2 := r 1
  simp only [get_z, get_s, Option.getD_some] at r1 r2
  have m6 := m0 6 rfl
  have m7 := m0 7 rfl
  have m10 := m0 10 rfl
  have m11 := m0 11 rfl
  have a26 := a0 26 (by omega)
  have hm := hT0.1
  have hlr := ld_rep (r := t.r) (v1 := .own 9021 7 t.net.length) (v2 := .own 9022 3 t.views.length) (v3 := .own 9023 1 t.fx.length) (v4 := .own 9024 1 t.fx.length) (v5 := iz t.count) hk
  simp only [go_sem] at hm hlr
  have hle : k * 7 + 7 ≤ 26 := by omega
  have w1 : IntKind.i64.wrap ((t.r k).view + 1) = (t.r k).view + 1 := wrap64 (by omega) (by omega)
  have w2 : IntKind.i64.wrap ((k : Int) + 1) = (k : Int) + 1 := wrap64 (by omega) (by omega)
  simp only [F235, c235, go_sem, r0, r1, r2, m6, m7, hm, hk, hlr, hle, w1, w2, a26]
  unfold l235_0
  refine wp_lp (fun (i : Nat) S => i ≤ 3 ∧ S.ρ 0 = .lref 0 0 ∧ S.ρ 1 = iz k ∧ S.ρ 2 = iz bits ∧ S.ρ 6 = .lref 6 0 ∧ S.ρ 7 = .lref 7 0 ∧ S.ρ 8 = iz ((i : Int) + 1) ∧ S.μ 6 = some (eRep (t.r k), false) ∧
    S.μ 7 = some ([iz ((t.r k).view + 1), iz k, .own 26 1 (memN k bits i).length], false) ∧ S.A 26 = some (1, (memN k bits i).map fun m => [iz m], .live) ∧ HT S 0 t 9021 9022 9023 9024 ∧ S.μ 10 = none ∧ S.μ 11 = none ∧ Fr S.A 20000) (fun i => 3 - i) 0 ?_ ?_
  · simp only [head_nil]
    refine ⟨by omega, by simp only [go_sem]; exact r0, by simp only [go_sem]; exact r1, by simp only [go_sem]; exact r2, by simp only [go_sem], by simp only [go_sem], rfl, by simp only [go_sem], rfl, rfl, ⟨by simp only [go_sem]; exact hm, ?_⟩, by simp only [go_sem, m10], by simp only [go_sem, m11], fun x hx => ?_⟩
    · have hB := hT0.2
      exact ⟨by simp only [go_sem]; exact hB.ra, by simp only [go_sem]; exact hB.rb, by simp only [go_sem]; exact hB.rc, by simp only [go_sem]; exact hB.rd, hB.rn⟩
    · show upd S0.A 26 _ x = none
      rw [upd_ne_ (by simp; omega)]
      exact a0 x (by omega)
  · intro i S ⟨hi, s0, s1, s2, s6, s7, s8, n6, n7, a26, hT, m10, m11, hF⟩
    have hinc : IntKind.i64.wrap ((i : Int) + 1 + 1) = ((i + 1 : Nat) : Int) + 1 := by rw [wrap64 (by omega) (by omega)]; omega
    have hsh : shV .shr (iz bits) (iz ((i : Int) + 1)) = some (iz (bits.fdiv (2 ^ (min ((i : Int) + 1).toNat 64)))) := by
      have : ¬ ((i : Int) + 1 < 0) := by omega
      simp only [shV, if_neg this]
      rfl
    cases c1 : decide ((i : Int) + 1 ≤ 3) with
    | false =>
      have hi3 : i = 3 := by have := of_decide_eq_false c1; omega
      have hmem : memN k bits i = bitsM k bits := by rw [hi3]; rfl
      rw [hmem] at n7 a26
      have hbl : (bitsM k bits).length ≤ 4 := by
        have := List.length_filter_le (bitF k bits) [1, 2, 3]
        simp only [bitsM, List.length_cons, List.length_nil] at this ⊢
        omega
      have hmv := hT.1
      simp only [go_sem] at hmv
      simp only [go_sem, s0, s1, s2, s6, s7, s8, n6, n7, c1, head_nil, hmv]
      unfold l235_1
      refine wp_lp (fun (j : Nat) S => j ≤ t.views.length ∧ (∀ v ∈ t.views.take j, v.view ≠ (t.r k).view + 1) ∧ S.ρ 0 = .lref 0 0 ∧ S.ρ 1 = iz k ∧ S.ρ 6 = .lref 6 0 ∧ S.ρ 7 = .lref 7 0 ∧ S.ρ 52 = .own 9022 3 t.views.length ∧ S.ρ 53 = iz t.views.length ∧ S.ρ 54 = iz j ∧
        S.μ 6 = some (eRep (t.r k), false) ∧ S.μ 7 = some ([iz ((t.r k).view + 1), iz k, .own 26 1 (bitsM k bits).length], false) ∧ S.A 26 = some (1, (bitsM k bits).map fun m => [iz m], .live) ∧ HT S 0 t 9021 9022 9023 9024 ∧ S.μ 10 = none ∧ S.μ 11 = none ∧ Fr S.A 20000) (fun j => t.views.length - j) 0 ?_ ?_
      · refine ⟨Nat.zero_le _, fun v hv => by simp at hv, head_ρs (by simp only [go_sem, s0]) rfl, head_ρs (by simp only [go_sem, s1]) rfl, head_ρs (by simp only [go_sem, s6]) rfl, head_ρs (by simp only [go_sem, s7]) rfl, by simp only [go_sem], head_ρs (by simp only [go_sem]) rfl, head_ρs (by simp only [go_sem]) rfl,
          head_μs n6 rfl rfl, by simp only [go_sem, n7], by rw [head_An]; exact a26, (hT.set rfl rfl).headn rfl, head_μn (.inl m10), head_μn (.inl m11), by rw [head_An]; exact hF⟩
      · intro j S ⟨hj, hpre, s0, s1, s6, s7, s52, s53, s54, n6, n7, a26, hT, m10, m11, hF⟩
        have hmv := hT.1
        have hAv := hT.2.rb
        simp only [go_sem] at hmv
        cases c5 : decide ((j : Int) < (t.views.length : Int)) with
        | true =>
          have hlt := lt_of c5
          obtain ⟨v, hvj, -⟩ := drop_at hlt
          have hincj : IntKind.i64.wrap ((j : Int) + 1) = ((j + 1 : Nat) : Int) := by rw [wrap64 (by omega) (by omega)]; omega
          have hvm := List.mem_of_getElem? hvj
          cases c6 : decide (v.view = (t.r k).view + 1) with
          | true =>
            have hwho : decide (v.who = (k : Int)) = false := decide_eq_false (hne v hvm (of_decide_eq_true c6))
            have hres : leadT t k bits = t := by
              unfold leadT
              rw [tell_first (fun u hu e => hne u hu e)]
              have : t.views.any (fun u => decide (u.view = (t.r k).view + 1)) = true := List.any_eq_true.2 ⟨v, hvm, c6⟩
              simp only [this, if_true]
            rw [hres]
            simp only [go_sem, s0, s1, s6, s7, s52, s53, s54, n6, n7, hmv, hAv, c5, c6, hwho, hvj, hlt, m10, List.length_map]
            exact ⟨_, _, _, _, hT.set (by simp only [go_sem]) rfl, [], rfl, fun _ => rfl⟩
          | false =>
            simp only [go_sem, s0, s1, s6, s7, s52, s53, s54, n6, n7, hmv, hAv, c5, c6, hvj, hlt, m10, List.length_map, hincj]
            refine ⟨j + 1, by omega, by omega, fun u hu => ?_, rfl, ?_⟩
            · rw [List.take_add_one, hvj] at hu
              rcases List.mem_append.1 hu with hu | hu
              · exact hpre u hu
              · have : u = v := by simpa using hu
                subst this; exact of_decide_eq_false c6
            · exact ⟨a26, (hT.set (by simp only [go_sem]) rfl).headn rfl, by rw [m11]; rfl, by rw [head_An]; exact hF⟩
        | false =>
          have hjl : j = t.views.length := by have := of_decide_eq_false c5; omega
          rw [hjl, List.take_length] at hpre
          have hres : tellT t.views ⟨(t.r k).view + 1, k, bitsM k bits⟩ = some ⟨(t.r k).view + 1, k, bitsM k bits⟩ := by
            rw [tell_first (fun u hu e => hne u hu e)]
            have : t.views.any (fun u => decide (u.view = (t.r k).view + 1)) = false := by
              rw [List.any_eq_false]
              intro u hu
              simpa using hpre u hu
            simp only [this, Bool.false_eq_true, if_false]
          have hlead : leadT t k bits = if (leadR (t.r k) ((t.r k).view + 1) (bitsM k bits)).2.2 = 0 then { t with views := t.views ++ [⟨(t.r k).view + 1, k, bitsM k bits⟩], r := upd t.r k (leadR (t.r k) ((t.r k).view + 1) (bitsM k bits)).1, net := sayN t.net (leadR (t.r k) ((t.r k).view + 1) (bitsM k bits)).2.1 } else t := by
            unfold leadT; rw [hres]
          rw [hlead]
          obtain ⟨b1, b2⟩ := hr k hk
          have k54 := K54 h54 (t.r k) ((t.r k).view + 1) (bitsM k bits) ⟨by omega, by omega⟩ (by omega) (by omega)
          generalize hy : leadR (t.r k) ((t.r k).view + 1) (bitsM k bits) = y at k54
          obtain ⟨y1, y2, y3⟩ := y
          simp only [go_sem] at k54
          cases c7 : decide (y3 = 0) with
          | false =>
            rw [if_neg (of_decide_eq_false c7)]
            simp only [go_sem, s0, s1, s6, s7, s52, s53, s54, n6, n7, hmv, c5, c7, m11, a26, k54, List.length_map]
            have hB := hT.2
            exact ⟨9021, 9022, 9023, 9024, ⟨by simp only [go_sem]; exact hT.1, ⟨by simp only [go_sem]; exact hB.ra, by simp only [go_sem]; exact hB.rb, by simp only [go_sem]; exact hB.rc, by simp only [go_sem]; exact hB.rd, hB.rn⟩⟩, [], rfl, fun _ => rfl⟩
          | true =>
            rw [if_pos (of_decide_eq_true c7)]
            have hlim : t.views.length + 1 ≤ lim := by unfold lim; omega
            have hy2 : y2.length ≤ 8 := by
              have := lead_len (t.r k) ((t.r k).view + 1) (bitsM k bits) b1 (by omega)
              rw [hy] at this; exact this
            have k232 := K232 h232 { t with r := upd t.r k y1, views := t.views ++ [⟨(t.r k).view + 1, k, bitsM k bits⟩] } y2 (by omega) hn
            simp only [go_sem, s0, s1, s6, s7, s52, s53, s54, n6, n7, hmv, hAv, c5, c7, m11, a26, k54, List.length_map, hlim, hk]
            have hB := hT.2
            refine wro_thr (n := 20000) (a := 9021) (b := 9022) (c := 9023) (d := 9024) k232 ?_ ?_ (fun x hx => ?_) (Nat.le_refl _) (fun A => rfl) rfl fun S' e1 e2 e3 e4 e5 => ?_
            · simp only [go_sem, List.length_append]
            · exact ⟨by simp only [go_sem]; exact hB.ra, by simp only [go_sem, List.map_append], by simp only [go_sem]; exact hB.rc, by simp only [go_sem]; exact hB.rd, hB.rn⟩
            · simp only []
              repeat rw [upd_ne_ (by simp; omega)]
              exact hF x hx
            · simp only [go_sem]
              exact ⟨_, _, _, _, e3, [], rfl, fun _ => rfl⟩
    | true =>
      have hi3 : i < 3 := by have := of_decide_eq_true c1; omega
      have hmn := memN_next (k := k) (bits := bits) hi3
      have done : ∀ {S' : St}, memN k bits (i + 1) = memN k bits i → S'.μ = S.μ → S'.A = S.A → HT S' 0 t 9021 9022 9023 9024 := fun _ e1 e2 => ⟨by rw [e1]; exact hT.1, by rw [e2]; exact hT.2⟩
      cases c2 : decide ((i : Int) + 1 = (k : Int) + 1) with
      | true =>
        have hf : bitF k bits ((i : Int) + 1) = false := by have := of_decide_eq_true c2; simp [bitF, idOf, this]
        rw [hf] at hmn
        simp only [go_sem, s0, s1, s2, s6, s7, s8, n6, n7, c1, c2, w2, hinc, head_nil, m10, m11]
        refine ⟨i + 1, by omega, by omega, rfl, by rw [hmn]; rfl, by rw [hmn]; exact a26, done hmn rfl rfl, hF⟩
      | false =>
      cases c3 : bitB bits ((i : Int) + 1) with
      | false =>
        have hf : bitF k bits ((i : Int) + 1) = false := by simp only [bitF, c3, Bool.and_false]
        rw [hf] at hmn
        simp only [bitB, go_sem] at c3
        simp only [go_sem, s0, s1, s2, s6, s7, s8, n6, n7, c1, c2, c3, w2, hinc, head_nil, hsh, m10, m11]
        refine ⟨i + 1, by omega, by omega, rfl, by rw [hmn]; rfl, by rw [hmn]; exact a26, done hmn rfl rfl, hF⟩
      | true =>
        have hf : bitF k bits ((i : Int) + 1) = true := by have := of_decide_eq_false c2; simp [bitF, idOf, c3, this]
        rw [hf, if_pos rfl] at hmn
        have hlim : (memN k bits i).length + 1 ≤ lim := by
          have : (memN k bits i).length ≤ 4 := by
            have h1 := List.length_filter_le (bitF k bits) ([1, 2, 3].take i)
            have h2 : ([1, 2, 3].take i : List Int).length ≤ 3 := by simp; omega
            simp only [memN, List.length_cons]
            omega
          unfold lim; omega
        simp only [bitB, go_sem] at c3
        simp only [go_sem, s0, s1, s2, s6, s7, s8, n6, n7, c1, c2, c3, w2, hinc, head_nil, hsh, m10, m11, a26, hlim, List.length_map]
        refine ⟨i + 1, by omega, by omega, rfl, by rw [hmn, List.length_append]; rfl, by rw [hmn, List.map_append]; rfl, ⟨by simp only [go_sem]; exact hT.1, ?_⟩, fun x hx => ?_⟩
        · have hB := hT.2
          exact ⟨by simp only [go_sem]; exact hB.ra, by simp only [go_sem]; exact hB.rb, by simp only [go_sem]; exact hB.rc, by simp only [go_sem]; exact hB.rd, hB.rn⟩
        · rw [upd_ne_ (by simp; omega)]; exact hF x hx
end Sg
namespace Sg
open _root_.Go (IntKind BinOp UnOp)
set_option linter.unusedSimpArgs false
set_option linter.unusedVariables false
set_option maxRecDepth 10000
variable {Pg : Nat → Option Fn}
structure BT (n : Nat) (t : Thr) : Prop where
  net : t.net.length ≤ 200
  word : ∀ x ∈ t.net, x.members.length ≤ 8 ∧ x.text.length ≤ n
  rep : ∀ k, k < 3 → (t.r k).base.length ≤ n ∧ (t.r k).text.length ≤ n
  views : t.views.length ≤ n
  vm : ∀ v ∈ t.views, v.members.length ≤ 8
  count : 0 ≤ t.count ∧ t.count ≤ n
theorem BT.le {n m : Nat} {t : Thr} (h : BT n t) (hm : n ≤ m) : BT m t :=
  ⟨h.net, fun x hx => ⟨(h.word x hx).1, Nat.le_trans (h.word x hx).2 hm⟩, fun k hk => ⟨Nat.le_trans (h.rep k hk).1 hm, Nat.le_trans (h.rep k hk).2 hm⟩, Nat.le_trans h.views hm, h.vm, by have := h.count; omega⟩
theorem BT.say {n : Nat} {t : Thr} (h : BT n t) {l : List Word} (hl : ∀ x ∈ l, x.members.length ≤ 8 ∧ x.text.length ≤ n) : BT n { t with net := sayN t.net l } :=
  ⟨sayN_len h.net, fun x hx => (sayN_mem hx).elim (h.word x) (hl x), h.rep, h.views, h.vm, h.count⟩
theorem BT.put {n : Nat} {t : Thr} (h : BT n t) {k : Nat} {x : Rep} (hx : x.base.length ≤ n ∧ x.text.length ≤ n) : BT n { t with r := upd t.r k x } :=
  ⟨h.net, h.word, fun j hj => by
    show (upd t.r k x j).base.length ≤ n ∧ (upd t.r k x j).text.length ≤ n
    unfold upd; split
    · exact hx
    · exact h.rep j hj, h.views, h.vm, h.count⟩
theorem BT.off {n : Nat} {t : Thr} (h : BT n t) (i : Nat) : BT n { t with net := offN t.net i } :=
  ⟨by
    show (offN t.net i).length ≤ 200
    have := h.net
    simp only [offN, List.length_append, List.length_take, List.length_drop]; omega, fun x hx => h.word x (offN_mem hx), h.rep, h.views, h.vm, h.count⟩
theorem fix_len2 {r : Rep} {n : Nat} (h : r.base.length ≤ n ∧ r.text.length ≤ n) : (fixR r).base.length ≤ n ∧ (fixR r).text.length ≤ n := by
  unfold fixR; split
  · exact ⟨h.2, h.2⟩
  · exact h
def FitW (n : Nat) (q : Rep × List Word) : Prop := (q.1.base.length ≤ n ∧ q.1.text.length ≤ n) ∧ ∀ y ∈ q.2, y.members.length ≤ 8 ∧ y.text.length ≤ n
theorem fitw_nil {n : Nat} {r : Rep} (h : r.base.length ≤ n ∧ r.text.length ≤ n) : FitW n (r, []) := ⟨h, fun y hy => by simp at hy⟩
theorem fitw_one {n : Nat} {r : Rep} {a b c d e : Int} (h : r.base.length ≤ n ∧ r.text.length ≤ n) : FitW n (r, [⟨a, b, c, d, e, [], []⟩]) :=
  ⟨h, fun y hy => by rw [List.mem_singleton] at hy; subst hy; exact ⟨by simp, by simp⟩⟩
theorem hear_fit {r : Rep} {x : Word} {n : Nat} (h : r.base.length ≤ n ∧ r.text.length ≤ n) (hx : x.text.length ≤ n) : FitW n (hearR r x) := by
  unfold hearR
  split
  rotate_left
  · exact fitw_nil h
  split
  rotate_left
  · exact fitw_nil h
  split
  · unfold shipR
    split
    · exact fitw_nil h
    split
    rotate_left
    · exact fitw_nil h
    split
    rotate_left
    · exact fitw_nil h
    split
    rotate_left
    · exact fitw_nil h
    unfold shipT
    split
    · exact fitw_one h
    split
    · exact fitw_nil h
    split
    · exact fitw_one ⟨hx, hx⟩
    · exact fitw_one h
  split
  · split
    · exact fitw_nil (fix_len2 h)
    · exact fitw_nil h
  split
  · split
    · exact fitw_nil ⟨h.2, h.2⟩
    · exact fitw_nil h
  · exact fitw_nil h
theorem BT.hear {n : Nat} {t : Thr} (h : BT n t) {x : Word} (hx : x.text.length ≤ n) : BT n (hearT t x) := by
  unfold hearT
  split
  · exact h
  · rename_i hn
    obtain ⟨h1, h2⟩ := hear_fit (h.rep _ (by omega : (x.to - 1).toNat < 3)) hx
    exact (h.put h1).say h2
theorem ships_fit {r : Rep} {n : Nat} (hm : r.members.length ≤ 8) (ht : r.text.length ≤ n) : ∀ x ∈ shipsR r, x.members.length ≤ 8 ∧ x.text.length ≤ n := fun x hx => by
  obtain ⟨z1, z2, z3, z4, z5, z6⟩ := ships_of hx
  rw [z5, z6]; exact ⟨hm, ht⟩
theorem fitw_zero {n : Nat} : FitW n (zeroRep, []) := fitw_nil ⟨by simp [zeroRep], by simp [zeroRep]⟩
theorem fit_propose {r : Rep} {n : Nat} {t : List UInt8} (hm : r.members.length ≤ 8) (hb : r.base.length ≤ n) (ht : t.length ≤ n) : FitW n ((proposeR r t).1, (proposeR r t).2.1) := by
  generalize hq : proposeR r t = q
  unfold proposeR at hq
  split at hq
  rotate_left
  · subst hq; exact fitw_zero
  split at hq
  rotate_left
  · subst hq; exact fitw_zero
  split at hq
  rotate_left
  · subst hq; exact fitw_zero
  split at hq
  · subst hq; exact fitw_zero
  subst hq
  exact ⟨fix_len2 ⟨hb, ht⟩, ships_fit hm ht⟩
theorem fit_lead {r : Rep} {n : Nat} {v : Int} {l : List Int} (hm : r.members.length ≤ 8) (hl : l.length ≤ 8) (h : r.base.length ≤ n ∧ r.text.length ≤ n) : FitW n ((leadR r v l).1, (leadR r v l).2.1) := by
  generalize hq : leadR r v l = q
  unfold leadR at hq
  split at hq
  rotate_left
  · subst hq; exact fitw_zero
  split at hq
  · subst hq; exact ⟨h, ships_fit hm h.2⟩
  split at hq
  · subst hq; exact fitw_zero
  split at hq
  · subst hq; exact fitw_zero
  subst hq
  exact ⟨⟨h.2, h.2⟩, ships_fit hl h.2⟩
theorem tell_len : ∀ {views : List Told} {t v : Told}, tellT views t = some v → (∀ u ∈ views, u.members.length ≤ 8) → t.members.length ≤ 8 → v.members.length ≤ 8
  | [], t, v, h, _, ht => by simp only [tellT, Option.some.injEq] at h; rw [← h]; exact ht
  | u :: us, t, v, h, hu, ht => by
    simp only [tellT] at h
    split at h
    · cases h
    · refine tell_len h (fun w hw => hu w (by simp [hw])) ?_
      split
      · exact hu u (by simp)
      · exact ht
theorem BT.prop {n : Nat} {t : Thr} (h : BT n t) {k : Nat} (hk : k < 3) (hm : (t.r k).members.length ≤ 8) : BT (n + 1) (propT t k) := by
  have h' : BT (n + 1) { t with count := t.count + 1 } := ⟨h.net, (h.le (Nat.le_succ n)).word, (h.le (Nat.le_succ n)).rep, Nat.le_succ_of_le h.views, h.vm, by have := h.count; simp only; omega⟩
  unfold propT
  obtain ⟨b1, b2⟩ := h.rep k hk
  have key := fit_propose (r := t.r k) (n := n + 1) (t := (t.r k).base ++ [letter (t.count + 1)]) hm (by omega) (by simp; omega)
  split
  · rename_i he
    exact (h'.put key.1).say key.2
  · exact h'
theorem BT.lead {n : Nat} {t : Thr} (h : BT n t) {k : Nat} (hk : k < 3) (hm : (t.r k).members.length ≤ 8) (bits : Int) : BT (n + 1) (leadT t k bits) := by
  have hs := h.le (Nat.le_succ n)
  unfold leadT
  split
  · exact hs
  rename_i v hv
  split
  · obtain ⟨b1, b2⟩ := hs.rep k hk
    have hvm : v.members.length ≤ 8 := tell_len hv hs.vm (by
      have := List.length_filter_le (bitF k bits) [1, 2, 3]
      simp only [bitsM, List.length_cons, List.length_nil] at this ⊢
      omega)
    have key := fit_lead (r := t.r k) (v := v.view) hm hvm ⟨b1, b2⟩
    have h2 : BT (n + 1) { t with views := t.views ++ [v] } := ⟨hs.net, hs.word, hs.rep, by have := h.views; simp; omega, fun u hu => (List.mem_append.1 hu).elim (hs.vm u) (fun hu => by rw [List.mem_singleton] at hu; subst hu; exact hvm), hs.count⟩
    exact (h2.put key.1).say key.2
  · exact hs
theorem u64_nn (n : Int) : 0 ≤ u64 n := by unfold u64; simp [IntKind.wrap, IntKind.bits, IntKind.signed]; omega
theorem mod_nat {n m : Int} (h : 0 ≤ n) (hm : 0 < m) : n.tmod m = ((n.tmod m).toNat : Int) ∧ n.tmod m < m := by
  have := Int.tmod_nonneg m h
  exact ⟨by omega, Int.tmod_lt_of_pos n hm⟩
theorem BT.act {g : Gh} {n : Nat} {t : Thr} (hi : IT g t) (h : BT n t) (a : Act14) : BT (n + 1) (actT t a) := by
  have hk := who_lt a.who
  have hs := h.le (Nat.le_succ n)
  unfold actT
  generalize ((u64 a.who).tmod 3).toNat = k at hk
  have hm := (hi.rk k hk).right.sm.1
  simp only
  split
  · exact h.prop hk hm
  split
  · refine hs.say fun x hx => ?_
    split at hx
    · exact ships_fit hm (hs.rep k hk).2 x hx
    · simp at hx
  split
  · exact h.lead hk hm _
  split
  · exact hs
  rename_i h0
  split
  · exact hs.off _
  split
  · split
    · rename_i x hx; exact hs.hear (hs.word x (List.mem_of_getElem? hx)).2
    · exact hs
  · split
    · rename_i x hx; exact (hs.off _).hear (hs.word x (List.mem_of_getElem? hx)).2
    · exact hs
end Sg
namespace Sg
open _root_.Go (IntKind BinOp UnOp)
set_option linter.unusedSimpArgs false
set_option linter.unusedVariables false
set_option maxRecDepth 10000
variable {Pg : Nat → Option Fn}
@[go_sem] def eAct (a : Act14) : List V := [iz a.kind, iz a.who, iz a.n]
def H229 (Pg : Nat → Option Fn) : Prop := Pg 229 = some (.codeR F229 0) ∧ H232 Pg ∧ H233 Pg ∧ H234 Pg ∧ H235 Pg ∧ H47 Pg ∧ H51 Pg
theorem ships_len8 {r : Rep} (h : r.members.length ≤ 8) : (shipsR r).length ≤ 8 := by
  simp only [shipsR, List.length_map]
  exact Nat.le_trans (List.length_filter_le _ _) h
theorem propose_len {r : Rep} {t : List UInt8} (hm : r.members.length ≤ 8) : (proposeR r t).2.1.length ≤ 8 := by
  generalize hq : proposeR r t = q
  unfold proposeR at hq
  split at hq
  rotate_left
  · subst hq; simp
  split at hq
  rotate_left
  · subst hq; simp
  split at hq
  rotate_left
  · subst hq; simp
  split at hq
  · subst hq; simp
  subst hq
  exact ships_len8 hm
set_option maxHeartbeats 4000000 in
theorem K229 (h : H229 Pg) {g : Gh} (t : Thr) (a : Act14) {n : Nat} (hit : IT g t) (hb : BT n t) (hn1 : n ≤ 1000) :
    K' Pg 229 [.tuple (.lref 0 0 :: eThrT t), .agg (eAct a)] = some (.tuple [.tuple [], .tuple (eThrT (actT t a))]) := by
  obtain ⟨h, h232, h233, h234, h235, h47, h51⟩ := h
  refine K'_thr [] (ws := []) h rfl rfl fun S0 ⟨r0, r, hT0, m0, a0⟩ => ?_
  have r1 := r 0
  simp only [get_z, Option.getD_some] at r1
  have m3 := m0 3 rfl
  have m6 := m0 6 rfl
  have hF : Fr S0.A 20000 := fun x hx => a0 x (by omega)
  have hm := hT0.1
  obtain ⟨k1, k2⟩ := mod_nat (u64_nn a.who) (show (0 : Int) < 3 by omega)
  have wk : IntKind.i64.wrap ((IntKind.u64.wrap a.who).tmod 3) = (((u64 a.who).tmod 3).toNat : Int) := by
    rw [wrap64 (by show _ ≤ (u64 a.who).tmod 3; omega) (by show (u64 a.who).tmod 3 ≤ _; omega)]; exact k1
  have hk : ((u64 a.who).tmod 3).toNat < 3 := by omega
  unfold actT
  generalize ((u64 a.who).tmod 3).toNat = k at hk wk
  clear k1 k2
  have hrk := (hit.rk k hk).right
  have hlr := ld_rep (r := t.r) (v1 := .own 9021 7 t.net.length) (v2 := .own 9022 3 t.views.length) (v3 := .own 9023 1 t.fx.length) (v4 := .own 9024 1 t.fx.length) (v5 := iz t.count) hk
  have hle : k * 7 + 7 ≤ 26 := by omega
  have okk : ∀ k, k < 3 → (t.r k).members.length ≤ 8 ∧ (t.r k).acks.length ≤ 8 := fun k hk => ⟨(hit.rk k hk).right.sm.1, (hit.rk k hk).right.sa.1⟩
  obtain ⟨ok1, ok2⟩ := okk k hk
  simp only [go_sem] at hm hlr
  unfold u64
  cases c1 : decide ((IntKind.u64.wrap a.kind).tmod 12 < 3) with
  | true =>
    have d1 := of_decide_eq_true c1
    simp only [d1, if_true]
    unfold propT
    have k47 := K47 h47 (t.r k) ((t.r k).base ++ [letter (t.count + 1)]) ⟨by omega, by omega⟩ (by omega)
    have fp := propose_len (r := t.r k) (t := (t.r k).base ++ [letter (t.count + 1)]) ok1
    generalize hy : proposeR (t.r k) ((t.r k).base ++ [letter (t.count + 1)]) = y at k47 fp
    obtain ⟨y1, y2, y3⟩ := y
    have wc : IntKind.i64.wrap (t.count + 1) = t.count + 1 := by have := hb.count; exact wrap64 (by omega) (by omega)
    obtain ⟨l1, l2⟩ := mod_nat (n := t.count + 1) (by have := hb.count; omega) (show (0 : Int) < 26 by omega)
    have wl : IntKind.i64.wrap (97 + (t.count + 1).tmod 26) = 97 + (t.count + 1).tmod 26 := wrap64 (by omega) (by omega)
    have lb : (t.r k).base.length + 1 ≤ 4611686018427387904 := by have := (hb.rep k hk).1; omega
    have hlr := ld_rep (r := t.r) (v1 := .own 9021 7 t.net.length) (v2 := .own 9022 3 t.views.length) (v3 := .own 9023 1 t.fx.length) (v4 := .own 9024 1 t.fx.length) (v5 := iz (t.count + 1)) hk
    have hlb := ld_base (r := t.r) (v1 := .own 9021 7 t.net.length) (v2 := .own 9022 3 t.views.length) (v3 := .own 9023 1 t.fx.length) (v4 := .own 9024 1 t.fx.length) (v5 := iz (t.count + 1)) hk
    simp only [go_sem, letter] at k47 hlb hlr
    have c1' := c1
    cases c2 : decide (y3 = 0) with
    | false =>
      simp only [of_decide_eq_false c2, if_false]
      simp only [F229, c229, go_sem, r0, r1, m3, m6, hm, wk, c1', hk, hlr, hlb, hle, wc, wl, lb, k47, c2]
      exact ⟨_, _, _, _, ⟨by simp only [go_sem], hT0.2.of rfl rfl rfl⟩, [], rfl, fun _ => rfl⟩
    | true =>
      simp only [of_decide_eq_true c2, if_true]
      simp only [F229, c229, go_sem, r0, r1, m3, m6, hm, wk, c1', hk, hlr, hlb, hle, wc, wl, lb, k47, c2]
      have k232 := K232 h232 { t with count := t.count + 1, r := upd t.r k y1 } y2 (by have : y2.length ≤ 8 := fp; omega) hb.net
      refine wro_thr (n := 20000) (a := 9021) (b := 9022) (c := 9023) (d := 9024) k232 (by simp only [go_sem]) (hT0.2.of rfl rfl rfl) hF (Nat.le_refl _) (fun A => rfl) rfl fun S' e1 e2 e3 e4 e5 => ?_
      simp only [go_sem]
      exact ⟨_, _, _, _, e3, [], rfl, fun _ => rfl⟩
  | false =>
    have d1 := of_decide_eq_false c1
    simp only [d1, if_false]
    cases c2 : decide ((IntKind.u64.wrap a.kind).tmod 12 = 10) with
    | true =>
      have d2 := of_decide_eq_true c2
      have k51 := K51 h51 (t.r k) ⟨by omega, by omega⟩ (by omega)
      have hl8 : (if busyR (t.r k) then shipsR (t.r k) else []).length ≤ 8 := by
        split
        · exact ships_len8 ok1
        · simp
      simp only [d2, if_true]
      generalize (if busyR (t.r k) then shipsR (t.r k) else []) = l at k51 hl8
      simp only [go_sem] at k51
      simp only [F229, c229, go_sem, r0, r1, m3, m6, hm, wk, c1, c2, hk, hlr, hle, k51]
      have k232 := K232 h232 t l (by omega) hb.net
      refine wro_thr (n := 20000) (a := 9021) (b := 9022) (c := 9023) (d := 9024) k232 (by simp only [go_sem, hm]) (hT0.2.of rfl rfl rfl) hF (by omega) (fun A => rfl) rfl fun S' e1 e2 e3 e4 e5 => ?_
      simp only [go_sem]
      exact ⟨_, _, _, _, e3, [], rfl, fun _ => rfl⟩
    | false =>
    have d2 := of_decide_eq_false c2
    simp only [d2, if_false]
    cases c3 : decide ((IntKind.u64.wrap a.kind).tmod 12 = 11) with
    | true =>
      have d3 := of_decide_eq_true c3
      simp only [d3, if_true]
      obtain ⟨l1, l2⟩ := mod_nat (u64_nn a.n) (show (0 : Int) < 16 by omega)
      have wb : IntKind.i64.wrap ((IntKind.u64.wrap a.n).tmod 16) = (IntKind.u64.wrap a.n).tmod 16 := wrap64 (by show _ ≤ (u64 a.n).tmod 16; omega) (by show (u64 a.n).tmod 16 ≤ _; omega)
      simp only [F229, c229, go_sem, r0, r1, m3, m6, hm, wk, c1, c2, c3, hk, hlr, hle, wb]
      have k235 := K235 h235 t k ((IntKind.u64.wrap a.n).tmod 16) hk okk hb.net hrk.view (by have := hb.views; omega) (fun u hu e e' => by
        obtain ⟨a1, a2, a3⟩ := hit.viewk u hu
        have : g.who u.view = k := by omega
        have h2 := hit.told u.view (by omega) a2
        rw [this, e] at h2
        omega)
      refine wro_thr (n := 20000) (a := 9021) (b := 9022) (c := 9023) (d := 9024) k235 (by simp only [go_sem, hm]) (hT0.2.of rfl rfl rfl) hF (by omega) (fun A => rfl) rfl fun S' e1 e2 e3 e4 e5 => ?_
      simp only [go_sem]
      exact ⟨_, _, _, _, e3, [], rfl, fun _ => rfl⟩
    | false =>
    have d3 := of_decide_eq_false c3
    simp only [d3, if_false]
    split
    · rename_i hnet
      have hl0 : decide ((t.net.length : Int) = 0) = true := by rw [hnet]; rfl
      simp only [F229, c229, go_sem, r0, r1, m3, m6, hm, wk, c1, c2, c3, hk, hlr, hle, hl0]
      exact ⟨_, _, _, _, hT0.set (by simp only [go_sem]) rfl, [], rfl, fun _ => rfl⟩
    rename_i hnet
    have hL : 0 < t.net.length := by
      cases hc : t.net with
      | nil => exact absurd hc hnet
      | cons w ws => simp
    have hL2 := hb.net
    have hl0 : decide ((t.net.length : Int) = 0) = false := decide_eq_false (by omega)
    have hl1 : ¬ (t.net.length : Int) = 0 := by omega
    have hra := hT0.2.ra
    obtain ⟨l1, l2⟩ := mod_nat (u64_nn a.n) (show (0 : Int) < t.net.length by omega)
    have wL : IntKind.u64.wrap (t.net.length : Int) = t.net.length := by simp [IntKind.wrap, IntKind.bits, IntKind.signed]; omega
    have hi : ((IntKind.u64.wrap a.n).tmod t.net.length).toNat < t.net.length := by
      show ((u64 a.n).tmod t.net.length).toNat < _; omega
    have wi : IntKind.i64.wrap ((IntKind.u64.wrap a.n).tmod t.net.length) = (((IntKind.u64.wrap a.n).tmod t.net.length).toNat : Int) := by
      rw [wrap64 (by show _ ≤ (u64 a.n).tmod _; omega) (by show (u64 a.n).tmod _ ≤ _; omega)]; exact l1
    have we : (IntKind.u64.wrap a.n).tmod t.net.length = (((IntKind.u64.wrap a.n).tmod t.net.length).toNat : Int) := l1
    generalize hii : ((IntKind.u64.wrap a.n).tmod t.net.length).toNat = i at hi wi we
    obtain ⟨x, hx, -⟩ := drop_at hi
    have hgx : t.net.getD i ⟨0, 0, 0, 0, 0, [], []⟩ = x := by simp [List.getD_eq_getElem?_getD, hx]
    have hxm := List.mem_of_getElem? hx
    have hx8 := (hb.word x hxm).1
    have k233 := K233 h233 t i hi hb.net
    rw [hgx] at k233
    cases c4 : decide ((IntKind.u64.wrap a.kind).tmod 12 = 8) with
    | true =>
      have d4 := of_decide_eq_true c4
      simp only [d4, if_true]
      simp only [F229, c229, go_sem, r0, r1, m3, m6, hm, wk, c1, c2, c3, c4, hk, hlr, hle, hl0, hl1, wL, wi]
      refine wro_thr (n := 20000) (a := 9021) (b := 9022) (c := 9023) (d := 9024) k233 (by simp only [go_sem, hm]) (hT0.2.of rfl rfl rfl) hF (by omega) (fun A => rfl) rfl fun S' e1 e2 e3 e4 e5 => ?_
      simp only [go_sem]
      exact ⟨_, _, _, _, e3, [], rfl, fun _ => rfl⟩
    | false =>
    have d4 := of_decide_eq_false c4
    simp only [d4, if_false]
    cases c5 : decide ((IntKind.u64.wrap a.kind).tmod 12 = 9) with
    | true =>
      have d5 := of_decide_eq_true c5
      simp only [d5, if_true, hx]
      simp only [F229, c229, go_sem, r0, r1, m3, m6, hm, wk, c1, c2, c3, c4, c5, hk, hlr, hle, hl0, hl1, wL, we, hi, hra, hx, List.length_map]
      have k234 := K234 h234 t x (by omega) okk hb.net
      refine wro_thr (n := 20000) (a := 9021) (b := 9022) (c := 9023) (d := 9024) k234 (by simp only [go_sem, hm]) (hT0.2.of rfl rfl rfl) hF (by omega) (fun A => by simp only [mapO, toD_a, toDC_i, toDC_r, toDC_s, eWord, go_sem]) rfl fun S' e1 e2 e3 e4 e5 => ?_
      simp only [go_sem]
      exact ⟨_, _, _, _, e3, [], rfl, fun _ => rfl⟩
    | false =>
    have d5 := of_decide_eq_false c5
    simp only [d5, if_false, hx]
    simp only [F229, c229, go_sem, r0, r1, m3, m6, hm, wk, c1, c2, c3, c4, c5, hk, hlr, hle, hl0, hl1, wL, wi]
    have hbo := hb.off i
    have k234 := K234 h234 { t with net := offN t.net i } x (by omega) okk hbo.net
    refine wro_thr (n := 20000) (a := 9021) (b := 9022) (c := 9023) (d := 9024) k233 (by simp only [go_sem, hm]) (hT0.2.of rfl rfl rfl) hF (by omega) (fun A => rfl) rfl fun S' e1 e2 e3 e4 e5 => ?_
    have hm1 := e3.1
    simp only [go_sem]
    refine wro_thr (n := 20525) (a := 20521) (b := 20522) (c := 20523) (d := 20524) k234 (by simp only [go_sem, hm1]) e3.2 e4 (by omega) (fun A => by simp only [mapO, toD_a, toDC_i, toDC_r, toDC_s, eWord, go_sem]) rfl fun S'' f1 f2 f3 f4 f5 => ?_
    simp only [go_sem]
    exact ⟨_, _, _, _, f3, [], rfl, fun _ => rfl⟩
end Sg
namespace Sg
open _root_.Go (IntKind BinOp UnOp)
set_option linter.unusedSimpArgs false
set_option linter.unusedVariables false
set_option maxRecDepth 10000
variable {Pg : Nat → Option Fn}
end Sg
namespace Sg
open _root_.Go (IntKind BinOp UnOp)
set_option linter.unusedSimpArgs false
set_option linter.unusedVariables false
set_option maxRecDepth 10000
variable {Pg : Nat → Option Fn}
@[go_sem] def eActs (l : List Act14) : V := .slice 3 (l.map eAct)
def tI (i : Nat) : Thr := ⟨fun k => if k < i ∨ 3 ≤ k then r0 k else zeroRep, [], [], [], 0⟩
theorem tI_s {i : Nat} : (tI (i + 1)).r = upd (tI i).r i (r0 i) := by
  funext k
  simp only [tI, upd]
  by_cases h1 : k = i
  · subst h1; simp
  · by_cases h2 : k < i ∨ 3 ≤ k
    · rw [if_pos (by omega), if_neg h1, if_pos h2]
    · rw [if_neg (by omega), if_neg h1, if_neg h2]
theorem tI_3 : tI 3 = ⟨r0, [], [], [], 0⟩ := by
  have : (fun k => if k < 3 ∨ 3 ≤ k then r0 k else zeroRep) = r0 := by funext k; rw [if_pos (by omega)]
  unfold tI; rw [this]
theorem tI_it : IT ⟨1, fun _ => 0, fun _ => [1, 2, 3], fun _ => 1, fun _ => 1, fun _ _ => []⟩ (tI 3) ∧ LastT ⟨1, fun _ => 0, fun _ => [1, 2, 3], fun _ => 1, fun _ => 1, fun _ _ => []⟩ (tI 3) ∧ BT 0 (tI 3) := by
  rw [tI_3]
  refine ⟨Inv1.init, ⟨rfl, rfl⟩, by simp, fun x hx => by simp at hx, fun k hk => by simp [r0], by simp, fun v hv => by simp at hv, by simp⟩
theorem new_k {k : Nat} (hk : k < 3) : newR ((k : Int) + 1) [1, 2, 3] [] = (r0 k, 0) := by
  rcases k3 hk with rfl | rfl | rfl <;> rfl
theorem HT.head3 {S : St} {t : Thr} {a b c d : Nat} {Wa : List Nat} {m : Nat} (hmm : 10325 ≤ m) (hT : HT S 3 t a b c d) (hw : Wa.contains 10321 = false ∧ Wa.contains 10322 = false ∧ Wa.contains 10323 = false ∧ Wa.contains 10324 = false)
    (ha : ∀ y ∈ [a, b, c, d], y < m ∨ Wa.contains y = true) (hF : ∀ x, m ≤ x → Wa.contains x = false → S.A x = none) :
    HT (S.head [] [3, 21, 10321, 3, 22, 10322, 3, 23, 10323, 3, 24, 10324] [] Wa) 3 t 10321 10322 10323 10324 ∧ Fr (S.head [] [3, 21, 10321, 3, 22, 10322, 3, 23, 10323, 3, 24, 10324] [] Wa).A m := by
  obtain ⟨q1, q2, q3⟩ := HT.head (h1 := 10321) (h2 := 10322) (h3 := 10323) (h4 := 10324) (Wv := []) (Wa := Wa) hT ⟨by decide, by decide, by decide, by decide, by decide, by decide⟩ rfl hw
  refine ⟨q1, fun x hx => ?_⟩
  cases hc : Wa.contains x with
  | true => exact q2 x hc
  | false =>
    refine q3 x (fun hm => ?_) (hF x hx hc)
    have hm : x ∈ [a, b, c, d] ∨ x ∈ [10321, 10322, 10323, 10324] := by
      have : x ∈ [a, b, c, d] ++ [10321, 10322, 10323, 10324] := hm
      exact List.mem_append.1 this
    rcases hm with hm | hm
    · rcases ha x hm with h | h
      · omega
      · rw [hc] at h; cases h
    · simp at hm; omega
end Sg
namespace Sg
open _root_.Go
set_option linter.unusedSimpArgs false
set_option linter.unusedVariables false
abbrev tAct14 : List CT := [.int .i64, .int .i64, .int .i64]
theorem row_Act14 {N : Nat} {xs : List V} (h : HasRowN N tAct14 xs) : ∃ s, xs = eAct s := by
  obtain ⟨hl, hj⟩ := h
  match xs, hl with
  | [x0, x1, x2], _ =>
    obtain ⟨y0, h0, -⟩ := has_int (hj 0 (by simp))
    obtain ⟨y1, h1, -⟩ := has_int (hj 1 (by simp))
    obtain ⟨y2, h2, -⟩ := has_int (hj 2 (by simp))
    simp [gv] at h0 h1 h2
    subst h0; subst h1; subst h2
    exact ⟨⟨y0, y1, y2⟩, rfl⟩
theorem has_Act14s {N : Nat} {x : V} (h : HasN N (.slice tAct14) x) : ∃ l, x = eActs l ∧ l.length ≤ N := by
  obtain ⟨rows, rfl, hl, hr⟩ := has_slice h
  obtain ⟨l, rfl, -⟩ := rows_enc (enc := eAct) (Q := fun _ => True) (fun row hrow => by obtain ⟨v, hv⟩ := row_Act14 (hr row hrow); exact ⟨v, hv, trivial⟩)
  exact ⟨l, rfl, by simpa using hl⟩
theorem arg_Act14s {N : Nat} {x : V} (h : ArgVN N (false, [.slice tAct14]) x) : ∃ l, x = eActs l ∧ l.length ≤ N := by
  obtain ⟨c, hc, h⟩ := h
  simp only [List.cons.injEq, and_true] at hc
  subst hc
  exact has_Act14s h
end Sg
namespace Sg
open _root_.Go (IntKind BinOp UnOp)
set_option linter.unusedSimpArgs false
set_option linter.unusedVariables false
set_option maxRecDepth 10000
variable {Pg : Nat → Option Fn}
theorem top231 {g : Gh} {t : Thr} (h40 : H40 Pg) (hit : IT g t) (hl : LastT g t) {S : St} {Q : Ex → St → Prop} (s3 : S.ρ 3 = .lref 3 0) (s8 : S.ρ 8 = iz 0) (s46 : S.ρ 46 = iz 0) (hT : HT S 3 t 10321 10322 10323 10324)
    (hq : ∀ S', S'.ρ 3 = .lref 3 0 → S'.ρ 8 = iz (g.who g.V) → S'.μ = S.μ → S'.A = S.A → Q .norm S') : Wp (K' Pg) l231_2 S (Blk 4 Q) := by
  have hV1 := hit.gk.V1
  have hw := hit.gk.who g.V hV1 (Int.le_refl _)
  unfold l231_2
  refine wp_lp (fun (i : Nat) S' => i ≤ 3 ∧ S'.ρ 3 = .lref 3 0 ∧ S'.ρ 46 = iz i ∧ S'.μ = S.μ ∧ S'.A = S.A ∧ ∃ T : Nat, T < 3 ∧ S'.ρ 8 = iz T ∧ (g.who g.V < i → T = g.who g.V)) (fun i => 3 - i) 0 ?_ ?_
  · simp only [head_nil]
    exact ⟨Nat.zero_le _, s3, s46, trivial, trivial, 0, by omega, s8, fun h => by omega⟩
  · intro i S' ⟨hi, s3, s46, hμ, hA, T, hT3, s8, hTw⟩
    have hm : S'.μ 3 = some (eThrO t 10321 10322 10323 10324, false) := by rw [hμ]; exact hT.1
    cases c1 : decide ((i : Int) < 3) with
    | false =>
      have hi3 : i = 3 := by have := of_decide_eq_false c1; omega
      subst hi3
      simp only [go_sem, s3, s46, s8, c1]
      refine hq _ ?_ ?_ hμ hA
      · simp only [go_sem, s3]
      · simp only [go_sem, s8, hTw hw]
    | true =>
      have hi3 : i < 3 := by have := of_decide_eq_true c1; omega
      have hinc : IntKind.i64.wrap ((i : Int) + 1) = ((i + 1 : Nat) : Int) := by rw [wrap64 (by omega) (by omega)]; omega
      have hlr := ld_rep (r := t.r) (v1 := .own 10321 7 t.net.length) (v2 := .own 10322 3 t.views.length) (v3 := .own 10323 1 t.fx.length) (v4 := .own 10324 1 t.fx.length) (v5 := iz t.count) hi3
      have hli := ld_view (r := t.r) (v1 := .own 10321 7 t.net.length) (v2 := .own 10322 3 t.views.length) (v3 := .own 10323 1 t.fx.length) (v4 := .own 10324 1 t.fx.length) (v5 := iz t.count) hi3
      have hlT := ld_view (r := t.r) (v1 := .own 10321 7 t.net.length) (v2 := .own 10322 3 t.views.length) (v3 := .own 10323 1 t.fx.length) (v4 := .own 10324 1 t.fx.length) (v5 := iz t.count) hT3
      have hle : i * 7 + 7 ≤ 26 := by omega
      have hRP := (hit.rk i hi3).right
      have hrt := (right_iff _).2 hRP
      have k40 := K40 h40 (t.r i) ⟨by have := hRP.sm.1; omega, by have := hRP.sa.1; omega⟩
      simp only [go_sem] at hm hlr k40 hli hlT
      -- is it the one?
      have yes : ∀ b : Bool, b = (decide ((t.r T).view < (t.r i).view) || (decide ((t.r i).view = (t.r T).view) && leadsR (t.r i))) → (g.who g.V < i + 1 → (if b then i else T) = g.who g.V) := by
        intro b hb h
        by_cases e : g.who g.V = i
        · have : b = true := by
            rw [hb]
            have h1 := hl.1
            have h2 := hl.2
            rw [e] at h1 h2
            have h3 := (hit.rk T hT3).view.2
            simp only [h1, Bool.and_true, Bool.or_eq_true, decide_eq_true_eq]
            omega
          rw [this, if_pos rfl, e]
        · have h' : g.who g.V < i := by omega
          have hTT := hTw h'
          have : b = false := by
            rw [hb]
            have h2 := hl.2
            rw [← hTT] at h2
            have h3 := (hit.rk i hi3).view.2
            have e1 : decide ((t.r T).view < (t.r i).view) = false := decide_eq_false (by omega)
            rw [e1, Bool.false_or]
            cases hle : leadsR (t.r i) with
            | false => simp
            | true =>
              have := ((hit.rk i hi3).who hit.gk hle).1
              have hne : ¬ (t.r i).view = (t.r T).view := fun e' => by
                rw [e', h2] at this; omega
              simp [hne]
          rw [this]; exact hTT
      cases c2 : decide ((t.r T).view < (t.r i).view) with
      | true =>
        simp only [go_sem, s3, s46, s8, hm, hi3, hT3, hlr, hle, hli, hlT, c1, c2, hinc, head_nil]
        exact ⟨i + 1, by omega, by omega, rfl, hμ, hA, i, hi3, rfl, fun h => yes true (by simp [c2]) h⟩
      | false =>
      cases c3 : decide ((t.r i).view = (t.r T).view) with
      | false =>
        simp only [go_sem, s3, s46, s8, hm, hi3, hT3, hlr, hle, hli, hlT, c1, c2, c3, hinc, head_nil]
        exact ⟨i + 1, by omega, by omega, rfl, hμ, hA, T, hT3, rfl, fun h => yes false (by simp [c2, c3]) h⟩
      | true =>
      cases c4 : leadsR (t.r i) with
      | false =>
        simp only [go_sem, s3, s46, s8, hm, hi3, hT3, hlr, hle, hli, hlT, c1, c2, c3, c4, hrt, k40, hinc, head_nil]
        exact ⟨i + 1, by omega, by omega, rfl, hμ, hA, T, hT3, rfl, fun h => yes false (by simp [c2, c3, c4]) h⟩
      | true =>
        simp only [go_sem, s3, s46, s8, hm, hi3, hT3, hlr, hle, hli, hlT, c1, c2, c3, c4, hrt, k40, hinc, head_nil]
        exact ⟨i + 1, by omega, by omega, rfl, hμ, hA, i, hi3, rfl, fun h => yes true (by simp [c2, c3, c4]) h⟩
theorem hand_thn {A : AA} {t : Thr} {b c d : Nat} (hb : A b = some (3, t.views.map eTold, .live)) (hc : A c = some (1, t.fx.map (fun f => [.str f.text]), .live)) (hd : A d = some (1, t.fx.map (fun f => [iz f.at_]), .live))
    (n : b ≠ c ∧ b ≠ d ∧ c ≠ d) :
    handL (eThrG t.r (.nslice 7) (.own b 3 t.views.length) (.own c 1 t.fx.length) (.own d 1 t.fx.length) (iz t.count)) A = some (eThrT { t with net := [] }, upd (upd (upd A b (some (3, [], .dead))) c (some (1, [], .dead))) d (some (1, [], .dead))) := by
  obtain ⟨n4, n5, n6⟩ := n
  have u2 : upd A b (some (3, [], .dead)) c = some (1, t.fx.map (fun f => [.str f.text]), .live) := by simp [upd, Ne.symm n4, hc]
  have u3 : upd (upd A b (some (3, [], .dead))) c (some (1, [], .dead)) d = some (1, t.fx.map (fun f => [iz f.at_]), .live) := by simp [upd, Ne.symm n5, Ne.symm n6, hd]
  unfold eThrG
  rw [hand_dat (rep_dat _) (rep_ns _), hand_dat (rep_dat _) (rep_ns _), hand_dat (rep_dat _) (rep_ns _)]
  simp only [hand_cons, hand_nil, handC_ns, handC_o, hb, hdo_s, List.length_map, if_true, Option.bind_some, u2, u3, handC_i, Option.map_some]
  rfl
theorem wro_thn {κ : Nat → List V → Option V} {dst : Option Nat} {gl : Bool} {ops : List Op} {i : Nat} {e : Nat → V} {Q : St → Prop} {S : St} {f v p n : Nat} {rest : List V} {t t' : Thr} {b c d : Nat} {r : V}
    (hκ : κ f (.tuple (.lref 0 0 :: eThrT { t with net := [] }) :: rest) = some (.tuple [r, .tuple (eThrT t')]))
    (hm : S.μ v = some (eThrG t.r (.nslice 7) (.own b 3 t.views.length) (.own c 1 t.fx.length) (.own d 1 t.fx.length) (iz t.count), false))
    (hb : S.A b = some (3, t.views.map eTold, .live)) (hc : S.A c = some (1, t.fx.map (fun f => [.str f.text]), .live)) (hd' : S.A d = some (1, t.fx.map (fun f => [iz f.at_]), .live)) (nn : b ≠ c ∧ b ≠ d ∧ c ≠ d) (hn : Fr S.A n) (hp : n ≤ p)
    (hd : ∀ A, mapO (toD A) rest = some rest) (hs : rest.flatMap sitesV = [])
    (hq : ∀ S', S'.ρ = S.ρ → (∀ i, (i == v) = false → S'.μ i = S.μ i) → HT S' v t' (p + 21) (p + 22) (p + 23) (p + 24) → Fr S'.A (p + 25) → (∀ i, i < p + 21 → S.A i = none → S'.A i = none) →
      Wr κ ops (i + 1) (upd e i r) (putS gl dst S' r) Q) :
    WrO κ dst gl ops i e Q (rcallV κ p S f 0 v (.lref v 0 :: rest)) := by
  have lt : ∀ {x y}, S.A x = some y → x < n := fun {x y} hx => by
    rcases Nat.lt_or_ge x n with h' | h'
    · exact h'
    · rw [hn x h'] at hx; cases hx
  have lb := lt hb
  have lc := lt hc
  have ld := lt hd'
  have free : ∀ q, n ≤ q → (upd (upd (upd S.A b (some (3, [], .dead))) c (some (1, [], .dead))) d (some (1, [], .dead)) : AA) q = none := fun q hq => by
    simp only [upd]
    rw [if_neg (by omega), if_neg (by omega), if_neg (by omega)]
    exact hn q hq
  have hA : rcallA S 0 v (.lref v 0 :: rest) = some (.tuple (.lref 0 0 :: eThrT { t with net := [] }) :: rest, upd (upd (upd S.A b (some (3, [], .dead))) c (some (1, [], .dead))) d (some (1, [], .dead))) := by
    simp only [rcallA_e, get_z, rcA1_l, List.set_cons_zero, mapO, toD_u, hd, Option.bind_some, hm, rcA2_s, flat_cons, sites_u, hs, List.nil_append, frz_nil, hand_thn hb hc hd' nn]
  have e1 : rcallV κ p S f 0 v (.lref v 0 :: rest) = some (r, ⟨S.ρ, upd S.μ v (some (eThrO t' (p + 21) (p + 22) (p + 23) (p + 24), false)), upd (upd (upd (upd (upd (upd (upd S.A b (some (3, [], .dead))) c (some (1, [], .dead))) d (some (1, [], .dead))) (p + 21) (some (7, t'.net.map eWord, .live))) (p + 22) (some (3, t'.views.map eTold, .live))) (p + 23) (some (1, t'.fx.map (fun f => [V.str f.text]), .live))) (p + 24) (some (1, t'.fx.map (fun f => [iz f.at_]), .live))⟩) := by
    rw [rcall_e, hA]; simp only [Option.bind_some, hκ, rcallE_t]; rw [take_thr (free _ (by omega)) (free _ (by omega)) (free _ (by omega)) (free _ (by omega))]; rfl
  rw [e1]
  refine hq _ rfl (fun i hi => by simp only [upd_ne_ hi]) ⟨by simp [upd], arr_put⟩ (fun x hx => ?_) (fun i hi h0 => ?_)
  · simp only [upd]
    rw [if_neg (by omega), if_neg (by omega), if_neg (by omega), if_neg (by omega)]
    exact free x (by omega)
  · have ib : i ≠ b := fun e => by rw [e, hb] at h0; cases h0
    have ic : i ≠ c := fun e => by rw [e, hc] at h0; cases h0
    have id' : i ≠ d := fun e => by rw [e, hd'] at h0; cases h0
    simp only [upd]
    rw [if_neg (by omega), if_neg (by omega), if_neg (by omega), if_neg (by omega), if_neg id', if_neg ic, if_neg ib]
    exact h0
theorem net231 {g : Gh} {N : Int} {T : List UInt8} {n : Nat} (h233 : H233 Pg) (h234 : H234 Pg) {t : Thr} (hli : LI g t N T) (hbt : BT n t) (h16 : msr t.net ≤ 16) {S : St} {Q : Ex → St → Prop} {tp : Int}
    (s3 : S.ρ 3 = .lref 3 0) (s8 : S.ρ 8 = iz tp) (s10 : S.ρ 10 = iz 0) (m11 : S.μ 11 = none) {a b c d : Nat} (hT : HT S 3 t a b c d) (hab : ∀ y ∈ [a, b, c, d], y < 20200) (hF : Fr S.A 20200)
    (hq : ∀ S' t', S'.ρ 3 = .lref 3 0 → S'.ρ 8 = iz tp → S'.μ 11 = none → HT S' 3 t' 10321 10322 10323 10324 → LI g t' N T → t'.net = [] → Q .norm S') : Wp (K' Pg) l231_3 S (Blk 6 Q) := by
  unfold l231_3
  refine wp_lp (fun (i : Nat) S => i ≤ 20 ∧ S.ρ 3 = .lref 3 0 ∧ S.ρ 8 = iz tp ∧ S.ρ 10 = iz i ∧ S.μ 11 = none ∧ Fr S.A 20200 ∧ ∃ t, HT S 3 t 10321 10322 10323 10324 ∧ LI g t N T ∧ BT n t ∧ msr t.net + i ≤ 16) (fun i => 20 - i) 0 ?_ ?_
  · obtain ⟨q1, q2⟩ := HT.head3 (m := 20200) (Wa := [20221, 20222, 20223, 20224, 20321, 20322, 20323, 20324]) (by omega) hT ⟨rfl, rfl, rfl, rfl⟩ (fun y hy => .inl (hab y hy)) (fun x hx _ => hF x hx)
    exact ⟨Nat.zero_le _, head_ρs s3 rfl, head_ρs s8 rfl, head_ρs s10 rfl, head_μn (.inl m11), q2, t, q1, hli, hbt, h16⟩
  · intro i S ⟨hi, s3, s8, s10, m11, hF, t, hT, hli, hbt, h16⟩
    have hm := hT.1
    simp only [go_sem] at hm
    have hinc : IntKind.i64.wrap ((i : Int) + 1) = ((i + 1 : Nat) : Int) := by rw [wrap64 (by omega) (by omega)]; omega
    have c1 : decide ((i : Int) < 20) = true := decide_eq_true (by omega)
    have hl := hli.len
    cases hnet : t.net with
    | nil =>
      have c2 : decide ((0 : Int) < (t.net.length : Int)) = false := by rw [hnet]; rfl
      simp only [go_sem, s3, s8, s10, hm, c1, c2]
      exact hq _ t (by simp only [go_sem, s3]) (by simp only [go_sem, s8]) m11 (hT.set rfl rfl) hli hnet
    | cons x rest =>
      have hL : 0 < t.net.length := by rw [hnet]; simp
      have c2 : decide ((0 : Int) < (t.net.length : Int)) = true := decide_eq_true (by omega)
      have hoff : offN t.net 0 = rest := by rw [hnet]; rfl
      have hgd : t.net.getD 0 ⟨0, 0, 0, 0, 0, [], []⟩ = x := by rw [hnet]; rfl
      have k233 : K' Pg 233 [.tuple (.lref 0 0 :: eThrT t), .int .i64 0] = _ := K233 h233 t 0 hL hbt.net
      rw [hgd, hoff] at k233
      have hbo : BT n { t with net := rest } := by rw [← hoff]; exact hbt.off 0
      have hx := hbt.word x (by rw [hnet]; simp)
      have k234 := K234 h234 { t with net := rest } x (by omega) (fun k hk => ⟨(hli.it.rk k hk).right.sm.1, (hli.it.rk k hk).right.sa.1⟩) hbo.net
      obtain ⟨st1, st2⟩ := hli.step hnet
      have hbt' := hbo.hear hx.2
      simp only [go_sem, s3, s8, s10, hm, c1, c2]
      refine wro_thr (n := 20200) (a := 10321) (b := 10322) (c := 10323) (d := 10324) k233 (by simp only [go_sem, hm]) (hT.2.of rfl rfl rfl) hF (by omega) (fun A => rfl) rfl fun S1 e1 e2 e3 e4 e5 => ?_
      have hm1 := e3.1
      have m1 := e2 11 rfl
      simp only [go_sem, e1, s3]
      refine wro_thr (n := 20225) (a := 20221) (b := 20222) (c := 20223) (d := 20224) k234 (by simp only [go_sem, hm1]) e3.2 e4 (by omega) (fun A => by simp only [mapO, toD_a, toDC_i, toDC_r, toDC_s, eWord, go_sem]) rfl fun S2 f1 f2 f3 f4 f5 => ?_
      have m2 := f2 11 rfl
      simp only [go_sem, f1, e1, s10, hinc]
      obtain ⟨q1, q2⟩ := HT.head3 (m := 20200) (Wa := [20221, 20222, 20223, 20224, 20321, 20322, 20323, 20324]) (by omega) (HT.set (ρ := upd (upd S.ρ 102 (V.bool true)) 10 (V.int IntKind.i64 ((i + 1 : Nat) : Int))) (μ := S2.μ) (A := S2.A) f3 rfl rfl) ⟨rfl, rfl, rfl, rfl⟩ (fun y hy => .inr (by simp at hy; rcases hy with rfl | rfl | rfl | rfl <;> rfl)) (fun x hx hc => by
        have hc : ¬ (x = 20221 ∨ x = 20222 ∨ x = 20223 ∨ x = 20224 ∨ x = 20321 ∨ x = 20322 ∨ x = 20323 ∨ x = 20324) := by simpa using hc
        show S2.A x = none
        by_cases h1 : 20325 ≤ x
        · exact f4 x h1
        refine f5 x (by omega) ?_
        by_cases h2 : 20225 ≤ x
        · exact e4 x h2
        exact e5 x (by omega) (hF x hx))
      exact ⟨i + 1, by omega, by omega, head_ρs (by simp only [go_sem, s3]) rfl, head_ρs (by simp only [go_sem, s8]) rfl, head_ρs (by simp only [go_sem]) rfl, head_μn (.inl (by rw [m2, m1]; exact m11)), q2, _, q1, st1, hbt', by omega⟩
end Sg
namespace Sg
open _root_.Go (IntKind BinOp UnOp)
set_option linter.unusedSimpArgs false
set_option linter.unusedVariables false
set_option maxRecDepth 10000
variable {Pg : Nat → Option Fn}
theorem mem231 {t : Thr} {x : Rep} (hx : x.members.length ≤ 8) (hall : ∀ m ∈ x.members, 1 ≤ m ∧ m ≤ 3 ∧ (t.r (m - 1).toNat).text = x.text ∧ (t.r (m - 1).toNat).view = x.view) {S : St} {Q : Ex → St → Prop}
    (s3 : S.ρ 3 = .lref 3 0) (s11 : S.ρ 11 = .lref 11 0) (s121 : S.ρ 121 = eInts x.members) (s122 : S.ρ 122 = iz x.members.length) (s123 : S.ρ 123 = iz 0) (n11 : S.μ 11 = some (eRep x, false)) (hT : HT S 3 t 10321 10322 10323 10324)
    (hq : ∀ S', Q .norm S') : Wp (K' Pg) l231_4 S (Blk 8 Q) := by
  unfold l231_4
  refine wp_lp (fun (i : Nat) S' => i ≤ x.members.length ∧ S'.ρ 3 = .lref 3 0 ∧ S'.ρ 11 = .lref 11 0 ∧ S'.ρ 121 = eInts x.members ∧ S'.ρ 122 = iz x.members.length ∧ S'.ρ 123 = iz i ∧ S'.μ = S.μ) (fun i => x.members.length - i) 0 ?_ ?_
  · simp only [head_nil]
    exact ⟨Nat.zero_le _, s3, s11, s121, s122, s123, trivial⟩
  · intro i S' ⟨hi, s3, s11, s121, s122, s123, hμ⟩
    have hm : S'.μ 3 = some (eThrO t 10321 10322 10323 10324, false) := by rw [hμ]; exact hT.1
    have n11' : S'.μ 11 = some (eRep x, false) := by rw [hμ]; exact n11
    cases c1 : decide ((i : Int) < (x.members.length : Int)) with
    | false =>
      simp only [go_sem, s3, s11, s121, s122, s123, c1]
      exact hq _
    | true =>
      have hlt := lt_of c1
      obtain ⟨m, hm', -⟩ := drop_at hlt
      obtain ⟨a1, a2, a3, a4⟩ := hall m (List.mem_of_getElem? hm')
      have hinc : IntKind.i64.wrap ((i : Int) + 1) = ((i + 1 : Nat) : Int) := by rw [wrap64 (by omega) (by omega)]; omega
      have hk : (m - 1).toNat < 3 := by omega
      have hw : IntKind.i64.wrap (m - 1) = (((m - 1).toNat : Nat) : Int) := by rw [wrap64 (by omega) (by omega)]; omega
      generalize (m - 1).toNat = k at hk hw a3 a4
      have hlt' := ld_text (r := t.r) (v1 := .own 10321 7 t.net.length) (v2 := .own 10322 3 t.views.length) (v3 := .own 10323 1 t.fx.length) (v4 := .own 10324 1 t.fx.length) (v5 := iz t.count) hk
      have hlv := ld_view (r := t.r) (v1 := .own 10321 7 t.net.length) (v2 := .own 10322 3 t.views.length) (v3 := .own 10323 1 t.fx.length) (v4 := .own 10324 1 t.fx.length) (v5 := iz t.count) hk
      have d1 : decide ((t.r k).text = x.text) = true := decide_eq_true a3
      have d2 : decide ((t.r k).view = x.view) = true := decide_eq_true a4
      simp only [go_sem] at hm hlt' hlv
      simp only [go_sem, s3, s11, s121, s122, s123, c1, hlt, hm', hw, hm, n11', hk, hlt', hlv, d1, d2, hinc, head_nil, List.length_map]
      exact ⟨i + 1, by omega, by omega, rfl, hμ⟩
def H231 (Pg : Nat → Option Fn) : Prop := Pg 231 = some (.code F231) ∧ H229 Pg ∧ H43 Pg ∧ H40 Pg ∧ H51 Pg ∧ H232 Pg ∧ H233 Pg ∧ H234 Pg ∧ H41 Pg ∧ H35 Pg
set_option maxHeartbeats 4000000 in
theorem K231 (h : H231 Pg) (l : List Act14) : K' Pg 231 [eActs l] = some (.bool true) := by
  obtain ⟨h, h229, h43, h40, h51, h232, h233, h234, h41, h35⟩ := h
  have k35 := K35 h35
  refine K'_code h rfl ?_
  simp only [F231, c231, go_sem]
  unfold l231_0
  refine wp_lp (fun (i : Nat) S => i ≤ 3 ∧ S.ρ 0 = eActs l ∧ S.ρ 3 = .lref 3 0 ∧ S.ρ 14 = iz i ∧ HT S 3 (tI i) 10321 10322 10323 10324 ∧ S.μ 5 = none ∧ S.μ 11 = none ∧ Fr S.A 20000) (fun i => 3 - i) 0 ?_ ?_
  · exact ⟨Nat.zero_le _, head_ρs rfl rfl, head_ρs rfl rfl, head_ρs rfl rfl, HT.headn ⟨rfl, by simp [upd, tI], by simp [upd, tI], by simp [upd, tI], by simp [upd, tI], by decide, by decide, by decide, by decide, by decide, by decide⟩ rfl, head_μn (.inl rfl), head_μn (.inl rfl), by
      rw [head_An]
      intro x hx
      simp only [upd]
      rw [if_neg (by omega), if_neg (by omega), if_neg (by omega), if_neg (by omega)]⟩
  · intro i S ⟨hi, s0, s3, s14, hT, m5, m11, hF⟩
    have hm := hT.1
    cases c1 : decide ((i : Int) < 3) with
    | true =>
      have hi3 : i < 3 := by have := of_decide_eq_true c1; omega
      have hinc' : IntKind.i64.wrap ((i : Int) + 1) = (i : Int) + 1 := by rw [wrap64 (by omega) (by omega)]
      have k43 := K43 h43 ((i : Int) + 1) [1, 2, 3] [] (by simp)
      rw [new_k hi3] at k43
      simp only [go_sem, List.map_cons, List.map_nil] at hm k43
      have hinn : (((i + 1 : Nat) : Int)) = (i : Int) + 1 := by omega
      simp only [go_sem, s0, s3, s14, m5, hm, hi3, c1, hinc', k43]
      exact ⟨i + 1, by omega, by omega, by rw [hinn], HT.headn ⟨by simp only [go_sem, tI_s]; rfl, hT.2.of rfl rfl rfl⟩ rfl, by simp only [m11]; rfl, by rw [head_An]; exact hF⟩
    | false =>
      have hi3 : i = 3 := by have := of_decide_eq_false c1; omega
      subst hi3
      simp only [go_sem, s0, s3, s14, m5, hm, c1]
      unfold l231_1
      refine wp_lp (fun (i : Nat) S => i ≤ l.length ∧ i ≤ 60 ∧ S.ρ 0 = eActs l ∧ S.ρ 3 = .lref 3 0 ∧ S.ρ 7 = iz i ∧ S.μ 11 = none ∧ Fr S.A 20000 ∧ ∃ t g, HT S 3 t 10321 10322 10323 10324 ∧ IT g t ∧ LastT g t ∧ BT i t) (fun i => 60 - i) 0 ?_ ?_
      · obtain ⟨q1, q2⟩ := HT.head3 (m := 20000) (Wa := [20021, 20022, 20023, 20024]) (by omega) (hT.set (ρ := upd (upd S.ρ 15 (V.bool false)) 7 (V.int IntKind.i64 0)) (μ := S.μ) (A := S.A) rfl rfl) ⟨rfl, rfl, rfl, rfl⟩ (fun y hy => .inl (by simp at hy; omega)) (fun x hx _ => hF x hx)
        exact ⟨Nat.zero_le _, Nat.zero_le _, head_ρs (by simp only [go_sem, s0]) rfl, head_ρs (by simp only [go_sem, s3]) rfl, head_ρs rfl rfl, head_μn (.inl m11), q2, tI 3, _, q1, tI_it.1, tI_it.2.1, tI_it.2.2⟩
      · intro i S ⟨hi, hi2, s0, s3, s7, m11, hF, t, g, hT, hit, hlast, hbt⟩
        have hm := hT.1
        simp only [go_sem] at hm
        have hinc : IntKind.i64.wrap ((i : Int) + 1) = ((i + 1 : Nat) : Int) := by rw [wrap64 (by omega) (by omega)]; omega
        cases c2 : (decide ((i : Int) < (l.length : Int)) && decide ((i : Int) < 60)) with
        | true =>
          obtain ⟨c2, c3⟩ := Bool.and_eq_true_iff.1 c2
          have hlt := lt_of c2
          have hi60 : i < 60 := by have := of_decide_eq_true c3; omega
          obtain ⟨a, ha, -⟩ := drop_at hlt
          have k229 := K229 h229 t a hit hbt (by omega)
          obtain ⟨g', hit', hlast'⟩ := IT.act hit a
          have hbt' := BT.act hit hbt a
          simp only [go_sem, s0, s3, s7, List.length_map, c2, c3, hlt, ha]
          refine wro_thr (n := 20000) (a := 10321) (b := 10322) (c := 10323) (d := 10324) k229 (by simp only [go_sem, hm]) (hT.2.of rfl rfl rfl) hF (by omega) (fun A => rfl) rfl fun S1 e1 e2 e3 e4 e5 => ?_
          have m1 := e2 11 rfl
          simp only [go_sem, e1, s7, hinc]
          obtain ⟨q1, q2⟩ := HT.head3 (m := 20000) (Wa := [20021, 20022, 20023, 20024]) (by omega) (HT.set (ρ := upd (upd S.ρ 38 (V.bool true)) 7 (V.int IntKind.i64 ((i + 1 : Nat) : Int))) (μ := S1.μ) (A := S1.A) e3 rfl rfl) ⟨rfl, rfl, rfl, rfl⟩ (fun y hy => .inr (by simp at hy; rcases hy with rfl | rfl | rfl | rfl <;> rfl)) (fun x hx hc => by
            have hc : ¬ (x = 20021 ∨ x = 20022 ∨ x = 20023 ∨ x = 20024) := by simpa using hc
            show S1.A x = none
            by_cases h2 : 20025 ≤ x
            · exact e4 x h2
            exact e5 x (by omega) (hF x hx))
          exact ⟨i + 1, by omega, by omega, by omega, head_ρs (by simp only [go_sem, s0]) rfl, head_ρs (by simp only [go_sem, s3]) rfl, head_ρs (by simp only [go_sem]) rfl, head_μn (.inl (by rw [m1]; exact m11)), q2, _, g', q1, hit', hlast' hlast, hbt'⟩
        | false =>
          have hs2 : decide ((i : Int) < (l.length : Int)) = false ∨ (decide ((i : Int) < (l.length : Int)) = true ∧ decide ((i : Int) < 60) = false) := by
            cases h1 : decide ((i : Int) < (l.length : Int)) with
            | false => exact .inl rfl
            | true => rw [h1] at c2; exact .inr ⟨rfl, by simpa using c2⟩
          have hw := hit.gk.who g.V hit.gk.V1 (Int.le_refl _)
          have htop := hit.rk _ hw
          have hRP := htop.right
          have hrt := (right_iff _).2 hRP
          have ok : (t.r (g.who g.V)).Ok := ⟨by have := hRP.sm.1; omega, by have := hRP.sa.1; omega⟩
          have k40 := K40 h40 (t.r (g.who g.V)) ok
          have k51 := K51 h51 (t.r (g.who g.V)) ok (by have := hRP.sm.1; omega)
          have hlead := hlast.1
          have hle : g.who g.V * 7 + 7 ≤ 26 := by omega
          have hlr := fun w1 w2 w3 w4 w5 => ld_rep (r := t.r) (v1 := w1) (v2 := w2) (v3 := w3) (v4 := w4) (v5 := w5) hw
          obtain ⟨lib, l16⟩ := LI.begin hit hlast
          have hl8 : (if busyR (t.r (g.who g.V)) then shipsR (t.r (g.who g.V)) else []).length ≤ 8 := by
            split
            · exact ships_len8 hRP.sm.1
            · simp
          have hfit : ∀ x ∈ (if busyR (t.r (g.who g.V)) then shipsR (t.r (g.who g.V)) else []), x.members.length ≤ 8 ∧ x.text.length ≤ i := fun x hx => by
            split at hx
            · exact ships_fit hRP.sm.1 (hbt.rep _ hw).2 x hx
            · simp at hx
          have hbt2 : BT i { t with net := sayN [] (if busyR (t.r (g.who g.V)) then shipsR (t.r (g.who g.V)) else []) } := BT.say (t := { t with net := [] }) ⟨by simp, fun x hx => by simp at hx, hbt.rep, hbt.views, hbt.vm, hbt.count⟩ hfit
          generalize (if busyR (t.r (g.who g.V)) then shipsR (t.r (g.who g.V)) else []) = ws at k51 lib l16 hl8 hfit hbt2
          have k232 := K232 h232 { t with net := [] } ws (by omega) (by simp)
          simp only [go_sem] at k40 k51 hlr
          rcases hs2 with c2' | ⟨c2', c3'⟩ <;> first | simp only [go_sem, s0, s3, s7, List.length_map, c2', c3'] | simp only [go_sem, s0, s3, s7, List.length_map, c2']
          all_goals
            refine top231 h40 hit hlast (by simp only [go_sem, s3]) (by simp only [go_sem]) (by simp only [go_sem]) (hT.set rfl rfl) fun S1 s3 s8 e1 e2 => ?_
            have hm1 : S1.μ 3 = _ := (congrFun e1 3).trans hm
            have m1 : S1.μ 11 = none := (congrFun e1 11).trans m11
            simp only [go_sem, s3, s8, hm1, hw, hlr, hle, k40, k51, hrt, hlead]
            refine wro_thn (n := 20000) (t := t) (b := 10322) (c := 10323) (d := 10324) k232 (by simp only [go_sem]) (by rw [← hT.2.rb]; exact congrFun e2 _) (by rw [← hT.2.rc]; exact congrFun e2 _) (by rw [← hT.2.rd]; exact congrFun e2 _) (by decide) (fun x hx => by show S1.A x = none; rw [e2]; exact hF x hx) (by omega) (fun A => rfl) rfl fun S2 f1 f2 f3 f4 f5 => ?_
            have m2 := f2 11 rfl
            simp only [go_sem, f1, s3, s8]
            refine net231 (t := { t with net := sayN [] ws }) (tp := g.who g.V) (n := i) h233 h234 lib hbt2 l16 (by simp only [go_sem, f1, s3]) (by simp only [go_sem, f1, s8]) (by simp only [go_sem]) (by show S2.μ 11 = none; rw [m2]; simp only [go_sem, m1]) (f3.set rfl rfl) (fun y hy => by simp at hy; omega) (fun x hx => f4 x (by omega)) fun S3 t' s3 s8 m11 hT' hli hnet => ?_
            obtain ⟨d1, d2, d3⟩ := hli.done hnet
            have hRP' := (hli.it.rk _ hw).right
            have ok' : (t'.r (g.who g.V)).Ok := ⟨by have := hRP'.sm.1; omega, by have := hRP'.sa.1; omega⟩
            have hbz : busyR (t'.r (g.who g.V)) = false := by simp [busyR, d1]
            have k41 := K41 h41 (t'.r (g.who g.V)) ok'
            rw [hbz] at k41
            have hm' := hT'.1
            have hlr' := ld_rep (r := t'.r) (v1 := .own 10321 7 t'.net.length) (v2 := .own 10322 3 t'.views.length) (v3 := .own 10323 1 t'.fx.length) (v4 := .own 10324 1 t'.fx.length) (v5 := iz t'.count) hw
            have dec : decide ((t'.r (g.who g.V)).base = (t'.r (g.who g.V)).text) = true := decide_eq_true d2
            simp only [go_sem] at hm' hlr' k41
            simp only [go_sem, s3, s8, m11, hm', hw, hle, hlr', k41, dec]
            refine mem231 (t := t') (x := t'.r (g.who g.V)) hRP'.sm.1 d3 (by simp only [go_sem, s3]) (by simp only [go_sem]) (by simp only [go_sem]) (by simp only [go_sem, List.length_map]) (by simp only [go_sem]) (by simp only [go_sem]) (hT'.set (by simp only [go_sem]) rfl) fun S4 => ?_
            simp only [go_sem, k35]
end Sg
