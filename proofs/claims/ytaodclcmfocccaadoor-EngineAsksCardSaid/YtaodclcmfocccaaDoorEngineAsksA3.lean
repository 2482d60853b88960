/- EngineAsks, at every input: proved over a checked abstract run of the translated code; no condition. A part. -/
import Derived.Test.YtaodclcmfocccaaDoorChecked
import Derived.Lib.LaidU8
import Derived.Lib.OthersKept
import Derived.Laws.RangeAny
import Derived.WalkKit
import Derived.BigCall
import Derived.Test.YtaodclcmfocccaaDoorG2
namespace Sg
def look {α : Type} : List (Nat × α) → Nat → Option α
  | [], _ => none
  | (k, a) :: l, n => if k = n then some a else look l n
def cxOf (l : List (Nat × Nat)) : Cx where
  fm := fun n => (look l n).getD 0
  tm := fun n => n
def okTab (P : Go.Program) (cx : Cx) (tab : List (Nat × Fn)) : List (Nat × Fn) → Bool
  | [] => true
  | (k, .code F) :: l => okF P cx (look tab) (cx.fm k) F && okTab P cx tab l
  | (_, .prim ..) :: l => okTab P cx tab l
theorem look_mem {α : Type} : ∀ {l : List (Nat × α)} {n : Nat} {a : α}, look l n = some a → (n, a) ∈ l
  | (k, b) :: l, n, a, h => by
    simp only [look] at h
    split at h
    · rename_i e; subst e; simp only [Option.some.injEq] at h; subst h; exact List.mem_cons_self
    · exact List.mem_cons_of_mem _ (look_mem h)
  | [], n, a, h => by simp [look] at h
theorem okTab_spec {P : Go.Program} {cx : Cx} {tab : List (Nat × Fn)} : ∀ {l : List (Nat × Fn)}, okTab P cx tab l = true → ∀ k F, (k, Fn.code F) ∈ l → okF P cx (look tab) (cx.fm k) F = true
  | (k', .code F') :: l, h, k, F, hm => by
    simp only [okTab, Bool.and_eq_true] at h
    simp only [List.mem_cons, Prod.mk.injEq, Fn.code.injEq] at hm
    rcases hm with ⟨rfl, rfl⟩ | hm
    · exact h.1
    · exact okTab_spec h.2 k F hm
  | (k', .prim o p) :: l, h, k, F, hm => by
    simp only [okTab] at h
    simp only [List.mem_cons, Prod.mk.injEq, reduceCtorEq, and_false, false_or] at hm
    exact okTab_spec h k F hm
  | [], h, k, F, hm => by simp at hm
theorem tab_code {P : Go.Program} {cx : Cx} {tab : List (Nat × Fn)} (h : okTab P cx tab tab = true) : ∀ f F, look tab f = some (.code F) → okF P cx (look tab) (cx.fm f) F = true :=
  fun f F hf => okTab_spec h f F (look_mem hf)
end Sg
namespace Sg
open _root_.Go (IntKind BinOp UnOp)
def r171_0 : List Op := [t_ 2 <|.box (.g 0),t_ 4 <|.mov (cb false)]
def r171_1 : List Op := [f_ 5 <|.load (.v 2) (some 2) (.g 2),f_ 6 <|.call (.k 186) .no none [.l 0],f_ 7 <|.mov (.l 1),y_ 8 2 <|.mov (.g 1),y_ 9 2 <|.call (.k 170) .no none [.l 3],f_ 10 <|.pick (.l 2) (.l 4) (cb false),f_ 11 <|.mov (.l 5),y_ 12 6 <|.fad (.g 2) 0,y_ 13 6 <|.load (.v 2) none (.l 7),y_ 14 6 <|.mov (.g 1),y_ 15 6 <|.call (.k 192) .no none [.l 8, .l 9],y_ 16 6 <|.bin .leq (.l 10) (ci 0),f_ 17 <|.pick (.l 6) (.l 11) (cb false),f_ 18 <|.mov (.l 12),y_ 19 13 <|.fad (.g 2) 1,y_ 20 13 <|.load (.v 2) none (.l 14),y_ 21 13 <|.bin .eql (.l 15) (.c (.str [])),y_ 22 13 <|.mov (.l 16),n_ 23 17 <|.mov (.g 1),n_ 24 17 <|.fad (.g 2) 1,n_ 25 17 <|.load (.v 2) none (.l 19),n_ 26 17 <|.call (.k 192) .no none [.l 18, .l 20],n_ 27 17 <|.bin .lss (.l 21) (ci 0),y_ 28 13 <|.pick (.l 17) (cb true) (.l 22),f_ 29 <|.pick (.l 13) (.l 23) (cb false),t_ 4 <|.mov (.l 24)]
def c171 : C := .seq (.region false r171_0) (.seq (.region false r171_1) (.ret))
def F171 : F := ⟨2, [0, 1, 2, 4], [.t 4], none, c171⟩
attribute [go_sem] r171_0 r171_1 c171 F171
def r186_0 : List Op := [t_ 1 <|.box (.g 0),t_ 2 <|.mov (cb false)]
def r186_1 : List Op := [f_ 3 <|.fad (.g 1) 0,f_ 4 <|.load (.v 1) none (.l 0),f_ 5 <|.bin .neq (.l 1) (.c (.str [])),f_ 6 <|.mov (.l 2),y_ 7 3 <|.fad (.g 1) 0,y_ 8 3 <|.load (.v 1) none (.l 4),y_ 9 3 <|.call (.k 170) .no none [.l 5],y_ 10 3 <|.un .not (.l 6),t_ 11 <|.pick (.l 3) (.l 7) (cb false)]
def r186_2 : List Op := [t_ 2 <|.mov (cb false)]
def r186_3 : List Op := [f_ 12 <|.fad (.g 1) 1,f_ 13 <|.load (.v 1) none (.l 0),f_ 14 <|.bin .eql (.l 1) (.c (.str [])),f_ 15 <|.mov (.l 2),n_ 16 3 <|.fad (.g 1) 1,n_ 17 3 <|.load (.v 1) none (.l 4),n_ 18 3 <|.call (.k 170) .no none [.l 5],n_ 19 3 <|.mov (.l 6),y_ 20 7 <|.fad (.g 1) 0,y_ 21 7 <|.load (.v 1) none (.l 8),y_ 22 7 <|.fad (.g 1) 1,y_ 23 7 <|.load (.v 1) none (.l 10),y_ 24 7 <|.call (.k 192) .no none [.l 9, .l 11],y_ 25 7 <|.bin .lss (.l 12) (ci 0),n_ 26 3 <|.pick (.l 7) (.l 13) (cb false),f_ 27 <|.pick (.l 3) (cb true) (.l 14),t_ 2 <|.mov (.l 15)]
def c186 : C := .seq (.region false r186_0) (.seq (.seq (.region false r186_1) (.cond (.g 11) (.seq (.region false r186_2) (.ret)) (.skip))) (.seq (.region false r186_3) (.ret)))
def F186 : F := ⟨1, [0, 1, 2, 11], [.t 2], none, c186⟩
attribute [go_sem] r186_0 r186_1 r186_2 r186_3 c186 F186
def r191_0 : List Op := [t_ 4 <|.mov (cb false)]
def r191_1 : List Op := [f_ 5 <|.mov (.g 0),f_ 6 <|.bin .geq (.l 0) (.c (.int .i32 33)),f_ 7 <|.mov (.l 1),y_ 8 2 <|.mov (.g 0),y_ 9 2 <|.bin .lss (.l 3) (.c (.int .i32 127)),y_ 10 2 <|.mov (.l 4),n_ 11 5 <|.mov (.g 0),n_ 12 5 <|.bin .gtr (.l 6) (.c (.int .i32 159)),y_ 13 2 <|.pick (.l 5) (cb true) (.l 7),f_ 14 <|.pick (.l 2) (.l 8) (cb false),f_ 15 <|.mov (.l 9),y_ 16 10 <|.mov (.g 0),y_ 17 10 <|.bin .neq (.l 11) (.c (.int .i32 65533)),y_ 18 10 <|.mov (.l 12),n_ 19 13 <|.mov (.g 1),n_ 20 13 <|.bin .eql (.l 14) (ci 3),y_ 21 10 <|.pick (.l 13) (cb true) (.l 15),f_ 22 <|.pick (.l 10) (.l 16) (cb false),t_ 4 <|.mov (.l 17)]
def c191 : C := .seq (.region false r191_0) (.seq (.region false r191_1) (.ret))
def F191 : F := ⟨2, [0, 1, 4], [.t 4], none, c191⟩
attribute [go_sem] r191_0 r191_1 c191 F191
def r192_0 : List Op := [t_ 4 <|.mov (ci 0)]
def r192_1 : List Op := [f_ 9 <|.mov (.g 0),f_ 10 <|.bin .neq (.l 0) (.c (.str [])),f_ 11 <|.mov (.l 1),y_ 12 2 <|.mov (.g 1),y_ 13 2 <|.bin .neq (.l 3) (.c (.str [])),t_ 14 <|.pick (.l 2) (.l 4) (cb false)]
def r192_2 : List Op := [f_ 16 <|.mov (.g 0),f_ 17 <|.call (.k 190) .no none [.l 0],f_ 15 <|.mov (.l 1),f_ 18 <|.ext (.l 2) 0,f_ 19 <|.ext (.l 2) 1,t_ 5 <|.mov (.l 3),t_ 6 <|.mov (.l 4)]
def r192_3 : List Op := [f_ 21 <|.mov (.g 1),f_ 22 <|.call (.k 190) .no none [.l 0],f_ 20 <|.mov (.l 1),f_ 23 <|.ext (.l 2) 0,f_ 24 <|.ext (.l 2) 1,t_ 7 <|.mov (.l 3),t_ 8 <|.mov (.l 4)]
def r192_4 : List Op := [f_ 26 <|.mov (.g 5),f_ 27 <|.mov (.g 7),f_ 28 <|.bin .lss (.l 0) (.l 1),t_ 25 <|.mov (.l 2)]
def r192_5 : List Op := [t_ 4 <|.mov (ci (-1))]
def r192_6 : List Op := [f_ 30 <|.mov (.g 5),f_ 31 <|.mov (.g 7),f_ 32 <|.bin .gtr (.l 0) (.l 1),t_ 29 <|.mov (.l 2)]
def r192_7 : List Op := [t_ 4 <|.mov (ci 1)]
def r192_8 : List Op := [f_ 33 <|.mov (.g 0),f_ 34 <|.mov (.g 6),f_ 35 <|.sl true 0 (.l 0) (some (.l 1)) none,f_ 36 <|.mov (.g 1),f_ 37 <|.mov (.g 8),f_ 38 <|.sl true 0 (.l 3) (some (.l 4)) none,t_ 0 <|.mov (.l 2),t_ 1 <|.mov (.l 5)]
def b192_0 : C := .seq (.seq (.region false r192_1) (.cond (.g 14) (.skip) (.exit 0))) (.block 1 (.seq (.region false r192_2) (.seq (.region false r192_3) (.seq (.block 2 (.seq (.region false r192_4) (.cond (.g 25) (.seq (.region false r192_5) (.ret)) (.seq (.region false r192_6) (.cond (.g 29) (.seq (.region false r192_7) (.ret)) (.skip)))))) (.region true r192_8)))))
def l192_0 : C := .loop [] [] [] [] b192_0
def r192_9 : List Op := [f_ 40 <|.mov (.g 0),f_ 41 <|.bin .neq (.l 0) (.c (.str [])),t_ 39 <|.mov (.l 1)]
def r192_10 : List Op := [t_ 4 <|.mov (ci 1)]
def r192_11 : List Op := [f_ 43 <|.mov (.g 1),f_ 44 <|.bin .neq (.l 0) (.c (.str [])),t_ 42 <|.mov (.l 1)]
def r192_12 : List Op := [t_ 4 <|.mov (ci (-1))]
def r192_13 : List Op := [t_ 4 <|.mov (ci 0)]
def c192 : C := .seq (.region false r192_0) (.seq (.block 0 (l192_0)) (.seq (.block 3 (.seq (.region false r192_9) (.cond (.g 39) (.seq (.region false r192_10) (.ret)) (.seq (.region false r192_11) (.cond (.g 42) (.seq (.region false r192_12) (.ret)) (.skip)))))) (.seq (.region false r192_13) (.ret))))
def F192 : F := ⟨2, [0, 1, 4, 5, 6, 7, 8, 14, 25, 29, 39, 42], [.t 4], none, c192⟩
attribute [go_sem] r192_0 r192_1 r192_2 r192_3 r192_4 r192_5 r192_6 r192_7 r192_8 b192_0 r192_9 r192_10 r192_11 r192_12 r192_13 c192 F192
end Sg
namespace Sg
open _root_.Go (IntKind BinOp UnOp)
def r3_0 : List Op := [t_ 3 <|.box (.g 1),t_ 4 <|.mov (.c (.slice 5 [])),t_ 5 <|.mov (ci 0)]
def r3_1 : List Op := [f_ 7 <|.mov (.g 0),f_ 8 <|.call (.k 7) .no none [.l 0],f_ 9 <|.un .not (.l 1),f_ 10 <|.mov (.l 2),n_ 11 3 <|.load (.v 3) (some 5) (.g 3),n_ 12 3 <|.call (.k 22) .no none [.l 4],n_ 13 3 <|.un .not (.l 5),f_ 14 <|.pick (.l 3) (cb true) (.l 6),t_ 6 <|.mov (.l 7)]
def r3_2 : List Op := [t_ 4 <|.mov (.c (.slice 5 [])),t_ 5 <|.mov (ci 1)]
def r3_3 : List Op := [f_ 16 <|.mov (.g 0),f_ 17 <|.len false (.l 0),f_ 18 <|.bin .gtr (.l 1) (ci 0),f_ 19 <|.mov (.l 2),y_ 20 3 <|.mov (.g 0),y_ 21 3 <|.mov (.g 0),y_ 22 3 <|.len false (.l 5),y_ 23 3 <|.bin .sub (.l 6) (ci 1),y_ 24 3 <|.iad 5 (.l 4) (.l 7),y_ 25 3 <|.fad (.l 8) 0,y_ 26 3 <|.load (.c) (some 3) (.l 9),y_ 27 3 <|.fad (.g 3) 0,y_ 28 3 <|.load (.v 3) (some 3) (.l 11),y_ 29 3 <|.call (.k 15) .no none [.l 10, .l 12],y_ 30 3 <|.bin .geq (.l 13) (ci 0),f_ 31 <|.pick (.l 3) (.l 14) (cb false),t_ 15 <|.mov (.l 15)]
def r3_4 : List Op := [t_ 4 <|.mov (.c (.slice 5 [])),t_ 5 <|.mov (ci 9)]
def r3_5 : List Op := [f_ 33 <|.mov (.g 0),f_ 34 <|.len false (.l 0),f_ 35 <|.bin .eql (.l 1) (ci 64),t_ 32 <|.mov (.l 2)]
def r3_6 : List Op := [t_ 4 <|.mov (.c (.slice 5 [])),t_ 5 <|.mov (ci 6)]
def r3_7 : List Op := [f_ 36 <|.mov (.g 0),f_ 37 <|.call (.k 23) .no (some 0) [.l 0],f_ 38 <|.load (.v 3) (some 5) (.g 3),f_ 39 <|.mks 5 1 [.int .i64 0, .int .i64 0, .int .i64 0, .bool false, .str []] [(0, .l 2)],f_ 40 <|.app 37 5 (.l 1) (.l 3),t_ 4 <|.mov (.l 4),t_ 5 <|.mov (ci 0)]
def c3 : C := .seq (.region false r3_0) (.seq (.block 0 (.seq (.region false r3_1) (.cond (.g 6) (.seq (.region false r3_2) (.ret)) (.seq (.region true r3_3) (.cond (.g 15) (.seq (.region false r3_4) (.ret)) (.seq (.region false r3_5) (.cond (.g 32) (.seq (.region false r3_6) (.ret)) (.skip)))))))) (.seq (.region true r3_7) (.ret)))
def F3 : F := ⟨2, [0, 1, 3, 4, 5, 6, 15, 32], [.t 4, .t 5], none, c3⟩
attribute [go_sem] r3_0 r3_1 r3_2 r3_3 r3_4 r3_5 r3_6 r3_7 c3 F3
def r7_0 : List Op := [t_ 2 <|.mov (cb false)]
def r7_1 : List Op := [t_ 5 <|.mov (.g 0),t_ 6 <|.len false (.l 0),t_ 7 <|.mov (ci 0)]
def r7_2 : List Op := [t_ 8 <|.bin .lss (.g 7) (.g 6)]
def r7_3 : List Op := [f_ 9 <|.mov (.g 7),f_ 10 <|.iad 5 (.g 5) (.g 7),f_ 11 <|.load (.c) (some 5) (.l 1),t_ 4 <|.alloc [.int .i64 0, .int .i64 0, .int .i64 0, .bool false, .str []],t_ 3 <|.mov (.l 0),u_ <|.store (.v 4) 5 (.l 3) (.l 2)]
def r7_4 : List Op := [f_ 12 <|.load (.v 4) (some 5) (.g 4),f_ 13 <|.call (.k 22) .no none [.l 0],f_ 14 <|.un .not (.l 1),f_ 15 <|.mov (.l 2),n_ 16 3 <|.mov (.g 3),n_ 17 3 <|.bin .gtr (.l 4) (ci 0),n_ 18 3 <|.mov (.l 5),y_ 19 6 <|.mov (.g 0),y_ 20 6 <|.mov (.g 3),y_ 21 6 <|.bin .sub (.l 8) (ci 1),y_ 22 6 <|.iad 5 (.l 7) (.l 9),y_ 23 6 <|.fad (.l 10) 0,y_ 24 6 <|.load (.c) (some 3) (.l 11),y_ 25 6 <|.fad (.g 4) 0,y_ 26 6 <|.load (.v 4) (some 3) (.l 13),y_ 27 6 <|.call (.k 15) .no none [.l 12, .l 14],y_ 28 6 <|.bin .geq (.l 15) (ci 0),n_ 29 3 <|.pick (.l 6) (.l 16) (cb false),t_ 30 <|.pick (.l 3) (cb true) (.l 17)]
def r7_5 : List Op := [t_ 2 <|.mov (cb false)]
def r7_6 : List Op := [f_ 31 <|.bin .add (.g 7) (ci 1),t_ 7 <|.mov (.l 0)]
def b7_0 : C := .seq (.region false r7_2) (.seq (.cond (.g 8) (.skip) (.exit 0)) (.seq (.block 1 (.seq (.region false r7_3) (.seq (.region true r7_4) (.cond (.g 30) (.seq (.region false r7_5) (.ret)) (.skip))))) (.region false r7_6)))
def l7_0 : C := .loop [] [] [4] [] b7_0
def r7_7 : List Op := [f_ 32 <|.mov (.g 0),f_ 33 <|.len false (.l 0),f_ 34 <|.bin .leq (.l 1) (ci 64),t_ 2 <|.mov (.l 2)]
def c7 : C := .seq (.region false r7_0) (.seq (.seq (.region false r7_1) (.block 0 (l7_0))) (.seq (.region false r7_7) (.ret)))
def F7 : F := ⟨1, [0, 2, 3, 4, 5, 6, 7, 8, 30], [.t 2], none, c7⟩
attribute [go_sem] r7_0 r7_1 r7_2 r7_3 r7_4 r7_5 r7_6 b7_0 r7_7 c7 F7
def r8_0 : List Op := [t_ 4 <|.mov (cb false)]
def r8_1 : List Op := [f_ 6 <|.mov (.g 0),f_ 7 <|.len false (.l 0),f_ 8 <|.mov (.g 1),f_ 9 <|.len false (.l 2),t_ 10 <|.bin .neq (.l 1) (.l 3)]
def r8_2 : List Op := [t_ 4 <|.mov (cb false)]
def r8_3 : List Op := [t_ 5 <|.mov (ci 0)]
def r8_4 : List Op := [f_ 11 <|.mov (.g 5),f_ 12 <|.mov (.g 0),f_ 13 <|.len false (.l 1),t_ 14 <|.bin .lss (.l 0) (.l 2)]
def r8_5 : List Op := [f_ 17 <|.mov (.g 0),f_ 18 <|.mov (.g 5),f_ 19 <|.iad 5 (.l 0) (.l 1),f_ 20 <|.load (.c) (some 5) (.l 2),f_ 21 <|.mov (.g 1),f_ 22 <|.mov (.g 5),f_ 23 <|.iad 5 (.l 4) (.l 5),f_ 24 <|.load (.c) (some 5) (.l 6),t_ 25 <|.eqa true [.i, .i, .i, .b, .s] (.l 3) (.l 7)]
def r8_6 : List Op := [t_ 4 <|.mov (cb false)]
def r8_7 : List Op := [f_ 15 <|.mov (.g 5),f_ 16 <|.bin .add (.l 0) (ci 1),t_ 5 <|.mov (.l 1)]
def b8_0 : C := .seq (.seq (.region false r8_4) (.cond (.g 14) (.skip) (.exit 0))) (.seq (.block 1 (.seq (.region true r8_5) (.cond (.g 25) (.seq (.region false r8_6) (.ret)) (.skip)))) (.region false r8_7))
def l8_0 : C := .loop [] [] [] [] b8_0
def r8_8 : List Op := [t_ 4 <|.mov (cb true)]
def c8 : C := .seq (.region false r8_0) (.seq (.seq (.region false r8_1) (.cond (.g 10) (.seq (.region false r8_2) (.ret)) (.skip))) (.seq (.seq (.region false r8_3) (.block 0 (l8_0))) (.seq (.region false r8_8) (.ret))))
def F8 : F := ⟨2, [0, 1, 4, 5, 10, 14, 25], [.t 4], none, c8⟩
attribute [go_sem] r8_0 r8_1 r8_2 r8_3 r8_4 r8_5 r8_6 r8_7 b8_0 r8_8 c8 F8
def r10_0 : List Op := [t_ 3 <|.box (.g 1),t_ 4 <|.alloc [.int .i64 0, .int .i64 0, .int .i64 0, .bool false, .str []],t_ 5 <|.mov (cb false)]
def r10_1 : List Op := [f_ 7 <|.mov (.g 0),f_ 8 <|.call (.k 7) .no none [.l 0],t_ 9 <|.un .not (.l 1)]
def r10_2 : List Op := [f_ 10 <|.build [.int .i64 0, .int .i64 0, .int .i64 0, .bool false, .str []] [],u_ <|.store (.v 4) 5 (.g 4) (.l 0),t_ 5 <|.mov (cb false)]
def r10_3 : List Op := [f_ 11 <|.mov (.g 0),f_ 12 <|.load (.v 3) (some 3) (.g 3),f_ 13 <|.call (.k 25) .no none [.l 0, .l 1],t_ 6 <|.mov (.l 2)]
def r10_4 : List Op := [f_ 14 <|.mov (.g 6),t_ 15 <|.bin .eql (.l 0) (ci 0)]
def r10_5 : List Op := [f_ 16 <|.build [.int .i64 0, .int .i64 0, .int .i64 0, .bool false, .str []] [],u_ <|.store (.v 4) 5 (.g 4) (.l 0),t_ 5 <|.mov (cb false)]
def r10_6 : List Op := [f_ 17 <|.mov (.g 0),f_ 18 <|.mov (.g 6),f_ 19 <|.bin .sub (.l 1) (ci 1),f_ 20 <|.iad 5 (.l 0) (.l 2),f_ 21 <|.load (.c) (some 5) (.l 3),u_ <|.store (.v 4) 5 (.g 4) (.l 4),t_ 5 <|.mov (cb true)]
def c10 : C := .seq (.region false r10_0) (.seq (.seq (.region false r10_1) (.cond (.g 9) (.seq (.region false r10_2) (.ret)) (.skip))) (.seq (.region false r10_3) (.seq (.seq (.region false r10_4) (.cond (.g 15) (.seq (.region false r10_5) (.ret)) (.skip))) (.seq (.region false r10_6) (.ret)))))
def F10 : F := ⟨2, [0, 1, 3, 4, 5, 6, 9, 15], [.cell 4 (some 5), .t 5], none, c10⟩
attribute [go_sem] r10_0 r10_1 r10_2 r10_3 r10_4 r10_5 r10_6 c10 F10
def r12_0 : List Op := [t_ 3 <|.box (.g 1),t_ 4 <|.mov (.c (.str [])),t_ 5 <|.mov (cb false)]
def r12_1 : List Op := [f_ 9 <|.mov (.g 0),f_ 10 <|.load (.v 3) (some 3) (.g 3),f_ 11 <|.call (.k 10) .no none [.l 0, .l 1],f_ 8 <|.mov (.l 2),f_ 12 <|.ext (.l 3) 0,f_ 13 <|.ext (.l 3) 1,t_ 6 <|.alloc [.int .i64 0, .int .i64 0, .int .i64 0, .bool false, .str []],u_ <|.store (.v 6) 5 (.l 6) (.l 4),t_ 7 <|.mov (.l 5)]
def r12_2 : List Op := [f_ 14 <|.fad (.g 6) 4,f_ 15 <|.load (.v 6) none (.l 0),f_ 16 <|.mov (.g 7),f_ 17 <|.mov (.l 2),y_ 18 3 <|.fad (.g 6) 3,y_ 19 3 <|.load (.v 6) none (.l 4),y_ 20 3 <|.un .not (.l 5),f_ 21 <|.pick (.l 3) (.l 6) (cb false),t_ 4 <|.mov (.l 1),t_ 5 <|.mov (.l 7)]
def c12 : C := .seq (.region false r12_0) (.seq (.region false r12_1) (.seq (.region true r12_2) (.ret)))
def F12 : F := ⟨2, [0, 1, 3, 4, 5, 6, 7], [.t 4, .t 5], none, c12⟩
attribute [go_sem] r12_0 r12_1 r12_2 c12 F12
def r15_0 : List Op := [t_ 2 <|.box (.g 0),t_ 3 <|.box (.g 1),t_ 4 <|.mov (ci 0)]
def r15_1 : List Op := [f_ 5 <|.fad (.g 2) 0,f_ 6 <|.load (.v 2) none (.l 0),f_ 7 <|.fad (.g 3) 0,f_ 8 <|.load (.v 3) none (.l 2),f_ 9 <|.call (.k 26) .no none [.l 1, .l 3],f_ 10 <|.fad (.g 2) 1,f_ 11 <|.load (.v 2) none (.l 5),f_ 12 <|.fad (.g 3) 1,f_ 13 <|.load (.v 3) none (.l 7),f_ 14 <|.call (.k 26) .no none [.l 6, .l 8],f_ 15 <|.fad (.g 2) 2,f_ 16 <|.load (.v 2) none (.l 10),f_ 17 <|.fad (.g 3) 2,f_ 18 <|.load (.v 3) none (.l 12),f_ 19 <|.call (.k 26) .no none [.l 11, .l 13],f_ 20 <|.mks 1 3 [.int .i64 0] [(0, .l 4), (1, .l 9), (2, .l 14)],f_ 21 <|.call (.k 27) .no none [.l 15],t_ 4 <|.mov (.l 16)]
def c15 : C := .seq (.region false r15_0) (.seq (.region true r15_1) (.ret))
def F15 : F := ⟨2, [0, 1, 2, 3, 4], [.t 4], none, c15⟩
attribute [go_sem] r15_0 r15_1 c15 F15
def r21_0 : List Op := [t_ 2 <|.box (.g 0),t_ 3 <|.box (.g 1),t_ 4 <|.alloc [.int .i64 0, .int .i64 0, .int .i64 0]]
def r21_1 : List Op := [f_ 5 <|.load (.v 2) (some 3) (.g 2),f_ 6 <|.load (.v 3) (some 3) (.g 3),f_ 7 <|.call (.k 15) .no none [.l 0, .l 1],t_ 8 <|.bin .lss (.l 2) (ci 0)]
def r21_2 : List Op := [f_ 9 <|.load (.v 3) (some 3) (.g 3),u_ <|.store (.v 4) 3 (.g 4) (.l 0)]
def r21_3 : List Op := [f_ 10 <|.load (.v 2) (some 3) (.g 2),u_ <|.store (.v 4) 3 (.g 4) (.l 0)]
def c21 : C := .seq (.region false r21_0) (.seq (.seq (.region false r21_1) (.cond (.g 8) (.seq (.region false r21_2) (.ret)) (.skip))) (.seq (.region false r21_3) (.ret)))
def F21 : F := ⟨2, [0, 1, 2, 3, 4, 8], [.cell 4 (some 3)], none, c21⟩
attribute [go_sem] r21_0 r21_1 r21_2 r21_3 c21 F21
def r22_0 : List Op := [t_ 1 <|.box (.g 0),t_ 2 <|.mov (cb false)]
def r22_1 : List Op := [f_ 3 <|.fad (.g 1) 0,f_ 4 <|.load (.v 1) (some 3) (.l 0),f_ 5 <|.call (.k 28) .no none [.l 1],f_ 6 <|.mov (.l 2),y_ 7 3 <|.fad (.g 1) 4,y_ 8 3 <|.load (.v 1) none (.l 4),y_ 9 3 <|.len true (.l 5),y_ 10 3 <|.bin .leq (.l 6) (ci 16),f_ 11 <|.pick (.l 3) (.l 7) (cb false),f_ 12 <|.mov (.l 8),y_ 13 9 <|.fad (.g 1) 3,y_ 14 9 <|.load (.v 1) none (.l 10),y_ 15 9 <|.un .not (.l 11),y_ 16 9 <|.mov (.l 12),n_ 17 13 <|.fad (.g 1) 4,n_ 18 13 <|.load (.v 1) none (.l 14),n_ 19 13 <|.bin .eql (.l 15) (.c (.str [])),y_ 20 9 <|.pick (.l 13) (cb true) (.l 16),f_ 21 <|.pick (.l 9) (.l 17) (cb false),t_ 2 <|.mov (.l 18)]
def c22 : C := .seq (.region false r22_0) (.seq (.region false r22_1) (.ret))
def F22 : F := ⟨1, [0, 1, 2], [.t 2], none, c22⟩
attribute [go_sem] r22_0 r22_1 c22 F22
def r25_0 : List Op := [t_ 3 <|.box (.g 1),t_ 4 <|.mov (ci 0)]
def r25_1 : List Op := [f_ 8 <|.mov (.g 0),f_ 9 <|.load (.v 3) (some 3) (.g 3),f_ 10 <|.call (.k 29) .no none [.l 0, .l 1, .f 30],f_ 7 <|.mov (.l 2),f_ 11 <|.ext (.l 3) 0,f_ 12 <|.ext (.l 3) 1,t_ 5 <|.mov (.l 4),t_ 6 <|.mov (.l 5)]
def r25_2 : List Op := [t_ 13 <|.mov (.g 6)]
def r25_3 : List Op := [f_ 14 <|.mov (.g 5),f_ 15 <|.bin .add (.l 0) (ci 1),t_ 5 <|.mov (.l 1)]
def r25_4 : List Op := [f_ 16 <|.mov (.g 5),t_ 4 <|.mov (.l 0)]
def c25 : C := .seq (.region false r25_0) (.seq (.region false r25_1) (.seq (.seq (.region false r25_2) (.cond (.g 13) (.region false r25_3) (.skip))) (.seq (.region false r25_4) (.ret))))
def F25 : F := ⟨2, [0, 1, 3, 4, 5, 6, 13], [.t 4], none, c25⟩
attribute [go_sem] r25_0 r25_1 r25_2 r25_3 r25_4 c25 F25
def r26_0 : List Op := [t_ 4 <|.mov (ci 0)]
def r26_1 : List Op := [f_ 7 <|.mov (.g 0),f_ 8 <|.call (.k 31) .no none [.l 0],t_ 5 <|.mov (.l 1)]
def r26_2 : List Op := [f_ 9 <|.mov (.g 1),f_ 10 <|.call (.k 31) .no none [.l 0],t_ 6 <|.mov (.l 1)]
def r26_3 : List Op := [t_ 11 <|.mov (.g 5)]
def r26_4 : List Op := [t_ 12 <|.mov (.g 6)]
def r26_5 : List Op := [t_ 4 <|.mov (ci 0)]
def r26_6 : List Op := [t_ 4 <|.mov (ci (-1))]
def r26_7 : List Op := [t_ 13 <|.mov (.g 6)]
def r26_8 : List Op := [t_ 4 <|.mov (ci 1)]
def r26_9 : List Op := [f_ 14 <|.mov (.g 0),f_ 15 <|.mov (.g 1),t_ 16 <|.bin .lss (.l 0) (.l 1)]
def r26_10 : List Op := [t_ 4 <|.mov (ci (-1))]
def r26_11 : List Op := [f_ 17 <|.mov (.g 0),f_ 18 <|.mov (.g 1),t_ 19 <|.bin .gtr (.l 0) (.l 1)]
def r26_12 : List Op := [t_ 4 <|.mov (ci 1)]
def r26_13 : List Op := [t_ 4 <|.mov (ci 0)]
def c26 : C := .seq (.region false r26_0) (.seq (.region false r26_1) (.seq (.region false r26_2) (.seq (.seq (.region false r26_3) (.cond (.g 11) (.seq (.seq (.region false r26_4) (.cond (.g 12) (.seq (.region false r26_5) (.ret)) (.skip))) (.seq (.region false r26_6) (.ret))) (.skip))) (.seq (.seq (.region false r26_7) (.cond (.g 13) (.seq (.region false r26_8) (.ret)) (.skip))) (.seq (.seq (.region false r26_9) (.cond (.g 16) (.seq (.region false r26_10) (.ret)) (.skip))) (.seq (.seq (.region false r26_11) (.cond (.g 19) (.seq (.region false r26_12) (.ret)) (.skip))) (.seq (.region false r26_13) (.ret))))))))
def F26 : F := ⟨2, [0, 1, 4, 5, 6, 11, 12, 13, 16, 19], [.t 4], none, c26⟩
attribute [go_sem] r26_0 r26_1 r26_2 r26_3 r26_4 r26_5 r26_6 r26_7 r26_8 r26_9 r26_10 r26_11 r26_12 r26_13 c26 F26
def r27_0 : List Op := [t_ 2 <|.mov (ci 0)]
def r27_1 : List Op := [t_ 3 <|.mov (ci 0)]
def r27_2 : List Op := [t_ 6 <|.mov (.g 0),t_ 7 <|.len false (.l 0),t_ 8 <|.mov (ci 0)]
def r27_3 : List Op := [t_ 9 <|.bin .lss (.g 8) (.g 7)]
def r27_4 : List Op := [f_ 10 <|.iad 1 (.g 6) (.g 8),f_ 11 <|.load (.c) none (.l 0),t_ 5 <|.mov (.l 1)]
def r27_5 : List Op := [f_ 12 <|.mov (.g 5),f_ 13 <|.mov (.g 3),t_ 14 <|.bin .neq (.l 0) (.l 1)]
def r27_6 : List Op := [f_ 15 <|.mov (.g 5),t_ 2 <|.mov (.l 0)]
def r27_7 : List Op := [f_ 16 <|.bin .add (.g 8) (ci 1),t_ 8 <|.mov (.l 0)]
def b27_0 : C := .seq (.region false r27_3) (.seq (.cond (.g 9) (.skip) (.exit 0)) (.seq (.block 1 (.seq (.region false r27_4) (.seq (.region false r27_5) (.cond (.g 14) (.seq (.region false r27_6) (.ret)) (.skip))))) (.region false r27_7)))
def l27_0 : C := .loop [] [] [] [] b27_0
def r27_8 : List Op := [f_ 17 <|.mov (.g 3),t_ 2 <|.mov (.l 0)]
def c27 : C := .seq (.region false r27_0) (.seq (.region false r27_1) (.seq (.seq (.region false r27_2) (.block 0 (l27_0))) (.seq (.region false r27_8) (.ret))))
def F27 : F := ⟨1, [0, 2, 3, 5, 6, 7, 8, 9, 14], [.t 2], none, c27⟩
attribute [go_sem] r27_0 r27_1 r27_2 r27_3 r27_4 r27_5 r27_6 r27_7 b27_0 r27_8 c27 F27
def r28_0 : List Op := [t_ 1 <|.box (.g 0),t_ 2 <|.mov (cb false)]
def r28_1 : List Op := [f_ 3 <|.fad (.g 1) 0,f_ 4 <|.load (.v 1) none (.l 0),f_ 5 <|.call (.k 32) .no none [.l 1, .c (.int .i64 1099511627776)],f_ 6 <|.mov (.l 2),y_ 7 3 <|.fad (.g 1) 1,y_ 8 3 <|.load (.v 1) none (.l 4),y_ 9 3 <|.call (.k 32) .no none [.l 5, .c (.int .i64 1048576)],f_ 10 <|.pick (.l 3) (.l 6) (cb false),f_ 11 <|.mov (.l 7),y_ 12 8 <|.fad (.g 1) 2,y_ 13 8 <|.load (.v 1) none (.l 9),y_ 14 8 <|.call (.k 32) .no none [.l 10, .c (.int .i64 255)],f_ 15 <|.pick (.l 8) (.l 11) (cb false),t_ 2 <|.mov (.l 12)]
def c28 : C := .seq (.region false r28_0) (.seq (.region false r28_1) (.ret))
def F28 : F := ⟨1, [0, 1, 2], [.t 2], none, c28⟩
attribute [go_sem] r28_0 r28_1 c28 F28
def r29_0 : List Op := [t_ 4 <|.box (.g 1),t_ 6 <|.mov (ci 0),t_ 7 <|.mov (cb false)]
def r29_1 : List Op := [f_ 12 <|.mov (.g 0),f_ 13 <|.len false (.l 0),t_ 8 <|.mov (.l 1)]
def r29_2 : List Op := [f_ 14 <|.mov (.g 8),t_ 9 <|.mov (ci 0),t_ 10 <|.mov (.l 0)]
def r29_3 : List Op := [f_ 15 <|.mov (.g 9),f_ 16 <|.mov (.g 10),t_ 17 <|.bin .lss (.l 0) (.l 1)]
def r29_4 : List Op := [f_ 18 <|.mov (.g 9),f_ 19 <|.mov (.g 10),f_ 20 <|.bin .add (.l 0) (.l 1),f_ 21 <|.conv (.int .u64) (.l 2),f_ 22 <|.sh .shr (.l 3) (.c (.int .u64 1)),f_ 23 <|.conv (.int .i64) (.l 4),t_ 11 <|.mov (.l 5)]
def r29_5 : List Op := [f_ 24 <|.mov (.g 2),f_ 25 <|.mov (.g 0),f_ 26 <|.mov (.g 11),f_ 27 <|.iad 5 (.l 1) (.l 2),f_ 28 <|.load (.c) (some 5) (.l 3),f_ 29 <|.load (.v 4) (some 3) (.g 4),f_ 30 <|.call (.v (.l 0)) .no none [.l 4, .l 5],t_ 31 <|.bin .lss (.l 6) (ci 0)]
def r29_6 : List Op := [f_ 32 <|.mov (.g 11),f_ 33 <|.bin .add (.l 0) (ci 1),t_ 9 <|.mov (.l 1)]
def r29_7 : List Op := [f_ 34 <|.mov (.g 11),t_ 10 <|.mov (.l 0)]
def b29_0 : C := .seq (.seq (.region false r29_3) (.cond (.g 17) (.skip) (.exit 0))) (.block 1 (.seq (.region false r29_4) (.seq (.region true r29_5) (.cond (.g 31) (.region false r29_6) (.region false r29_7)))))
def l29_0 : C := .loop [] [] [] [] b29_0
def r29_8 : List Op := [f_ 35 <|.mov (.g 9),f_ 36 <|.mov (.g 9),f_ 37 <|.mov (.g 8),f_ 38 <|.bin .lss (.l 1) (.l 2),f_ 39 <|.mov (.l 3),y_ 40 4 <|.mov (.g 2),y_ 41 4 <|.mov (.g 0),y_ 42 4 <|.mov (.g 9),y_ 43 4 <|.iad 5 (.l 6) (.l 7),y_ 44 4 <|.load (.c) (some 5) (.l 8),y_ 45 4 <|.load (.v 4) (some 3) (.g 4),y_ 46 4 <|.call (.v (.l 5)) .no none [.l 9, .l 10],y_ 47 4 <|.bin .eql (.l 11) (ci 0),f_ 48 <|.pick (.l 4) (.l 12) (cb false),t_ 6 <|.mov (.l 0),t_ 7 <|.mov (.l 13)]
def c29 : C := .seq (.region false r29_0) (.seq (.region false r29_1) (.seq (.region false r29_2) (.seq (.block 0 (l29_0)) (.seq (.region true r29_8) (.ret)))))
def F29 : F := ⟨3, [0, 1, 2, 4, 6, 7, 8, 9, 10, 11, 17, 31], [.t 6, .t 7], none, c29⟩
attribute [go_sem] r29_0 r29_1 r29_2 r29_3 r29_4 r29_5 r29_6 r29_7 b29_0 r29_8 c29 F29
def r30_0 : List Op := [t_ 2 <|.box (.g 0),t_ 3 <|.box (.g 1),t_ 4 <|.mov (ci 0)]
def r30_1 : List Op := [f_ 5 <|.fad (.g 2) 0,f_ 6 <|.load (.v 2) (some 3) (.l 0),f_ 7 <|.load (.v 3) (some 3) (.g 3),f_ 8 <|.call (.k 15) .no none [.l 1, .l 2],t_ 4 <|.mov (.l 3)]
def c30 : C := .seq (.region false r30_0) (.seq (.region false r30_1) (.ret))
def F30 : F := ⟨2, [0, 1, 2, 3, 4], [.t 4], none, c30⟩
attribute [go_sem] r30_0 r30_1 c30 F30
def r31_0 : List Op := [t_ 2 <|.mov (cb false)]
def r31_1 : List Op := [f_ 3 <|.mov (.g 0),f_ 4 <|.mov (.g 0),f_ 5 <|.bin .neq (.l 0) (.l 1),t_ 2 <|.mov (.l 2)]
def c31 : C := .seq (.region false r31_0) (.seq (.region false r31_1) (.ret))
def F31 : F := ⟨1, [0, 2], [.t 2], none, c31⟩
attribute [go_sem] r31_0 r31_1 c31 F31
def r32_0 : List Op := [t_ 4 <|.mov (cb false)]
def r32_1 : List Op := [f_ 5 <|.mov (.g 0),f_ 6 <|.bin .geq (.l 0) (ci 0),f_ 7 <|.mov (.l 1),y_ 8 2 <|.mov (.g 0),y_ 9 2 <|.mov (.g 1),y_ 10 2 <|.bin .leq (.l 3) (.l 4),f_ 11 <|.pick (.l 2) (.l 5) (cb false),t_ 4 <|.mov (.l 6)]
def c32 : C := .seq (.region false r32_0) (.seq (.region false r32_1) (.ret))
def F32 : F := ⟨2, [0, 1, 4], [.t 4], none, c32⟩
attribute [go_sem] r32_0 r32_1 c32 F32
end Sg
namespace Sg
open _root_.Go (IntKind BinOp UnOp)
def r78_0 : List Op := [t_ 2 <|.mov (cb false)]
def r78_1 : List Op := [f_ 4 <|.mov (.g 0),f_ 5 <|.len false (.l 0),t_ 6 <|.bin .gtr (.l 1) (ci 40)]
def r78_2 : List Op := [t_ 2 <|.mov (cb false)]
def r78_3 : List Op := [t_ 3 <|.mov (ci 0)]
def r78_4 : List Op := [f_ 7 <|.mov (.g 3),f_ 8 <|.mov (.g 0),f_ 9 <|.len false (.l 1),t_ 10 <|.bin .lss (.l 0) (.l 2)]
def r78_5 : List Op := [f_ 13 <|.mov (.g 0),f_ 14 <|.mov (.g 3),f_ 15 <|.iad 11 (.l 0) (.l 1),f_ 16 <|.fad (.l 2) 2,f_ 17 <|.fad (.l 3) 6,f_ 18 <|.load (.c) none (.l 4),f_ 19 <|.len false (.l 5),t_ 20 <|.bin .gtr (.l 6) (ci 100)]
def r78_6 : List Op := [t_ 2 <|.mov (cb false)]
def r78_7 : List Op := [f_ 11 <|.mov (.g 3),f_ 12 <|.bin .add (.l 0) (ci 1),t_ 3 <|.mov (.l 1)]
def b78_0 : C := .seq (.seq (.region false r78_4) (.cond (.g 10) (.skip) (.exit 0))) (.seq (.block 1 (.seq (.region false r78_5) (.cond (.g 20) (.seq (.region false r78_6) (.ret)) (.skip)))) (.region false r78_7))
def l78_0 : C := .loop [] [] [] [] b78_0
def r78_8 : List Op := [t_ 2 <|.mov (cb true)]
def c78 : C := .seq (.region false r78_0) (.seq (.seq (.region false r78_1) (.cond (.g 6) (.seq (.region false r78_2) (.ret)) (.skip))) (.seq (.seq (.region false r78_3) (.block 0 (l78_0))) (.seq (.region false r78_8) (.ret))))
def F78 : F := ⟨1, [0, 2, 3, 6, 10, 20], [.t 2], none, c78⟩
attribute [go_sem] r78_0 r78_1 r78_2 r78_3 r78_4 r78_5 r78_6 r78_7 b78_0 r78_8 c78 F78
def r81_0 : List Op := [t_ 2 <|.mov (cb false)]
def r81_1 : List Op := [t_ 3 <|.mov (ci 0)]
def r81_2 : List Op := [t_ 6 <|.mov (.g 0),t_ 7 <|.len false (.l 0),t_ 8 <|.mov (ci 0)]
def r81_3 : List Op := [t_ 9 <|.bin .lss (.g 8) (.g 7)]
def r81_4 : List Op := [f_ 10 <|.iad 11 (.g 6) (.g 8),f_ 11 <|.load (.c) (some 11) (.l 0),t_ 5 <|.alloc [.int .i64 0, .int .i64 0, .int .i64 0, .int .i64 0, .int .i64 0, .int .i64 0, .bool false, .str [], .slice 2 [], .str [], .bool false],u_ <|.store (.v 5) 11 (.l 2) (.l 1)]
def r81_5 : List Op := [f_ 12 <|.fad (.g 5) 0,f_ 13 <|.load (.v 5) none (.l 0),f_ 14 <|.mov (.g 3),f_ 15 <|.bin .leq (.l 1) (.l 2),f_ 16 <|.mov (.l 3),n_ 17 4 <|.fad (.g 5) 0,n_ 18 4 <|.load (.v 5) none (.l 5),n_ 19 4 <|.call (.k 97) .no none [.l 6],n_ 20 4 <|.un .not (.l 7),f_ 21 <|.pick (.l 4) (cb true) (.l 8),f_ 22 <|.mov (.l 9),n_ 23 10 <|.fad (.g 5) 1,n_ 24 10 <|.load (.v 5) none (.l 11),n_ 25 10 <|.call (.k 97) .no none [.l 12],n_ 26 10 <|.un .not (.l 13),f_ 27 <|.pick (.l 10) (cb true) (.l 14),f_ 28 <|.mov (.l 15),n_ 29 16 <|.fad (.g 5) 2,n_ 30 16 <|.load (.v 5) (some 9) (.l 17),n_ 31 16 <|.call (.k 98) .no none [.l 18],n_ 32 16 <|.un .not (.l 19),t_ 33 <|.pick (.l 16) (cb true) (.l 20)]
def r81_6 : List Op := [t_ 2 <|.mov (cb false)]
def r81_7 : List Op := [f_ 34 <|.fad (.g 5) 0,f_ 35 <|.load (.v 5) none (.l 0),t_ 3 <|.mov (.l 1)]
def r81_8 : List Op := [f_ 36 <|.bin .add (.g 8) (ci 1),t_ 8 <|.mov (.l 0)]
def b81_0 : C := .seq (.region false r81_3) (.seq (.cond (.g 9) (.skip) (.exit 0)) (.seq (.block 1 (.seq (.region false r81_4) (.seq (.seq (.region false r81_5) (.cond (.g 33) (.seq (.region false r81_6) (.ret)) (.skip))) (.region false r81_7)))) (.region false r81_8)))
def l81_0 : C := .loop [] [] [5] [] b81_0
def r81_9 : List Op := [f_ 37 <|.mov (.g 0),f_ 38 <|.len false (.l 0),f_ 39 <|.bin .leq (.l 1) (ci 8),t_ 2 <|.mov (.l 2)]
def c81 : C := .seq (.region false r81_0) (.seq (.region false r81_1) (.seq (.seq (.region false r81_2) (.block 0 (l81_0))) (.seq (.region false r81_9) (.ret))))
def F81 : F := ⟨1, [0, 2, 3, 5, 6, 7, 8, 9, 33], [.t 2], none, c81⟩
attribute [go_sem] r81_0 r81_1 r81_2 r81_3 r81_4 r81_5 r81_6 r81_7 r81_8 b81_0 r81_9 c81 F81
def r82_0 : List Op := [t_ 6 <|.mov (ci 0)]
def r82_1 : List Op := [f_ 9 <|.mov (.g 0),f_ 10 <|.call (.k 81) .no none [.l 0],f_ 11 <|.un .not (.l 1),f_ 12 <|.mov (.l 2),n_ 13 3 <|.mov (.g 1),n_ 14 3 <|.call (.k 97) .no none [.l 4],n_ 15 3 <|.un .not (.l 5),f_ 16 <|.pick (.l 3) (cb true) (.l 6),f_ 17 <|.mov (.l 7),n_ 18 8 <|.mov (.g 2),n_ 19 8 <|.call (.k 97) .no none [.l 9],n_ 20 8 <|.un .not (.l 10),t_ 21 <|.pick (.l 8) (cb true) (.l 11)]
def r82_2 : List Op := [t_ 6 <|.mov (ci 0)]
def r82_3 : List Op := [f_ 23 <|.mov (.g 0),f_ 24 <|.mov (.g 1),f_ 25 <|.call (.k 84) .no none [.l 0, .l 1],f_ 22 <|.mov (.l 2),f_ 26 <|.ext (.l 3) 0,f_ 27 <|.ext (.l 3) 1,t_ 7 <|.alloc [.int .i64 0, .int .i64 0, .int .i64 0, .int .i64 0, .int .i64 0, .int .i64 0, .bool false, .str [], .slice 2 [], .str [], .bool false],u_ <|.store (.v 7) 11 (.l 6) (.l 4),t_ 8 <|.mov (.l 5)]
def r82_4 : List Op := [f_ 29 <|.mov (.g 8),f_ 30 <|.un .not (.l 0),f_ 31 <|.mov (.l 1),n_ 32 2 <|.mov (.g 2),n_ 33 2 <|.fad (.g 7) 1,n_ 34 2 <|.load (.v 7) none (.l 4),n_ 35 2 <|.bin .gtr (.l 3) (.l 5),f_ 36 <|.pick (.l 2) (cb true) (.l 6),t_ 28 <|.mov (.l 7)]
def r82_5 : List Op := [t_ 6 <|.mov (ci 1)]
def r82_6 : List Op := [f_ 38 <|.mov (.g 2),f_ 39 <|.fad (.g 7) 1,f_ 40 <|.load (.v 7) none (.l 1),f_ 41 <|.bin .eql (.l 0) (.l 2),t_ 37 <|.mov (.l 3)]
def r82_7 : List Op := [t_ 6 <|.mov (ci 2)]
def r82_8 : List Op := [t_ 6 <|.mov (ci 3)]
def c82 : C := .seq (.region false r82_0) (.seq (.seq (.region false r82_1) (.cond (.g 21) (.seq (.region false r82_2) (.ret)) (.skip))) (.seq (.region false r82_3) (.seq (.block 0 (.seq (.region false r82_4) (.cond (.g 28) (.seq (.region false r82_5) (.ret)) (.seq (.region false r82_6) (.cond (.g 37) (.seq (.region false r82_7) (.ret)) (.skip)))))) (.seq (.region false r82_8) (.ret)))))
def F82 : F := ⟨3, [0, 1, 2, 6, 7, 8, 21, 28, 37], [.t 6], none, c82⟩
attribute [go_sem] r82_0 r82_1 r82_2 r82_3 r82_4 r82_5 r82_6 r82_7 r82_8 c82 F82
def r84_0 : List Op := [t_ 4 <|.alloc [.int .i64 0, .int .i64 0, .int .i64 0, .int .i64 0, .int .i64 0, .int .i64 0, .bool false, .str [], .slice 2 [], .str [], .bool false],t_ 5 <|.mov (cb false)]
def r84_1 : List Op := [f_ 8 <|.mov (.g 0),f_ 9 <|.call (.k 81) .no none [.l 0],t_ 10 <|.un .not (.l 1)]
def r84_2 : List Op := [f_ 11 <|.build [.int .i64 0, .int .i64 0, .int .i64 0, .int .i64 0, .int .i64 0, .int .i64 0, .bool false, .str [], .slice 2 [], .str [], .bool false] [],u_ <|.store (.v 4) 11 (.g 4) (.l 0),t_ 5 <|.mov (cb false)]
def r84_3 : List Op := [f_ 13 <|.mov (.g 0),f_ 14 <|.mov (.g 1),f_ 15 <|.call (.k 100) .no none [.l 0, .l 1],f_ 12 <|.mov (.l 2),f_ 16 <|.ext (.l 3) 0,f_ 17 <|.ext (.l 3) 1,t_ 6 <|.mov (.l 4),t_ 7 <|.mov (.l 5)]
def r84_4 : List Op := [f_ 18 <|.mov (.g 7),t_ 19 <|.un .not (.l 0)]
def r84_5 : List Op := [f_ 20 <|.build [.int .i64 0, .int .i64 0, .int .i64 0, .int .i64 0, .int .i64 0, .int .i64 0, .bool false, .str [], .slice 2 [], .str [], .bool false] [],u_ <|.store (.v 4) 11 (.g 4) (.l 0),t_ 5 <|.mov (cb false)]
def r84_6 : List Op := [f_ 21 <|.mov (.g 0),f_ 22 <|.mov (.g 6),f_ 23 <|.iad 11 (.l 0) (.l 1),f_ 24 <|.load (.c) (some 11) (.l 2),u_ <|.store (.v 4) 11 (.g 4) (.l 3),t_ 5 <|.mov (cb true)]
def c84 : C := .seq (.region false r84_0) (.seq (.seq (.region false r84_1) (.cond (.g 10) (.seq (.region false r84_2) (.ret)) (.skip))) (.seq (.region false r84_3) (.seq (.seq (.region false r84_4) (.cond (.g 19) (.seq (.region false r84_5) (.ret)) (.skip))) (.seq (.region false r84_6) (.ret)))))
def F84 : F := ⟨2, [0, 1, 4, 5, 6, 7, 10, 19], [.cell 4 (some 11), .t 5], none, c84⟩
attribute [go_sem] r84_0 r84_1 r84_2 r84_3 r84_4 r84_5 r84_6 c84 F84
def r86_0 : List Op := [t_ 4 <|.mov (cb false)]
def r86_1 : List Op := [f_ 6 <|.mov (.g 0),f_ 7 <|.len false (.l 0),f_ 8 <|.mov (.g 1),f_ 9 <|.len false (.l 2),t_ 10 <|.bin .neq (.l 1) (.l 3)]
def r86_2 : List Op := [t_ 4 <|.mov (cb false)]
def r86_3 : List Op := [t_ 5 <|.mov (ci 0)]
def r86_4 : List Op := [f_ 11 <|.mov (.g 5),f_ 12 <|.mov (.g 0),f_ 13 <|.len false (.l 1),t_ 14 <|.bin .lss (.l 0) (.l 2)]
def r86_5 : List Op := [f_ 17 <|.mov (.g 0),f_ 18 <|.mov (.g 5),f_ 19 <|.iad 11 (.l 0) (.l 1),f_ 20 <|.fad (.l 2) 0,f_ 21 <|.load (.c) none (.l 3),f_ 22 <|.mov (.g 1),f_ 23 <|.mov (.g 5),f_ 24 <|.iad 11 (.l 5) (.l 6),f_ 25 <|.fad (.l 7) 0,f_ 26 <|.load (.c) none (.l 8),f_ 27 <|.bin .neq (.l 4) (.l 9),f_ 28 <|.mov (.l 10),n_ 29 11 <|.mov (.g 0),n_ 30 11 <|.mov (.g 5),n_ 31 11 <|.iad 11 (.l 12) (.l 13),n_ 32 11 <|.fad (.l 14) 1,n_ 33 11 <|.load (.c) none (.l 15),n_ 34 11 <|.mov (.g 1),n_ 35 11 <|.mov (.g 5),n_ 36 11 <|.iad 11 (.l 17) (.l 18),n_ 37 11 <|.fad (.l 19) 1,n_ 38 11 <|.load (.c) none (.l 20),n_ 39 11 <|.bin .neq (.l 16) (.l 21),f_ 40 <|.pick (.l 11) (cb true) (.l 22),f_ 41 <|.mov (.l 23),n_ 42 24 <|.mov (.g 0),n_ 43 24 <|.mov (.g 5),n_ 44 24 <|.iad 11 (.l 25) (.l 26),n_ 45 24 <|.fad (.l 27) 2,n_ 46 24 <|.load (.c) (some 9) (.l 28),n_ 47 24 <|.mov (.g 1),n_ 48 24 <|.mov (.g 5),n_ 49 24 <|.iad 11 (.l 30) (.l 31),n_ 50 24 <|.fad (.l 32) 2,n_ 51 24 <|.load (.c) (some 9) (.l 33),n_ 52 24 <|.call (.k 101) .no none [.l 29, .l 34],n_ 53 24 <|.un .not (.l 35),t_ 54 <|.pick (.l 24) (cb true) (.l 36)]
def r86_6 : List Op := [t_ 4 <|.mov (cb false)]
def r86_7 : List Op := [f_ 15 <|.mov (.g 5),f_ 16 <|.bin .add (.l 0) (ci 1),t_ 5 <|.mov (.l 1)]
def b86_0 : C := .seq (.seq (.region false r86_4) (.cond (.g 14) (.skip) (.exit 0))) (.seq (.block 1 (.seq (.region true r86_5) (.cond (.g 54) (.seq (.region false r86_6) (.ret)) (.skip)))) (.region false r86_7))
def l86_0 : C := .loop [] [] [] [] b86_0
def r86_8 : List Op := [t_ 4 <|.mov (cb true)]
def c86 : C := .seq (.region false r86_0) (.seq (.seq (.region false r86_1) (.cond (.g 10) (.seq (.region false r86_2) (.ret)) (.skip))) (.seq (.seq (.region false r86_3) (.block 0 (l86_0))) (.seq (.region false r86_8) (.ret))))
def F86 : F := ⟨2, [0, 1, 4, 5, 10, 14, 54], [.t 4], none, c86⟩
attribute [go_sem] r86_0 r86_1 r86_2 r86_3 r86_4 r86_5 r86_6 r86_7 b86_0 r86_8 c86 F86
def r88_0 : List Op := [t_ 3 <|.box (.g 1),t_ 4 <|.mov (.c (.slice 11 [])),t_ 5 <|.mov (ci 0)]
def r88_1 : List Op := [f_ 9 <|.mov (.g 0),f_ 10 <|.call (.k 81) .no none [.l 0],f_ 11 <|.un .not (.l 1),f_ 12 <|.mov (.l 2),n_ 13 3 <|.load (.v 3) (some 11) (.g 3),n_ 14 3 <|.mks 11 1 [.int .i64 0, .int .i64 0, .int .i64 0, .int .i64 0, .int .i64 0, .int .i64 0, .bool false, .str [], .slice 2 [], .str [], .bool false] [(0, .l 4)],n_ 15 3 <|.call (.k 81) .no none [.l 5],n_ 16 3 <|.un .not (.l 6),t_ 17 <|.pick (.l 3) (cb true) (.l 7)]
def r88_2 : List Op := [t_ 4 <|.mov (.c (.slice 11 [])),t_ 5 <|.mov (ci 1)]
def r88_3 : List Op := [f_ 19 <|.mov (.g 0),f_ 20 <|.fad (.g 3) 0,f_ 21 <|.load (.v 3) none (.l 1),f_ 22 <|.call (.k 100) .no none [.l 0, .l 2],f_ 18 <|.mov (.l 3),f_ 23 <|.ext (.l 4) 0,f_ 24 <|.ext (.l 4) 1,t_ 6 <|.mov (.l 5),t_ 7 <|.mov (.l 6)]
def r88_4 : List Op := [f_ 26 <|.mov (.g 7),f_ 27 <|.mov (.l 0),y_ 28 1 <|.mov (.g 0),y_ 29 1 <|.mov (.g 6),y_ 30 1 <|.iad 11 (.l 2) (.l 3),y_ 31 1 <|.fad (.l 4) 1,y_ 32 1 <|.load (.c) none (.l 5),y_ 33 1 <|.fad (.g 3) 1,y_ 34 1 <|.load (.v 3) none (.l 7),y_ 35 1 <|.bin .geq (.l 6) (.l 8),f_ 36 <|.pick (.l 1) (.l 9) (cb false),t_ 25 <|.mov (.l 10)]
def r88_5 : List Op := [t_ 4 <|.mov (.c (.slice 11 [])),t_ 5 <|.mov (ci 9)]
def r88_6 : List Op := [f_ 38 <|.mov (.g 7),f_ 39 <|.un .not (.l 0),f_ 40 <|.mov (.l 1),y_ 41 2 <|.mov (.g 0),y_ 42 2 <|.len false (.l 3),y_ 43 2 <|.bin .eql (.l 4) (ci 8),f_ 44 <|.pick (.l 2) (.l 5) (cb false),t_ 37 <|.mov (.l 6)]
def r88_7 : List Op := [t_ 4 <|.mov (.c (.slice 11 [])),t_ 5 <|.mov (ci 6)]
def r88_8 : List Op := [f_ 45 <|.mov (.g 0),f_ 46 <|.call (.k 102) .no (some 0) [.l 0],t_ 8 <|.mov (.l 1)]
def r88_9 : List Op := [t_ 47 <|.mov (.g 7)]
def r88_10 : List Op := [f_ 48 <|.mov (.g 8),f_ 49 <|.mov (.g 6),f_ 50 <|.load (.v 3) (some 11) (.g 3),f_ 51 <|.iad 11 (.l 0) (.l 1),u_ <|.store (.e 46) 11 (.l 3) (.l 2)]
def r88_11 : List Op := [f_ 52 <|.mov (.g 8),t_ 4 <|.mov (.l 0),t_ 5 <|.mov (ci 0)]
def r88_12 : List Op := [f_ 53 <|.mov (.g 8),f_ 54 <|.mov (.g 6),f_ 55 <|.load (.v 3) (some 11) (.g 3),f_ 56 <|.mks 11 1 [.int .i64 0, .int .i64 0, .int .i64 0, .int .i64 0, .int .i64 0, .int .i64 0, .bool false, .str [], .slice 2 [], .str [], .bool false] [(0, .l 2)],f_ 57 <|.ins 103 46 11 (.l 0) (.l 1) (.l 3),t_ 4 <|.mov (.l 4),t_ 5 <|.mov (ci 0)]
def c88 : C := .seq (.region false r88_0) (.seq (.seq (.region false r88_1) (.cond (.g 17) (.seq (.region false r88_2) (.ret)) (.skip))) (.seq (.region false r88_3) (.seq (.block 0 (.seq (.region true r88_4) (.cond (.g 25) (.seq (.region false r88_5) (.ret)) (.seq (.region false r88_6) (.cond (.g 37) (.seq (.region false r88_7) (.ret)) (.skip)))))) (.seq (.region false r88_8) (.seq (.seq (.region false r88_9) (.cond (.g 47) (.seq (.region false r88_10) (.seq (.region false r88_11) (.ret))) (.skip))) (.seq (.region false r88_12) (.ret)))))))
def F88 : F := ⟨2, [0, 1, 3, 4, 5, 6, 7, 8, 17, 25, 37, 47], [.t 4, .t 5], none, c88⟩
attribute [go_sem] r88_0 r88_1 r88_2 r88_3 r88_4 r88_5 r88_6 r88_7 r88_8 r88_9 r88_10 r88_11 r88_12 c88 F88
def r97_0 : List Op := [t_ 2 <|.mov (cb false)]
def r97_1 : List Op := [f_ 3 <|.mov (.g 0),f_ 4 <|.bin .geq (.l 0) (ci 1),f_ 5 <|.mov (.l 1),y_ 6 2 <|.mov (.g 0),y_ 7 2 <|.bin .leq (.l 3) (ci 1099511627776),f_ 8 <|.pick (.l 2) (.l 4) (cb false),t_ 2 <|.mov (.l 5)]
def c97 : C := .seq (.region false r97_0) (.seq (.region false r97_1) (.ret))
def F97 : F := ⟨1, [0, 2], [.t 2], none, c97⟩
attribute [go_sem] r97_0 r97_1 c97 F97
def r98_0 : List Op := [t_ 1 <|.box (.g 0),t_ 2 <|.mov (cb false)]
def r98_1 : List Op := [f_ 3 <|.fad (.g 1) 0,f_ 4 <|.load (.v 1) none (.l 0),f_ 5 <|.bin .geq (.l 1) (ci 0),f_ 6 <|.mov (.l 2),y_ 7 3 <|.fad (.g 1) 0,y_ 8 3 <|.load (.v 1) none (.l 4),y_ 9 3 <|.bin .leq (.l 5) (ci 16),f_ 10 <|.pick (.l 3) (.l 6) (cb false),f_ 11 <|.mov (.l 7),y_ 12 8 <|.fad (.g 1) 1,y_ 13 8 <|.load (.v 1) (some 3) (.l 9),y_ 14 8 <|.call (.k 28) .no none [.l 10],f_ 15 <|.pick (.l 8) (.l 11) (cb false),f_ 16 <|.mov (.l 12),y_ 17 13 <|.fad (.g 1) 5,y_ 18 13 <|.load (.v 1) none (.l 14),y_ 19 13 <|.len true (.l 15),y_ 20 13 <|.bin .leq (.l 16) (ci 16),f_ 21 <|.pick (.l 13) (.l 17) (cb false),f_ 22 <|.mov (.l 18),y_ 23 19 <|.fad (.g 1) 6,y_ 24 19 <|.load (.v 1) none (.l 20),y_ 25 19 <|.len false (.l 21),y_ 26 19 <|.bin .eql (.l 22) (ci 0),f_ 27 <|.pick (.l 19) (.l 23) (cb false),f_ 28 <|.mov (.l 24),y_ 29 25 <|.fad (.g 1) 7,y_ 30 25 <|.load (.v 1) none (.l 26),y_ 31 25 <|.bin .eql (.l 27) (.c (.str [])),f_ 32 <|.pick (.l 25) (.l 28) (cb false),f_ 33 <|.mov (.l 29),y_ 34 30 <|.fad (.g 1) 8,y_ 35 30 <|.load (.v 1) none (.l 31),y_ 36 30 <|.un .not (.l 32),f_ 37 <|.pick (.l 30) (.l 33) (cb false),t_ 2 <|.mov (.l 34)]
def c98 : C := .seq (.region false r98_0) (.seq (.region false r98_1) (.ret))
def F98 : F := ⟨1, [0, 1, 2], [.t 2], none, c98⟩
attribute [go_sem] r98_0 r98_1 c98 F98
def r100_0 : List Op := [t_ 3 <|.box (.g 1),t_ 4 <|.mov (ci 0),t_ 5 <|.mov (cb false)]
def r100_1 : List Op := [f_ 7 <|.mov (.g 0),f_ 8 <|.fn 105 [.g 3] [3],f_ 9 <|.call (.k 106) .no none [.l 0, .l 1],t_ 6 <|.mov (.l 2)]
def r100_2 : List Op := [f_ 10 <|.mov (.g 6),t_ 11 <|.bin .lss (.l 0) (ci 0)]
def r100_3 : List Op := [f_ 12 <|.mov (.g 0),f_ 13 <|.len false (.l 0),t_ 4 <|.mov (.l 1),t_ 5 <|.mov (cb false)]
def r100_4 : List Op := [f_ 14 <|.mov (.g 6),f_ 15 <|.mov (.g 0),f_ 16 <|.mov (.g 6),f_ 17 <|.iad 11 (.l 1) (.l 2),f_ 18 <|.fad (.l 3) 0,f_ 19 <|.load (.c) none (.l 4),f_ 20 <|.load (.v 3) none (.g 3),f_ 21 <|.bin .eql (.l 5) (.l 6),t_ 4 <|.mov (.l 0),t_ 5 <|.mov (.l 7)]
def c100 : C := .seq (.region false r100_0) (.seq (.region false r100_1) (.seq (.seq (.region false r100_2) (.cond (.g 11) (.seq (.region false r100_3) (.ret)) (.skip))) (.seq (.region true r100_4) (.ret))))
def F100 : F := ⟨2, [0, 1, 3, 4, 5, 6, 11], [.t 4, .t 5], none, c100⟩
attribute [go_sem] r100_0 r100_1 r100_2 r100_3 r100_4 c100 F100
def r101_0 : List Op := [t_ 2 <|.box (.g 0),t_ 3 <|.box (.g 1),t_ 4 <|.mov (cb false)]
def r101_1 : List Op := [f_ 6 <|.fad (.g 2) 6,f_ 7 <|.load (.v 2) none (.l 0),f_ 8 <|.len false (.l 1),f_ 9 <|.fad (.g 3) 6,f_ 10 <|.load (.v 3) none (.l 3),f_ 11 <|.len false (.l 4),t_ 12 <|.bin .neq (.l 2) (.l 5)]
def r101_2 : List Op := [t_ 4 <|.mov (cb false)]
def r101_3 : List Op := [t_ 5 <|.mov (ci 0)]
def r101_4 : List Op := [f_ 13 <|.mov (.g 5),f_ 14 <|.fad (.g 2) 6,f_ 15 <|.load (.v 2) none (.l 1),f_ 16 <|.len false (.l 2),t_ 17 <|.bin .lss (.l 0) (.l 3)]
def r101_5 : List Op := [f_ 20 <|.fad (.g 2) 6,f_ 21 <|.load (.v 2) none (.l 0),f_ 22 <|.mov (.g 5),f_ 23 <|.iad 2 (.l 1) (.l 2),f_ 24 <|.load (.c) (some 2) (.l 3),f_ 25 <|.fad (.g 3) 6,f_ 26 <|.load (.v 3) none (.l 5),f_ 27 <|.mov (.g 5),f_ 28 <|.iad 2 (.l 6) (.l 7),f_ 29 <|.load (.c) (some 2) (.l 8),t_ 30 <|.eqa true [.s, .s] (.l 4) (.l 9)]
def r101_6 : List Op := [t_ 4 <|.mov (cb false)]
def r101_7 : List Op := [f_ 18 <|.mov (.g 5),f_ 19 <|.bin .add (.l 0) (ci 1),t_ 5 <|.mov (.l 1)]
def b101_0 : C := .seq (.seq (.region false r101_4) (.cond (.g 17) (.skip) (.exit 0))) (.seq (.block 1 (.seq (.region true r101_5) (.cond (.g 30) (.seq (.region false r101_6) (.ret)) (.skip)))) (.region false r101_7))
def l101_0 : C := .loop [] [] [] [] b101_0
def r101_8 : List Op := [f_ 31 <|.fad (.g 2) 0,f_ 32 <|.load (.v 2) none (.l 0),f_ 33 <|.fad (.g 3) 0,f_ 34 <|.load (.v 3) none (.l 2),f_ 35 <|.bin .eql (.l 1) (.l 3),f_ 36 <|.mov (.l 4),y_ 37 5 <|.fad (.g 2) 1,y_ 38 5 <|.load (.v 2) (some 3) (.l 6),y_ 39 5 <|.fad (.g 3) 1,y_ 40 5 <|.load (.v 3) (some 3) (.l 8),y_ 41 5 <|.eqa false [.i, .i, .i] (.l 7) (.l 9),f_ 42 <|.pick (.l 5) (.l 10) (cb false),f_ 43 <|.mov (.l 11),y_ 44 12 <|.fad (.g 2) 4,y_ 45 12 <|.load (.v 2) none (.l 13),y_ 46 12 <|.fad (.g 3) 4,y_ 47 12 <|.load (.v 3) none (.l 15),y_ 48 12 <|.eqb false (.l 14) (.l 16),f_ 49 <|.pick (.l 12) (.l 17) (cb false),f_ 50 <|.mov (.l 18),y_ 51 19 <|.fad (.g 2) 5,y_ 52 19 <|.load (.v 2) none (.l 20),y_ 53 19 <|.fad (.g 3) 5,y_ 54 19 <|.load (.v 3) none (.l 22),y_ 55 19 <|.bin .eql (.l 21) (.l 23),f_ 56 <|.pick (.l 19) (.l 24) (cb false),f_ 57 <|.mov (.l 25),y_ 58 26 <|.fad (.g 2) 7,y_ 59 26 <|.load (.v 2) none (.l 27),y_ 60 26 <|.fad (.g 3) 7,y_ 61 26 <|.load (.v 3) none (.l 29),y_ 62 26 <|.bin .eql (.l 28) (.l 30),f_ 63 <|.pick (.l 26) (.l 31) (cb false),f_ 64 <|.mov (.l 32),y_ 65 33 <|.fad (.g 2) 8,y_ 66 33 <|.load (.v 2) none (.l 34),y_ 67 33 <|.fad (.g 3) 8,y_ 68 33 <|.load (.v 3) none (.l 36),y_ 69 33 <|.eqb false (.l 35) (.l 37),f_ 70 <|.pick (.l 33) (.l 38) (cb false),t_ 4 <|.mov (.l 39)]
def c101 : C := .seq (.region false r101_0) (.seq (.seq (.region false r101_1) (.cond (.g 12) (.seq (.region false r101_2) (.ret)) (.skip))) (.seq (.seq (.region false r101_3) (.block 0 (l101_0))) (.seq (.region false r101_8) (.ret))))
def F101 : F := ⟨2, [0, 1, 2, 3, 4, 5, 12, 17, 30], [.t 4], none, c101⟩
attribute [go_sem] r101_0 r101_1 r101_2 r101_3 r101_4 r101_5 r101_6 r101_7 b101_0 r101_8 c101 F101
def r105_0 : List Op := [t_ 2 <|.box (.g 0),t_ 3 <|.mov (cb false)]
def r105_1 : List Op := [f_ 4 <|.fad (.g 2) 0,f_ 5 <|.load (.v 2) none (.l 0),f_ 6 <|.load (.c) none (.g 1),f_ 7 <|.bin .geq (.l 1) (.l 2),t_ 3 <|.mov (.l 3)]
def c105 : C := .seq (.region false r105_0) (.seq (.region false r105_1) (.ret))
def F105 : F := ⟨2, [0, 1, 2, 3], [.t 3], none, c105⟩
attribute [go_sem] r105_0 r105_1 c105 F105
def r106_0 : List Op := [t_ 4 <|.mov (ci 0)]
def r106_1 : List Op := [f_ 6 <|.mov (.g 0),t_ 7 <|.len false (.l 0),t_ 8 <|.mov (ci 0)]
def r106_2 : List Op := [t_ 9 <|.bin .lss (.g 8) (.g 7)]
def r106_3 : List Op := [f_ 10 <|.mov (.g 8),t_ 5 <|.mov (.l 0)]
def r106_4 : List Op := [f_ 11 <|.mov (.g 1),f_ 12 <|.mov (.g 0),f_ 13 <|.mov (.g 5),f_ 14 <|.iad 11 (.l 1) (.l 2),f_ 15 <|.load (.c) (some 11) (.l 3),t_ 16 <|.call (.v (.l 0)) .no none [.l 4]]
def r106_5 : List Op := [f_ 17 <|.mov (.g 5),t_ 4 <|.mov (.l 0)]
def r106_6 : List Op := [f_ 18 <|.bin .add (.g 8) (ci 1),t_ 8 <|.mov (.l 0)]
def b106_0 : C := .seq (.region false r106_2) (.seq (.cond (.g 9) (.skip) (.exit 0)) (.seq (.block 1 (.seq (.region false r106_3) (.seq (.region false r106_4) (.cond (.g 16) (.seq (.region false r106_5) (.ret)) (.skip))))) (.region false r106_6)))
def l106_0 : C := .loop [] [] [] [] b106_0
def r106_7 : List Op := [t_ 4 <|.mov (ci (-1))]
def c106 : C := .seq (.region false r106_0) (.seq (.seq (.region false r106_1) (.block 0 (l106_0))) (.seq (.region false r106_7) (.ret)))
def F106 : F := ⟨2, [0, 1, 4, 5, 7, 8, 9, 16], [.t 4], none, c106⟩
attribute [go_sem] r106_0 r106_1 r106_2 r106_3 r106_4 r106_5 r106_6 b106_0 r106_7 c106 F106
end Sg
namespace Sg
open _root_.Go (IntKind BinOp UnOp)
def r67_0 : List Op := [t_ 4 <|.mov (cb false)]
def r67_1 : List Op := [f_ 5 <|.mov (.g 0),f_ 6 <|.mov (.g 1),f_ 7 <|.call (.k 76) .no none [.l 0, .l 1],f_ 8 <|.bin .geq (.l 2) (ci 0),t_ 4 <|.mov (.l 3)]
def c67 : C := .seq (.region false r67_0) (.seq (.region false r67_1) (.ret))
def F67 : F := ⟨2, [0, 1, 4], [.t 4], none, c67⟩
attribute [go_sem] r67_0 r67_1 c67 F67
def r76_0 : List Op := [t_ 4 <|.mov (ci 0)]
def r76_1 : List Op := [f_ 6 <|.mov (.g 0),t_ 7 <|.len false (.l 0),t_ 8 <|.mov (ci 0)]
def r76_2 : List Op := [t_ 9 <|.bin .lss (.g 8) (.g 7)]
def r76_3 : List Op := [f_ 10 <|.mov (.g 8),t_ 5 <|.mov (.l 0)]
def r76_4 : List Op := [f_ 11 <|.mov (.g 1),f_ 12 <|.mov (.g 0),f_ 13 <|.mov (.g 5),f_ 14 <|.iad 1 (.l 1) (.l 2),f_ 15 <|.load (.c) none (.l 3),t_ 16 <|.call (.v (.l 0)) .no none [.l 4]]
def r76_5 : List Op := [f_ 17 <|.mov (.g 5),t_ 4 <|.mov (.l 0)]
def r76_6 : List Op := [f_ 18 <|.bin .add (.g 8) (ci 1),t_ 8 <|.mov (.l 0)]
def b76_0 : C := .seq (.region false r76_2) (.seq (.cond (.g 9) (.skip) (.exit 0)) (.seq (.block 1 (.seq (.region false r76_3) (.seq (.region false r76_4) (.cond (.g 16) (.seq (.region false r76_5) (.ret)) (.skip))))) (.region false r76_6)))
def l76_0 : C := .loop [] [] [] [] b76_0
def r76_7 : List Op := [t_ 4 <|.mov (ci (-1))]
def c76 : C := .seq (.region false r76_0) (.seq (.seq (.region false r76_1) (.block 0 (l76_0))) (.seq (.region false r76_7) (.ret)))
def F76 : F := ⟨2, [0, 1, 4, 5, 7, 8, 9, 16], [.t 4], none, c76⟩
attribute [go_sem] r76_0 r76_1 r76_2 r76_3 r76_4 r76_5 r76_6 b76_0 r76_7 c76 F76
end Sg
namespace Sg
open _root_.Go (IntKind BinOp UnOp)
def r198_0 : List Op := [t_ 2 <|.mov (cb false)]
def r198_1 : List Op := [f_ 4 <|.mov (.g 0),f_ 5 <|.len false (.l 0),t_ 6 <|.bin .gtr (.l 1) (ci 80)]
def r198_2 : List Op := [t_ 2 <|.mov (cb false)]
def r198_3 : List Op := [t_ 3 <|.mov (ci 0)]
def r198_4 : List Op := [f_ 7 <|.mov (.g 3),f_ 8 <|.mov (.g 0),f_ 9 <|.len false (.l 1),t_ 10 <|.bin .lss (.l 0) (.l 2)]
def r198_5 : List Op := [f_ 13 <|.mov (.g 0),f_ 14 <|.mov (.g 3),f_ 15 <|.iad 2 (.l 0) (.l 1),f_ 16 <|.fad (.l 2) 1,f_ 17 <|.load (.c) none (.l 3),f_ 18 <|.len false (.l 4),f_ 19 <|.bin .gtr (.l 5) (ci 80),f_ 20 <|.mov (.l 6),n_ 21 7 <|.mov (.g 0),n_ 22 7 <|.mov (.g 3),n_ 23 7 <|.iad 2 (.l 8) (.l 9),n_ 24 7 <|.fad (.l 10) 0,n_ 25 7 <|.load (.c) none (.l 11),n_ 26 7 <|.len true (.l 12),n_ 27 7 <|.bin .gtr (.l 13) (ci 100),t_ 28 <|.pick (.l 7) (cb true) (.l 14)]
def r198_6 : List Op := [t_ 2 <|.mov (cb false)]
def r198_7 : List Op := [f_ 11 <|.mov (.g 3),f_ 12 <|.bin .add (.l 0) (ci 1),t_ 3 <|.mov (.l 1)]
def b198_0 : C := .seq (.seq (.region false r198_4) (.cond (.g 10) (.skip) (.exit 0))) (.seq (.block 1 (.seq (.region false r198_5) (.cond (.g 28) (.seq (.region false r198_6) (.ret)) (.skip)))) (.region false r198_7))
def l198_0 : C := .loop [] [] [] [] b198_0
def r198_8 : List Op := [t_ 2 <|.mov (cb true)]
def c198 : C := .seq (.region false r198_0) (.seq (.seq (.region false r198_1) (.cond (.g 6) (.seq (.region false r198_2) (.ret)) (.skip))) (.seq (.seq (.region false r198_3) (.block 0 (l198_0))) (.seq (.region false r198_8) (.ret))))
def F198 : F := ⟨1, [0, 2, 3, 6, 10, 28], [.t 2], none, c198⟩
attribute [go_sem] r198_0 r198_1 r198_2 r198_3 r198_4 r198_5 r198_6 r198_7 b198_0 r198_8 c198 F198
def r200_0 : List Op := [t_ 5 <|.box (.g 2),t_ 6 <|.mov (.c (.slice 2 [])),t_ 7 <|.mov (ci 0)]
def r200_1 : List Op := [f_ 14 <|.mov (.g 0),f_ 15 <|.call (.k 203) .no none [.l 0],f_ 16 <|.un .not (.l 1),f_ 17 <|.mov (.l 2),n_ 18 3 <|.mov (.g 1),n_ 19 3 <|.call (.k 170) .no none [.l 4],n_ 20 3 <|.un .not (.l 5),t_ 21 <|.pick (.l 3) (cb true) (.l 6)]
def r200_2 : List Op := [t_ 6 <|.mov (.c (.slice 2 [])),t_ 7 <|.mov (ci 1)]
def r200_3 : List Op := [f_ 23 <|.mov (.g 0),f_ 24 <|.mov (.g 1),f_ 25 <|.call (.k 220) .no none [.l 0, .l 1],f_ 22 <|.mov (.l 2),f_ 26 <|.ext (.l 3) 0,f_ 27 <|.ext (.l 3) 1,t_ 8 <|.mov (.l 4),t_ 9 <|.mov (.l 5)]
def r200_4 : List Op := [t_ 10 <|.mov (.c (.slice 5 []))]
def r200_5 : List Op := [t_ 28 <|.mov (.g 9)]
def r200_6 : List Op := [f_ 29 <|.mov (.g 0),f_ 30 <|.mov (.g 8),f_ 31 <|.iad 2 (.l 0) (.l 1),f_ 32 <|.fad (.l 2) 1,f_ 33 <|.load (.c) none (.l 3),t_ 10 <|.mov (.l 4)]
def r200_7 : List Op := [f_ 35 <|.mov (.g 10),f_ 36 <|.load (.v 5) (some 5) (.g 5),f_ 37 <|.call (.k 3) .no none [.l 0, .l 1],f_ 34 <|.mov (.l 2),f_ 38 <|.ext (.l 3) 0,f_ 39 <|.ext (.l 3) 1,t_ 11 <|.mov (.l 4),t_ 12 <|.mov (.l 5)]
def r200_8 : List Op := [f_ 41 <|.mov (.g 12),f_ 42 <|.bin .neq (.l 0) (ci 0),t_ 40 <|.mov (.l 1)]
def r200_9 : List Op := [f_ 43 <|.mov (.g 12),t_ 6 <|.mov (.c (.slice 2 [])),t_ 7 <|.mov (.l 0)]
def r200_10 : List Op := [f_ 45 <|.mov (.g 9),f_ 46 <|.un .not (.l 0),f_ 47 <|.mov (.l 1),y_ 48 2 <|.mov (.g 0),y_ 49 2 <|.len false (.l 3),y_ 50 2 <|.bin .eql (.l 4) (ci 64),f_ 51 <|.pick (.l 2) (.l 5) (cb false),t_ 44 <|.mov (.l 6)]
def r200_11 : List Op := [t_ 6 <|.mov (.c (.slice 2 [])),t_ 7 <|.mov (ci 6)]
def r200_12 : List Op := [f_ 52 <|.mov (.g 0),f_ 53 <|.call (.k 221) .no (some 0) [.l 0],t_ 13 <|.mov (.l 1)]
def r200_13 : List Op := [f_ 54 <|.mov (.g 9),t_ 55 <|.un .not (.l 0)]
def r200_14 : List Op := [f_ 56 <|.mov (.g 13),f_ 57 <|.mov (.g 8),f_ 58 <|.mov (.g 1),f_ 59 <|.build [.str [], .slice 5 []] [(0, 1, .l 2)],f_ 60 <|.mks 2 1 [.str [], .slice 5 []] [(0, .l 3)],f_ 61 <|.ins 222 53 2 (.l 0) (.l 1) (.l 4),t_ 13 <|.mov (.l 5)]
def r200_15 : List Op := [f_ 62 <|.mov (.g 13),f_ 63 <|.mov (.g 8),f_ 64 <|.mov (.g 11),f_ 65 <|.iad 2 (.l 0) (.l 1),f_ 66 <|.fad (.l 3) 1,u_ <|.store (.e 53) 1 (.l 4) (.l 2)]
def r200_16 : List Op := [f_ 67 <|.mov (.g 13),t_ 6 <|.mov (.l 0),t_ 7 <|.mov (ci 0)]
def c200 : C := .seq (.region false r200_0) (.seq (.seq (.region false r200_1) (.cond (.g 21) (.seq (.region false r200_2) (.ret)) (.skip))) (.seq (.region false r200_3) (.seq (.region false r200_4) (.seq (.seq (.region false r200_5) (.cond (.g 28) (.region false r200_6) (.skip))) (.seq (.region false r200_7) (.seq (.block 0 (.seq (.region false r200_8) (.cond (.g 40) (.seq (.region false r200_9) (.ret)) (.seq (.region false r200_10) (.cond (.g 44) (.seq (.region false r200_11) (.ret)) (.skip)))))) (.seq (.region false r200_12) (.seq (.seq (.region false r200_13) (.cond (.g 55) (.region false r200_14) (.skip))) (.seq (.region false r200_15) (.seq (.region false r200_16) (.ret)))))))))))
def F200 : F := ⟨3, [0, 1, 2, 5, 6, 7, 8, 9, 10, 11, 12, 13, 21, 28, 40, 44, 55], [.t 6, .t 7], none, c200⟩
attribute [go_sem] r200_0 r200_1 r200_2 r200_3 r200_4 r200_5 r200_6 r200_7 r200_8 r200_9 r200_10 r200_11 r200_12 r200_13 r200_14 r200_15 r200_16 c200 F200
def r202_0 : List Op := [t_ 4 <|.mov (cb false)]
def r202_1 : List Op := [f_ 6 <|.mov (.g 0),f_ 7 <|.len false (.l 0),f_ 8 <|.mov (.g 1),f_ 9 <|.len false (.l 2),t_ 10 <|.bin .neq (.l 1) (.l 3)]
def r202_2 : List Op := [t_ 4 <|.mov (cb false)]
def r202_3 : List Op := [t_ 5 <|.mov (ci 0)]
def r202_4 : List Op := [f_ 11 <|.mov (.g 5),f_ 12 <|.mov (.g 0),f_ 13 <|.len false (.l 1),t_ 14 <|.bin .lss (.l 0) (.l 2)]
def r202_5 : List Op := [f_ 17 <|.mov (.g 0),f_ 18 <|.mov (.g 5),f_ 19 <|.iad 2 (.l 0) (.l 1),f_ 20 <|.fad (.l 2) 0,f_ 21 <|.load (.c) none (.l 3),f_ 22 <|.mov (.g 1),f_ 23 <|.mov (.g 5),f_ 24 <|.iad 2 (.l 5) (.l 6),f_ 25 <|.fad (.l 7) 0,f_ 26 <|.load (.c) none (.l 8),f_ 27 <|.bin .neq (.l 4) (.l 9),f_ 28 <|.mov (.l 10),n_ 29 11 <|.mov (.g 0),n_ 30 11 <|.mov (.g 5),n_ 31 11 <|.iad 2 (.l 12) (.l 13),n_ 32 11 <|.fad (.l 14) 1,n_ 33 11 <|.load (.c) none (.l 15),n_ 34 11 <|.mov (.g 1),n_ 35 11 <|.mov (.g 5),n_ 36 11 <|.iad 2 (.l 17) (.l 18),n_ 37 11 <|.fad (.l 19) 1,n_ 38 11 <|.load (.c) none (.l 20),n_ 39 11 <|.call (.k 8) .no none [.l 16, .l 21],n_ 40 11 <|.un .not (.l 22),t_ 41 <|.pick (.l 11) (cb true) (.l 23)]
def r202_6 : List Op := [t_ 4 <|.mov (cb false)]
def r202_7 : List Op := [f_ 15 <|.mov (.g 5),f_ 16 <|.bin .add (.l 0) (ci 1),t_ 5 <|.mov (.l 1)]
def b202_0 : C := .seq (.seq (.region false r202_4) (.cond (.g 14) (.skip) (.exit 0))) (.seq (.block 1 (.seq (.region true r202_5) (.cond (.g 41) (.seq (.region false r202_6) (.ret)) (.skip)))) (.region false r202_7))
def l202_0 : C := .loop [] [] [] [] b202_0
def r202_8 : List Op := [t_ 4 <|.mov (cb true)]
def c202 : C := .seq (.region false r202_0) (.seq (.seq (.region false r202_1) (.cond (.g 10) (.seq (.region false r202_2) (.ret)) (.skip))) (.seq (.seq (.region false r202_3) (.block 0 (l202_0))) (.seq (.region false r202_8) (.ret))))
def F202 : F := ⟨2, [0, 1, 4, 5, 10, 14, 41], [.t 4], none, c202⟩
attribute [go_sem] r202_0 r202_1 r202_2 r202_3 r202_4 r202_5 r202_6 r202_7 b202_0 r202_8 c202 F202
def r203_0 : List Op := [t_ 2 <|.mov (cb false)]
def r203_1 : List Op := [t_ 5 <|.mov (.g 0),t_ 6 <|.len false (.l 0),t_ 7 <|.mov (ci 0)]
def r203_2 : List Op := [t_ 8 <|.bin .lss (.g 7) (.g 6)]
def r203_3 : List Op := [f_ 9 <|.mov (.g 7),f_ 10 <|.iad 2 (.g 5) (.g 7),f_ 11 <|.load (.c) (some 2) (.l 1),t_ 4 <|.alloc [.str [], .slice 5 []],t_ 3 <|.mov (.l 0),u_ <|.store (.v 4) 2 (.l 3) (.l 2)]
def r203_4 : List Op := [f_ 12 <|.fad (.g 4) 0,f_ 13 <|.load (.v 4) none (.l 0),f_ 14 <|.call (.k 170) .no none [.l 1],f_ 15 <|.un .not (.l 2),f_ 16 <|.mov (.l 3),n_ 17 4 <|.fad (.g 4) 1,n_ 18 4 <|.load (.v 4) none (.l 5),n_ 19 4 <|.call (.k 7) .no none [.l 6],n_ 20 4 <|.un .not (.l 7),f_ 21 <|.pick (.l 4) (cb true) (.l 8),f_ 22 <|.mov (.l 9),n_ 23 10 <|.fad (.g 4) 1,n_ 24 10 <|.load (.v 4) none (.l 11),n_ 25 10 <|.len false (.l 12),n_ 26 10 <|.bin .eql (.l 13) (ci 0),f_ 27 <|.pick (.l 10) (cb true) (.l 14),f_ 28 <|.mov (.l 15),n_ 29 16 <|.mov (.g 3),n_ 30 16 <|.bin .gtr (.l 17) (ci 0),n_ 31 16 <|.mov (.l 18),y_ 32 19 <|.mov (.g 0),y_ 33 19 <|.mov (.g 3),y_ 34 19 <|.bin .sub (.l 21) (ci 1),y_ 35 19 <|.iad 2 (.l 20) (.l 22),y_ 36 19 <|.fad (.l 23) 0,y_ 37 19 <|.load (.c) none (.l 24),y_ 38 19 <|.fad (.g 4) 0,y_ 39 19 <|.load (.v 4) none (.l 26),y_ 40 19 <|.call (.k 192) .no none [.l 25, .l 27],y_ 41 19 <|.bin .geq (.l 28) (ci 0),n_ 42 16 <|.pick (.l 19) (.l 29) (cb false),t_ 43 <|.pick (.l 16) (cb true) (.l 30)]
def r203_5 : List Op := [t_ 2 <|.mov (cb false)]
def r203_6 : List Op := [f_ 44 <|.bin .add (.g 7) (ci 1),t_ 7 <|.mov (.l 0)]
def b203_0 : C := .seq (.region false r203_2) (.seq (.cond (.g 8) (.skip) (.exit 0)) (.seq (.block 1 (.seq (.region false r203_3) (.seq (.region true r203_4) (.cond (.g 43) (.seq (.region false r203_5) (.ret)) (.skip))))) (.region false r203_6)))
def l203_0 : C := .loop [] [] [4] [] b203_0
def r203_7 : List Op := [f_ 45 <|.mov (.g 0),f_ 46 <|.len false (.l 0),f_ 47 <|.bin .leq (.l 1) (ci 64),t_ 2 <|.mov (.l 2)]
def c203 : C := .seq (.region false r203_0) (.seq (.seq (.region false r203_1) (.block 0 (l203_0))) (.seq (.region false r203_7) (.ret)))
def F203 : F := ⟨1, [0, 2, 3, 4, 5, 6, 7, 8, 43], [.t 2], none, c203⟩
attribute [go_sem] r203_0 r203_1 r203_2 r203_3 r203_4 r203_5 r203_6 b203_0 r203_7 c203 F203
def r206_0 : List Op := [t_ 8 <|.box (.g 3),t_ 10 <|.mov (.c (.slice 2 [])),t_ 11 <|.mov (.c (.str [])),t_ 12 <|.mov (cb false)]
def r206_1 : List Op := [f_ 20 <|.mov (.g 0),f_ 21 <|.call (.k 203) .no none [.l 0],t_ 22 <|.un .not (.l 1)]
def r206_2 : List Op := [t_ 10 <|.mov (.c (.slice 2 [])),t_ 11 <|.mov (.c (.str [])),t_ 12 <|.mov (cb false)]
def r206_3 : List Op := [t_ 13 <|.mko 2]
def r206_4 : List Op := [f_ 24 <|.mov (.g 0),f_ 25 <|.mov (.g 1),f_ 26 <|.call (.k 220) .no none [.l 0, .l 1],f_ 23 <|.mov (.l 2),f_ 27 <|.ext (.l 3) 0,f_ 28 <|.ext (.l 3) 1,t_ 14 <|.mov (.l 4),f_ 15 <|.mov (.l 5)]
def r206_5 : List Op := [f_ 29 <|.mov (.g 0),f_ 30 <|.mov (.g 14),t_ 31 <|.sl false 2 (.l 0) (some (.l 1)) none,t_ 32 <|.len false (.l 2),t_ 33 <|.mov (ci 0)]
def r206_6 : List Op := [t_ 34 <|.bin .lss (.g 33) (.g 32)]
def r206_7 : List Op := [f_ 35 <|.iad 2 (.g 31) (.g 33),f_ 36 <|.load (.c) (some 2) (.l 0),t_ 17 <|.alloc [.str [], .slice 5 []],u_ <|.store (.v 17) 2 (.l 2) (.l 1)]
def r206_8 : List Op := [f_ 37 <|.mov (.g 2),f_ 38 <|.bin .neq (.l 0) (.c (.str [])),f_ 39 <|.mov (.l 1),y_ 40 2 <|.fad (.g 17) 0,y_ 41 2 <|.load (.v 17) none (.l 3),y_ 42 2 <|.mov (.g 2),y_ 43 2 <|.call (.k 192) .no none [.l 4, .l 5],y_ 44 2 <|.bin .geq (.l 6) (ci 0),t_ 45 <|.pick (.l 2) (.l 7) (cb false)]
def r206_9 : List Op := [f_ 47 <|.fad (.g 17) 1,f_ 48 <|.load (.v 17) none (.l 0),f_ 49 <|.load (.v 8) (some 3) (.g 8),f_ 50 <|.call (.k 12) .no none [.l 1, .l 2],f_ 46 <|.mov (.l 3),f_ 51 <|.ext (.l 4) 0,f_ 52 <|.ext (.l 4) 1,t_ 18 <|.mov (.l 5),t_ 19 <|.mov (.l 6)]
def r206_10 : List Op := [f_ 53 <|.mov (.g 19),t_ 54 <|.un .not (.l 0)]
def r206_11 : List Op := [f_ 55 <|.mov (.g 13),f_ 56 <|.len false (.l 0),f_ 57 <|.mov (.g 4),t_ 58 <|.bin .geq (.l 1) (.l 2)]
def r206_12 : List Op := [f_ 59 <|.mov (.g 13),f_ 60 <|.fad (.g 17) 0,f_ 61 <|.load (.v 17) none (.l 1),t_ 10 <|.mov (.l 0),t_ 11 <|.mov (.l 2),t_ 12 <|.mov (cb true)]
def r206_13 : List Op := [f_ 62 <|.mov (.g 13),f_ 63 <|.fad (.g 17) 0,f_ 64 <|.load (.v 17) none (.l 1),f_ 65 <|.mov (.g 18),f_ 66 <|.build [.str [], .str []] [(0, 1, .l 2), (1, 1, .l 3)],f_ 67 <|.mks 2 1 [.str [], .str []] [(0, .l 4)],f_ 68 <|.app 13 2 (.l 0) (.l 5),t_ 13 <|.mov (.l 6)]
def r206_14 : List Op := [f_ 69 <|.bin .add (.g 33) (ci 1),t_ 33 <|.mov (.l 0)]
def b206_0 : C := .seq (.region false r206_6) (.seq (.cond (.g 34) (.skip) (.exit 0)) (.seq (.block 1 (.seq (.region false r206_7) (.seq (.seq (.region false r206_8) (.cond (.g 45) (.exit 0) (.skip))) (.seq (.region false r206_9) (.seq (.seq (.region false r206_10) (.cond (.g 54) (.exit 1) (.skip))) (.seq (.seq (.region false r206_11) (.cond (.g 58) (.seq (.region true r206_12) (.ret)) (.skip))) (.region false r206_13))))))) (.region false r206_14)))
def l206_0 : C := .loop [] [] [17] [] b206_0
def r206_15 : List Op := [f_ 70 <|.mov (.g 13),t_ 10 <|.mov (.l 0),t_ 11 <|.mov (.c (.str [])),t_ 12 <|.mov (cb false)]
def c206 : C := .seq (.region false r206_0) (.seq (.seq (.region false r206_1) (.cond (.g 22) (.seq (.region false r206_2) (.ret)) (.skip))) (.seq (.region false r206_3) (.seq (.region false r206_4) (.seq (.seq (.region false r206_5) (.block 0 (l206_0))) (.seq (.region false r206_15) (.ret))))))
def F206 : F := ⟨5, [0, 1, 2, 3, 4, 8, 10, 11, 12, 13, 14, 17, 18, 19, 22, 31, 32, 33, 34, 45, 54, 58], [.t 10, .t 11, .t 12], none, c206⟩
attribute [go_sem] r206_0 r206_1 r206_2 r206_3 r206_4 r206_5 r206_6 r206_7 r206_8 r206_9 r206_10 r206_11 r206_12 r206_13 r206_14 b206_0 r206_15 c206 F206
def r220_0 : List Op := [t_ 4 <|.mov (ci 0),t_ 5 <|.mov (cb false)]
def r220_1 : List Op := [f_ 6 <|.mov (.g 0),f_ 7 <|.mov (.g 1),f_ 8 <|.call (.k 225) .no none [.l 0, .l 1, .f 226],f_ 9 <|.ext (.l 2) 0,f_ 10 <|.ext (.l 2) 1,t_ 4 <|.mov (.l 3),t_ 5 <|.mov (.l 4)]
def c220 : C := .seq (.region false r220_0) (.seq (.region false r220_1) (.ret))
def F220 : F := ⟨2, [0, 1, 4, 5], [.t 4, .t 5], none, c220⟩
attribute [go_sem] r220_0 r220_1 c220 F220
def r221_0 : List Op := [t_ 2 <|.mov (.c (.slice 2 []))]
def r221_1 : List Op := [f_ 5 <|.mov (.g 0),f_ 6 <|.call (.k 227) .no (some 0) [.l 0],t_ 3 <|.mov (.l 1)]
def r221_2 : List Op := [f_ 7 <|.mov (.g 3),t_ 8 <|.len false (.l 0),t_ 9 <|.mov (ci 0)]
def r221_3 : List Op := [t_ 10 <|.bin .lss (.g 9) (.g 8)]
def r221_4 : List Op := [f_ 11 <|.mov (.g 9),t_ 4 <|.mov (.l 0)]
def r221_5 : List Op := [f_ 12 <|.mov (.g 3),f_ 13 <|.mov (.g 4),f_ 14 <|.mov (.g 3),f_ 15 <|.mov (.g 4),f_ 16 <|.iad 2 (.l 2) (.l 3),f_ 17 <|.fad (.l 4) 1,f_ 18 <|.load (.e 6) none (.l 5),f_ 19 <|.call (.k 23) .no none [.l 6],f_ 20 <|.iad 2 (.l 0) (.l 1),f_ 21 <|.fad (.l 8) 1,u_ <|.store (.e 6) 1 (.l 9) (.l 7)]
def r221_6 : List Op := [f_ 22 <|.bin .add (.g 9) (ci 1),t_ 9 <|.mov (.l 0)]
def b221_0 : C := .seq (.region false r221_3) (.seq (.cond (.g 10) (.skip) (.exit 0)) (.seq (.block 1 (.seq (.region false r221_4) (.region false r221_5))) (.region false r221_6)))
def l221_0 : C := .loop [] [] [] [] b221_0
def r221_7 : List Op := [f_ 23 <|.mov (.g 3),t_ 2 <|.mov (.l 0)]
def c221 : C := .seq (.region false r221_0) (.seq (.region false r221_1) (.seq (.seq (.region false r221_2) (.block 0 (l221_0))) (.seq (.region false r221_7) (.ret))))
def F221 : F := ⟨1, [0, 2, 3, 4, 8, 9, 10], [.t 2], some 0, c221⟩
attribute [go_sem] r221_0 r221_1 r221_2 r221_3 r221_4 r221_5 r221_6 b221_0 r221_7 c221 F221
def r225_0 : List Op := [t_ 6 <|.mov (ci 0),t_ 7 <|.mov (cb false)]
def r225_1 : List Op := [f_ 12 <|.mov (.g 0),f_ 13 <|.len false (.l 0),t_ 8 <|.mov (.l 1)]
def r225_2 : List Op := [f_ 14 <|.mov (.g 8),t_ 9 <|.mov (ci 0),t_ 10 <|.mov (.l 0)]
def r225_3 : List Op := [f_ 15 <|.mov (.g 9),f_ 16 <|.mov (.g 10),t_ 17 <|.bin .lss (.l 0) (.l 1)]
def r225_4 : List Op := [f_ 18 <|.mov (.g 9),f_ 19 <|.mov (.g 10),f_ 20 <|.bin .add (.l 0) (.l 1),f_ 21 <|.conv (.int .u64) (.l 2),f_ 22 <|.sh .shr (.l 3) (.c (.int .u64 1)),f_ 23 <|.conv (.int .i64) (.l 4),t_ 11 <|.mov (.l 5)]
def r225_5 : List Op := [f_ 24 <|.mov (.g 2),f_ 25 <|.mov (.g 0),f_ 26 <|.mov (.g 11),f_ 27 <|.iad 2 (.l 1) (.l 2),f_ 28 <|.load (.c) (some 2) (.l 3),f_ 29 <|.mov (.g 1),f_ 30 <|.call (.v (.l 0)) .no none [.l 4, .l 5],t_ 31 <|.bin .lss (.l 6) (ci 0)]
def r225_6 : List Op := [f_ 32 <|.mov (.g 11),f_ 33 <|.bin .add (.l 0) (ci 1),t_ 9 <|.mov (.l 1)]
def r225_7 : List Op := [f_ 34 <|.mov (.g 11),t_ 10 <|.mov (.l 0)]
def b225_0 : C := .seq (.seq (.region false r225_3) (.cond (.g 17) (.skip) (.exit 0))) (.block 1 (.seq (.region false r225_4) (.seq (.region false r225_5) (.cond (.g 31) (.region false r225_6) (.region false r225_7)))))
def l225_0 : C := .loop [] [] [] [] b225_0
def r225_8 : List Op := [f_ 35 <|.mov (.g 9),f_ 36 <|.mov (.g 9),f_ 37 <|.mov (.g 8),f_ 38 <|.bin .lss (.l 1) (.l 2),f_ 39 <|.mov (.l 3),y_ 40 4 <|.mov (.g 2),y_ 41 4 <|.mov (.g 0),y_ 42 4 <|.mov (.g 9),y_ 43 4 <|.iad 2 (.l 6) (.l 7),y_ 44 4 <|.load (.c) (some 2) (.l 8),y_ 45 4 <|.mov (.g 1),y_ 46 4 <|.call (.v (.l 5)) .no none [.l 9, .l 10],y_ 47 4 <|.bin .eql (.l 11) (ci 0),f_ 48 <|.pick (.l 4) (.l 12) (cb false),t_ 6 <|.mov (.l 0),t_ 7 <|.mov (.l 13)]
def c225 : C := .seq (.region false r225_0) (.seq (.region false r225_1) (.seq (.region false r225_2) (.seq (.block 0 (l225_0)) (.seq (.region false r225_8) (.ret)))))
def F225 : F := ⟨3, [0, 1, 2, 6, 7, 8, 9, 10, 11, 17, 31], [.t 6, .t 7], none, c225⟩
attribute [go_sem] r225_0 r225_1 r225_2 r225_3 r225_4 r225_5 r225_6 r225_7 b225_0 r225_8 c225 F225
def r226_0 : List Op := [t_ 2 <|.box (.g 0),t_ 4 <|.mov (ci 0)]
def r226_1 : List Op := [f_ 5 <|.fad (.g 2) 0,f_ 6 <|.load (.v 2) none (.l 0),f_ 7 <|.mov (.g 1),f_ 8 <|.call (.k 192) .no none [.l 1, .l 2],t_ 4 <|.mov (.l 3)]
def c226 : C := .seq (.region false r226_0) (.seq (.region false r226_1) (.ret))
def F226 : F := ⟨2, [0, 1, 2, 4], [.t 4], none, c226⟩
attribute [go_sem] r226_0 r226_1 c226 F226
end Sg
namespace Sg
open _root_.Go (IntKind BinOp UnOp)
def r238_0 : List Op := [t_ 1 <|.box (.g 0),t_ 2 <|.mov (cb false)]
def r238_1 : List Op := [f_ 4 <|.fad (.g 1) 0,f_ 5 <|.load (.v 1) none (.l 0),f_ 6 <|.len false (.l 1),t_ 7 <|.bin .gtr (.l 2) (ci 12)]
def r238_2 : List Op := [t_ 2 <|.mov (cb false)]
def r238_3 : List Op := [t_ 3 <|.mov (ci 0)]
def r238_4 : List Op := [f_ 8 <|.mov (.g 3),f_ 9 <|.fad (.g 1) 0,f_ 10 <|.load (.v 1) none (.l 1),f_ 11 <|.len false (.l 2),t_ 12 <|.bin .lss (.l 0) (.l 3)]
def r238_5 : List Op := [f_ 15 <|.fad (.g 1) 0,f_ 16 <|.load (.v 1) none (.l 0),f_ 17 <|.mov (.g 3),f_ 18 <|.iad 17 (.l 1) (.l 2),f_ 19 <|.load (.c) (some 17) (.l 3),f_ 20 <|.call (.k 252) .no none [.l 4],t_ 21 <|.un .not (.l 5)]
def r238_6 : List Op := [t_ 2 <|.mov (cb false)]
def r238_7 : List Op := [f_ 13 <|.mov (.g 3),f_ 14 <|.bin .add (.l 0) (ci 1),t_ 3 <|.mov (.l 1)]
def b238_0 : C := .seq (.seq (.region false r238_4) (.cond (.g 12) (.skip) (.exit 0))) (.seq (.block 1 (.seq (.region false r238_5) (.cond (.g 21) (.seq (.region false r238_6) (.ret)) (.skip)))) (.region false r238_7))
def l238_0 : C := .loop [] [] [] [] b238_0
def r238_8 : List Op := [t_ 2 <|.mov (cb true)]
def c238 : C := .seq (.region false r238_0) (.seq (.seq (.region false r238_1) (.cond (.g 7) (.seq (.region false r238_2) (.ret)) (.skip))) (.seq (.seq (.region false r238_3) (.block 0 (l238_0))) (.seq (.region false r238_8) (.ret))))
def F238 : F := ⟨1, [0, 1, 2, 3, 7, 12, 21], [.t 2], none, c238⟩
attribute [go_sem] r238_0 r238_1 r238_2 r238_3 r238_4 r238_5 r238_6 r238_7 b238_0 r238_8 c238 F238
def r239_0 : List Op := [t_ 0 <|.mov (cb false)]
def r239_1 : List Op := [f_ 6 <|.build [.int .i64 0, .int .i64 0, .str [], .str [], .int .i64 0, .slice 2 [], .int .i64 0, .int .i64 0, .int .i64 0, .int .i64 0, .int .i64 0, .int .i64 0, .slice 11 [], .int .i64 0, .int .i64 0, .int .i64 0, .int .i64 0] [(0, 1, .c (.int .i64 1)), (1, 1, .c (.int .i64 1)), (4, 1, .c (.int .i64 1))],f_ 7 <|.mks 17 1 [.int .i64 0, .int .i64 0, .str [], .str [], .int .i64 0, .slice 2 [], .int .i64 0, .int .i64 0, .int .i64 0, .int .i64 0, .int .i64 0, .int .i64 0, .slice 11 [], .int .i64 0, .int .i64 0, .int .i64 0, .int .i64 0] [(0, .l 0)],f_ 8 <|.build [.slice 17 [], .int .i64 0, .int .i64 0, .int .i64 0, .int .i64 0] [(0, 1, .l 1)],t_ 1 <|.alloc [.slice 17 [], .int .i64 0, .int .i64 0, .int .i64 0, .int .i64 0],u_ <|.store (.v 1) 5 (.l 3) (.l 2)]
def r239_2 : List Op := [f_ 10 <|.load (.v 1) (some 5) (.g 1),f_ 11 <|.build [.int .i64 0, .int .i64 0, .int .i64 0, .str [], .str [], .bool false, .str [], .int .i64 0, .int .i64 0, .int .i64 0, .str [], .int .i64 0] [(0, 1, .c (.int .i64 1)), (1, 1, .c (.int .i64 1)), (2, 1, .c (.int .i64 1)), (3, 1, .c (.str [97])), (4, 1, .c (.str [120]))],f_ 12 <|.call (.k 283) .no none [.c (.int .i64 5)],f_ 13 <|.call (.k 240) .no none [.l 0, .c (.int .i64 1), .c (.int .i64 1), .l 1, .l 2, .c (.int .i64 0)],f_ 9 <|.mov (.l 3),f_ 14 <|.ext (.l 4) 0,f_ 15 <|.ext (.l 4) 1,t_ 2 <|.alloc [.slice 17 [], .int .i64 0, .int .i64 0, .int .i64 0, .int .i64 0],t_ 3 <|.alloc [.int .i64 0, .int .i64 0, .int .i64 0, .int .i64 0, .bool false, .str [], .slice 2 [], .str [], .bool false],u_ <|.store (.v 2) 5 (.l 7) (.l 5),u_ <|.store (.v 3) 9 (.l 8) (.l 6)]
def r239_3 : List Op := [f_ 17 <|.load (.v 2) (some 5) (.g 2),f_ 18 <|.build [.int .i64 0, .int .i64 0, .int .i64 0, .str [], .str [], .bool false, .str [], .int .i64 0, .int .i64 0, .int .i64 0, .str [], .int .i64 0] [(0, 1, .c (.int .i64 1)), (1, 1, .c (.int .i64 2)), (2, 1, .c (.int .i64 4)), (3, 1, .c (.str [97]))],f_ 19 <|.call (.k 283) .no none [.c (.int .i64 6)],f_ 20 <|.call (.k 240) .no none [.l 0, .c (.int .i64 1), .c (.int .i64 1), .l 1, .l 2, .c (.int .i64 0)],f_ 16 <|.mov (.l 3),f_ 21 <|.ext (.l 4) 0,f_ 22 <|.ext (.l 4) 1,f_ 4 <|.alloc [.slice 17 [], .int .i64 0, .int .i64 0, .int .i64 0, .int .i64 0],t_ 5 <|.alloc [.int .i64 0, .int .i64 0, .int .i64 0, .int .i64 0, .bool false, .str [], .slice 2 [], .str [], .bool false],u_ <|.store (.v 4) 5 (.l 7) (.l 5),u_ <|.store (.v 5) 9 (.l 8) (.l 6)]
def r239_4 : List Op := [f_ 23 <|.load (.v 2) (some 5) (.g 2),f_ 24 <|.call (.k 249) .no none [.l 0],f_ 25 <|.mov (.l 1),y_ 26 2 <|.fad (.g 3) 1,y_ 27 2 <|.load (.v 3) (some 3) (.l 3),y_ 28 2 <|.call (.k 283) .no none [.c (.int .i64 5)],y_ 29 2 <|.eqa false [.i, .i, .i] (.l 4) (.l 5),f_ 30 <|.pick (.l 2) (.l 6) (cb false),f_ 31 <|.mov (.l 7),y_ 32 8 <|.fad (.g 3) 0,y_ 33 8 <|.load (.v 3) none (.l 9),y_ 34 8 <|.bin .eql (.l 10) (ci 0),f_ 35 <|.pick (.l 8) (.l 11) (cb false),f_ 36 <|.mov (.l 12),y_ 37 13 <|.fad (.g 5) 4,y_ 38 13 <|.load (.v 5) none (.l 14),f_ 39 <|.pick (.l 13) (.l 15) (cb false),f_ 40 <|.mov (.l 16),y_ 41 17 <|.fad (.g 5) 5,y_ 42 17 <|.load (.v 5) none (.l 18),y_ 43 17 <|.bin .eql (.l 19) (.c (.str [120])),f_ 44 <|.pick (.l 17) (.l 20) (cb false),f_ 45 <|.mov (.l 21),y_ 46 22 <|.fad (.g 5) 1,y_ 47 22 <|.load (.v 5) (some 3) (.l 23),y_ 48 22 <|.call (.k 283) .no none [.c (.int .i64 5)],y_ 49 22 <|.eqa false [.i, .i, .i] (.l 24) (.l 25),f_ 50 <|.pick (.l 22) (.l 26) (cb false),t_ 0 <|.mov (.l 27)]
def c239 : C := .seq (.region false r239_0) (.seq (.region false r239_1) (.seq (.region true r239_2) (.seq (.region true r239_3) (.seq (.region true r239_4) (.ret)))))
def F239 : F := ⟨0, [0, 1, 2, 3, 5], [.t 0], none, c239⟩
attribute [go_sem] r239_0 r239_1 r239_2 r239_3 r239_4 c239 F239
def r240_0 : List Op := [t_ 6 <|.box (.g 0),t_ 9 <|.box (.g 3),t_ 10 <|.box (.g 4),t_ 12 <|.alloc [.slice 17 [], .int .i64 0, .int .i64 0, .int .i64 0, .int .i64 0],t_ 13 <|.alloc [.int .i64 0, .int .i64 0, .int .i64 0, .int .i64 0, .bool false, .str [], .slice 2 [], .str [], .bool false]]
def r240_1 : List Op := [f_ 16 <|.load (.v 6) (some 5) (.g 6),f_ 17 <|.call (.k 249) .no none [.l 0],f_ 18 <|.un .not (.l 1),f_ 19 <|.mov (.l 2),n_ 20 3 <|.mov (.g 1),n_ 21 3 <|.mov (.g 2),n_ 22 3 <|.mks 1 2 [.int .i64 0] [(0, .l 4), (1, .l 5)],n_ 23 3 <|.call (.k 284) .no none [.c (.int .i64 1), .l 6],n_ 24 3 <|.un .not (.l 7),f_ 25 <|.pick (.l 3) (cb true) (.l 8),f_ 26 <|.mov (.l 9),n_ 27 10 <|.mov (.g 5),n_ 28 10 <|.mks 1 1 [.int .i64 0] [(0, .l 11)],n_ 29 10 <|.call (.k 284) .no none [.c (.int .i64 0), .l 12],n_ 30 10 <|.un .not (.l 13),f_ 31 <|.pick (.l 10) (cb true) (.l 14),f_ 32 <|.mov (.l 15),n_ 33 16 <|.load (.v 10) (some 3) (.g 10),n_ 34 16 <|.call (.k 28) .no none [.l 17],n_ 35 16 <|.un .not (.l 18),f_ 36 <|.pick (.l 16) (cb true) (.l 19),f_ 37 <|.mov (.l 20),n_ 38 21 <|.load (.v 9) (some 12) (.g 9),n_ 39 21 <|.call (.k 285) .no none [.l 22],n_ 40 21 <|.un .not (.l 23),t_ 41 <|.pick (.l 21) (cb true) (.l 24)]
def r240_2 : List Op := [f_ 42 <|.load (.v 6) (some 5) (.g 6),f_ 43 <|.call (.k 286) .no none [.c (.int .i64 1)],u_ <|.store (.v 12) 5 (.g 12) (.l 0),u_ <|.store (.v 13) 9 (.g 13) (.l 1)]
def r240_3 : List Op := [f_ 44 <|.load (.v 6) (some 5) (.g 6),f_ 45 <|.mov (.g 1),f_ 46 <|.call (.k 287) .no none [.l 0, .l 1],t_ 14 <|.alloc [.int .i64 0, .int .i64 0, .str [], .str [], .int .i64 0, .slice 2 [], .int .i64 0, .int .i64 0, .int .i64 0, .int .i64 0, .int .i64 0, .int .i64 0, .slice 11 [], .int .i64 0, .int .i64 0, .int .i64 0, .int .i64 0],u_ <|.store (.v 14) 17 (.l 3) (.l 2)]
def r240_4 : List Op := [f_ 47 <|.fad (.g 9) 3,f_ 48 <|.load (.v 9) none (.l 0),f_ 49 <|.bin .eql (.l 1) (.c (.str [])),f_ 50 <|.mov (.l 2),y_ 51 3 <|.fad (.g 14) 2,y_ 52 3 <|.fad (.l 4) 0,y_ 53 3 <|.load (.v 14) none (.l 5),y_ 54 3 <|.bin .eql (.l 6) (.c (.str [])),f_ 55 <|.pick (.l 3) (.l 7) (cb false),f_ 56 <|.mov (.l 8),n_ 57 9 <|.fad (.g 14) 2,n_ 58 9 <|.load (.v 14) (some 2) (.l 10),n_ 59 9 <|.fad (.g 9) 3,n_ 60 9 <|.load (.v 9) none (.l 12),n_ 61 9 <|.call (.k 171) .no none [.l 11, .l 13],f_ 62 <|.pick (.l 9) (cb true) (.l 14),t_ 15 <|.mov (.l 15)]
def r240_5 : List Op := [f_ 64 <|.fad (.g 14) 0,f_ 65 <|.load (.v 14) none (.l 0),f_ 66 <|.bin .eql (.l 1) (ci 0),f_ 67 <|.mov (.l 2),n_ 68 3 <|.fad (.g 14) 1,n_ 69 3 <|.load (.v 14) none (.l 4),n_ 70 3 <|.mov (.g 2),n_ 71 3 <|.bin .neq (.l 5) (.l 6),f_ 72 <|.pick (.l 3) (cb true) (.l 7),f_ 73 <|.mov (.l 8),n_ 74 9 <|.mov (.g 15),n_ 75 9 <|.un .not (.l 10),f_ 76 <|.pick (.l 9) (cb true) (.l 11),t_ 63 <|.mov (.l 12)]
def r240_6 : List Op := [f_ 77 <|.load (.v 6) (some 5) (.g 6),f_ 78 <|.call (.k 286) .no none [.c (.int .i64 10)],u_ <|.store (.v 12) 5 (.g 12) (.l 0),u_ <|.store (.v 13) 9 (.g 13) (.l 1)]
def r240_7 : List Op := [f_ 80 <|.fad (.g 14) 4,f_ 81 <|.load (.v 14) none (.l 0),f_ 82 <|.bin .neq (.l 1) (ci 1),f_ 83 <|.mov (.l 2),n_ 84 3 <|.load (.v 9) (some 12) (.g 9),n_ 85 3 <|.call (.k 288) .no none [.l 4],n_ 86 3 <|.mov (.l 5),y_ 87 6 <|.fad (.g 14) 13,y_ 88 6 <|.load (.v 14) none (.l 7),y_ 89 6 <|.bin .neq (.l 8) (ci 0),n_ 90 3 <|.pick (.l 6) (.l 9) (cb false),f_ 91 <|.pick (.l 3) (cb true) (.l 10),t_ 79 <|.mov (.l 11)]
def r240_8 : List Op := [f_ 92 <|.load (.v 6) (some 5) (.g 6),f_ 93 <|.call (.k 286) .no none [.c (.int .i64 11)],u_ <|.store (.v 12) 5 (.g 12) (.l 0),u_ <|.store (.v 13) 9 (.g 13) (.l 1)]
def r240_9 : List Op := [f_ 95 <|.load (.v 9) (some 12) (.g 9),f_ 96 <|.call (.k 288) .no none [.l 0],t_ 94 <|.mov (.l 1)]
def r240_10 : List Op := [f_ 97 <|.load (.v 6) (some 5) (.g 6),f_ 98 <|.load (.v 14) (some 17) (.g 14),f_ 99 <|.load (.v 9) (some 12) (.g 9),f_ 100 <|.load (.v 10) (some 3) (.g 10),f_ 101 <|.call (.k 289) .no none [.l 0, .l 1, .l 2, .l 3],f_ 102 <|.ext (.l 4) 0,f_ 103 <|.ext (.l 4) 1,u_ <|.store (.v 12) 5 (.g 12) (.l 5),u_ <|.store (.v 13) 9 (.g 13) (.l 6)]
def r240_11 : List Op := [f_ 105 <|.fad (.g 9) 2,f_ 106 <|.load (.v 9) none (.l 0),f_ 107 <|.bin .eql (.l 1) (ci 4),t_ 104 <|.mov (.l 2)]
def r240_12 : List Op := [f_ 108 <|.load (.v 6) (some 5) (.g 6),f_ 109 <|.load (.v 6) (some 5) (.g 6),f_ 110 <|.load (.v 14) (some 17) (.g 14),f_ 111 <|.fad (.g 9) 3,f_ 112 <|.load (.v 9) none (.l 3),f_ 113 <|.call (.k 290) .no none [.l 1, .l 2, .l 4],u_ <|.store (.v 12) 5 (.g 12) (.l 0),u_ <|.store (.v 13) 9 (.g 13) (.l 5)]
def r240_13 : List Op := [f_ 114 <|.load (.v 6) (some 5) (.g 6),f_ 115 <|.load (.v 14) (some 17) (.g 14),f_ 116 <|.load (.v 9) (some 12) (.g 9),f_ 117 <|.mov (.g 5),f_ 118 <|.call (.k 291) .no none [.l 0, .l 1, .l 2, .l 3],f_ 119 <|.ext (.l 4) 0,f_ 120 <|.ext (.l 4) 1,u_ <|.store (.v 12) 5 (.g 12) (.l 5),u_ <|.store (.v 13) 9 (.g 13) (.l 6)]
def c240 : C := .seq (.region false r240_0) (.seq (.seq (.region false r240_1) (.cond (.g 41) (.seq (.region true r240_2) (.ret)) (.skip))) (.seq (.region false r240_3) (.seq (.region false r240_4) (.seq (.block 0 (.seq (.region false r240_5) (.cond (.g 63) (.seq (.region true r240_6) (.ret)) (.seq (.region false r240_7) (.cond (.g 79) (.seq (.region true r240_8) (.ret)) (.seq (.region false r240_9) (.cond (.g 94) (.seq (.region false r240_10) (.ret)) (.seq (.region false r240_11) (.cond (.g 104) (.seq (.region true r240_12) (.ret)) (.skip)))))))))) (.seq (.region false r240_13) (.ret))))))
def F240 : F := ⟨6, [0, 1, 2, 3, 4, 5, 6, 9, 10, 12, 13, 14, 15, 41, 63, 79, 94, 104], [.cell 12 (some 5), .cell 13 (some 9)], none, c240⟩
attribute [go_sem] r240_0 r240_1 r240_2 r240_3 r240_4 r240_5 r240_6 r240_7 r240_8 r240_9 r240_10 r240_11 r240_12 r240_13 c240 F240
def r242_0 : List Op := [t_ 2 <|.box (.g 0),t_ 3 <|.box (.g 1),t_ 4 <|.mov (cb false)]
def r242_1 : List Op := [f_ 6 <|.fad (.g 2) 0,f_ 7 <|.load (.v 2) none (.l 0),f_ 8 <|.len false (.l 1),f_ 9 <|.fad (.g 3) 0,f_ 10 <|.load (.v 3) none (.l 3),f_ 11 <|.len false (.l 4),f_ 12 <|.bin .neq (.l 2) (.l 5),f_ 13 <|.mov (.l 6),n_ 14 7 <|.fad (.g 2) 1,n_ 15 7 <|.load (.v 2) (some 3) (.l 8),n_ 16 7 <|.fad (.g 3) 1,n_ 17 7 <|.load (.v 3) (some 3) (.l 10),n_ 18 7 <|.eqa true [.i, .i, .i] (.l 9) (.l 11),f_ 19 <|.pick (.l 7) (cb true) (.l 12),f_ 20 <|.mov (.l 13),n_ 21 14 <|.fad (.g 2) 4,n_ 22 14 <|.load (.v 2) none (.l 15),n_ 23 14 <|.fad (.g 3) 4,n_ 24 14 <|.load (.v 3) none (.l 17),n_ 25 14 <|.bin .neq (.l 16) (.l 18),t_ 26 <|.pick (.l 14) (cb true) (.l 19)]
def r242_2 : List Op := [t_ 4 <|.mov (cb false)]
def r242_3 : List Op := [t_ 5 <|.mov (ci 0)]
def r242_4 : List Op := [f_ 27 <|.mov (.g 5),f_ 28 <|.fad (.g 2) 0,f_ 29 <|.load (.v 2) none (.l 1),f_ 30 <|.len false (.l 2),t_ 31 <|.bin .lss (.l 0) (.l 3)]
def r242_5 : List Op := [f_ 34 <|.fad (.g 2) 0,f_ 35 <|.load (.v 2) none (.l 0),f_ 36 <|.mov (.g 5),f_ 37 <|.iad 17 (.l 1) (.l 2),f_ 38 <|.load (.c) (some 17) (.l 3),f_ 39 <|.fad (.g 3) 0,f_ 40 <|.load (.v 3) none (.l 5),f_ 41 <|.mov (.g 5),f_ 42 <|.iad 17 (.l 6) (.l 7),f_ 43 <|.load (.c) (some 17) (.l 8),f_ 44 <|.call (.k 250) .no none [.l 4, .l 9],t_ 45 <|.un .not (.l 10)]
def r242_6 : List Op := [t_ 4 <|.mov (cb false)]
def r242_7 : List Op := [f_ 32 <|.mov (.g 5),f_ 33 <|.bin .add (.l 0) (ci 1),t_ 5 <|.mov (.l 1)]
def b242_0 : C := .seq (.seq (.region false r242_4) (.cond (.g 31) (.skip) (.exit 0))) (.seq (.block 1 (.seq (.region true r242_5) (.cond (.g 45) (.seq (.region false r242_6) (.ret)) (.skip)))) (.region false r242_7))
def l242_0 : C := .loop [] [] [] [] b242_0
def r242_8 : List Op := [t_ 4 <|.mov (cb true)]
def c242 : C := .seq (.region false r242_0) (.seq (.seq (.region false r242_1) (.cond (.g 26) (.seq (.region false r242_2) (.ret)) (.skip))) (.seq (.seq (.region false r242_3) (.block 0 (l242_0))) (.seq (.region false r242_8) (.ret))))
def F242 : F := ⟨2, [0, 1, 2, 3, 4, 5, 26, 31, 45], [.t 4], none, c242⟩
attribute [go_sem] r242_0 r242_1 r242_2 r242_3 r242_4 r242_5 r242_6 r242_7 b242_0 r242_8 c242 F242
def r244_0 : List Op := [t_ 1 <|.box (.g 0),t_ 2 <|.mov (cb false)]
def r244_1 : List Op := [f_ 3 <|.fad (.g 1) 0,f_ 4 <|.load (.v 1) none (.l 0),f_ 5 <|.fad (.g 1) 1,f_ 6 <|.load (.v 1) none (.l 2),f_ 7 <|.mks 1 2 [.int .i64 0] [(0, .l 1), (1, .l 3)],f_ 8 <|.call (.k 284) .no none [.c (.int .i64 1), .l 4],f_ 9 <|.un .not (.l 5),f_ 10 <|.mov (.l 6),n_ 11 7 <|.fad (.g 1) 13,n_ 12 7 <|.load (.v 1) none (.l 8),n_ 13 7 <|.fad (.g 1) 14,n_ 14 7 <|.load (.v 1) none (.l 10),n_ 15 7 <|.fad (.g 1) 15,n_ 16 7 <|.load (.v 1) none (.l 12),n_ 17 7 <|.fad (.g 1) 16,n_ 18 7 <|.load (.v 1) none (.l 14),n_ 19 7 <|.mks 1 4 [.int .i64 0] [(0, .l 9), (1, .l 11), (2, .l 13), (3, .l 15)],n_ 20 7 <|.call (.k 284) .no none [.c (.int .i64 0), .l 16],n_ 21 7 <|.un .not (.l 17),f_ 22 <|.pick (.l 7) (cb true) (.l 18),f_ 23 <|.mov (.l 19),n_ 24 20 <|.fad (.g 1) 4,n_ 25 20 <|.load (.v 1) none (.l 21),n_ 26 20 <|.bin .lss (.l 22) (ci 1),f_ 27 <|.pick (.l 20) (cb true) (.l 23),f_ 28 <|.mov (.l 24),n_ 29 25 <|.fad (.g 1) 4,n_ 30 25 <|.load (.v 1) none (.l 26),n_ 31 25 <|.bin .gtr (.l 27) (ci 3),t_ 32 <|.pick (.l 25) (cb true) (.l 28)]
def r244_2 : List Op := [t_ 2 <|.mov (cb false)]
def r244_3 : List Op := [f_ 33 <|.fad (.g 1) 2,f_ 34 <|.load (.v 1) (some 2) (.l 0),f_ 35 <|.call (.k 186) .no none [.l 1],f_ 36 <|.un .not (.l 2),f_ 37 <|.mov (.l 3),n_ 38 4 <|.fad (.g 1) 5,n_ 39 4 <|.load (.v 1) none (.l 5),n_ 40 4 <|.call (.k 203) .no none [.l 6],n_ 41 4 <|.un .not (.l 7),f_ 42 <|.pick (.l 4) (cb true) (.l 8),f_ 43 <|.mov (.l 9),n_ 44 10 <|.fad (.g 1) 6,n_ 45 10 <|.load (.v 1) (some 3) (.l 11),n_ 46 10 <|.call (.k 28) .no none [.l 12],n_ 47 10 <|.un .not (.l 13),f_ 48 <|.pick (.l 10) (cb true) (.l 14),f_ 49 <|.mov (.l 15),n_ 50 16 <|.fad (.g 1) 9,n_ 51 16 <|.load (.v 1) (some 3) (.l 17),n_ 52 16 <|.call (.k 28) .no none [.l 18],n_ 53 16 <|.un .not (.l 19),f_ 54 <|.pick (.l 16) (cb true) (.l 20),f_ 55 <|.mov (.l 21),n_ 56 22 <|.fad (.g 1) 12,n_ 57 22 <|.load (.v 1) none (.l 23),n_ 58 22 <|.call (.k 81) .no none [.l 24],n_ 59 22 <|.un .not (.l 25),t_ 60 <|.pick (.l 22) (cb true) (.l 26)]
def r244_4 : List Op := [t_ 2 <|.mov (cb false)]
def r244_5 : List Op := [f_ 61 <|.fad (.g 1) 5,f_ 62 <|.load (.v 1) none (.l 0),f_ 63 <|.fn 298 [.g 1] [1],f_ 64 <|.call (.k 299) .no none [.l 1, .l 2],f_ 65 <|.un .not (.l 3),t_ 2 <|.mov (.l 4)]
def c244 : C := .seq (.region false r244_0) (.seq (.seq (.region false r244_1) (.cond (.g 32) (.seq (.region false r244_2) (.ret)) (.skip))) (.seq (.seq (.region false r244_3) (.cond (.g 60) (.seq (.region false r244_4) (.ret)) (.skip))) (.seq (.region false r244_5) (.ret))))
def F244 : F := ⟨1, [0, 1, 2, 32, 60], [.t 2], none, c244⟩
attribute [go_sem] r244_0 r244_1 r244_2 r244_3 r244_4 r244_5 c244 F244
def r249_0 : List Op := [t_ 1 <|.box (.g 0),t_ 2 <|.mov (cb false)]
def r249_1 : List Op := [t_ 3 <|.mov (ci 0)]
def r249_2 : List Op := [f_ 6 <|.fad (.g 1) 0,t_ 7 <|.load (.v 1) none (.l 0),t_ 8 <|.len false (.l 1),t_ 9 <|.mov (ci 0)]
def r249_3 : List Op := [t_ 10 <|.bin .lss (.g 9) (.g 8)]
def r249_4 : List Op := [f_ 11 <|.iad 17 (.g 7) (.g 9),f_ 12 <|.load (.c) (some 17) (.l 0),t_ 5 <|.alloc [.int .i64 0, .int .i64 0, .str [], .str [], .int .i64 0, .slice 2 [], .int .i64 0, .int .i64 0, .int .i64 0, .int .i64 0, .int .i64 0, .int .i64 0, .slice 11 [], .int .i64 0, .int .i64 0, .int .i64 0, .int .i64 0],u_ <|.store (.v 5) 17 (.l 2) (.l 1)]
def r249_5 : List Op := [f_ 13 <|.fad (.g 5) 0,f_ 14 <|.load (.v 5) none (.l 0),f_ 15 <|.mov (.g 3),f_ 16 <|.bin .leq (.l 1) (.l 2),f_ 17 <|.mov (.l 3),n_ 18 4 <|.load (.v 5) (some 17) (.g 5),n_ 19 4 <|.call (.k 244) .no none [.l 5],n_ 20 4 <|.un .not (.l 6),f_ 21 <|.pick (.l 4) (cb true) (.l 7),f_ 22 <|.mov (.l 8),n_ 23 9 <|.load (.v 5) (some 17) (.g 5),n_ 24 9 <|.fad (.g 1) 1,n_ 25 9 <|.load (.v 1) (some 3) (.l 11),n_ 26 9 <|.call (.k 301) .no none [.l 10, .l 12],n_ 27 9 <|.un .not (.l 13),t_ 28 <|.pick (.l 9) (cb true) (.l 14)]
def r249_6 : List Op := [t_ 2 <|.mov (cb false)]
def r249_7 : List Op := [f_ 29 <|.fad (.g 5) 0,f_ 30 <|.load (.v 5) none (.l 0),t_ 3 <|.mov (.l 1)]
def r249_8 : List Op := [f_ 31 <|.bin .add (.g 9) (ci 1),t_ 9 <|.mov (.l 0)]
def b249_0 : C := .seq (.region false r249_3) (.seq (.cond (.g 10) (.skip) (.exit 0)) (.seq (.block 1 (.seq (.region false r249_4) (.seq (.seq (.region false r249_5) (.cond (.g 28) (.seq (.region false r249_6) (.ret)) (.skip))) (.region false r249_7)))) (.region false r249_8)))
def l249_0 : C := .loop [] [] [5] [] b249_0
def r249_9 : List Op := [f_ 32 <|.fad (.g 1) 0,f_ 33 <|.load (.v 1) none (.l 0),f_ 34 <|.len false (.l 1),f_ 35 <|.bin .leq (.l 2) (ci 8),f_ 36 <|.mov (.l 3),y_ 37 4 <|.fad (.g 1) 1,y_ 38 4 <|.load (.v 1) (some 3) (.l 5),y_ 39 4 <|.call (.k 28) .no none [.l 6],f_ 40 <|.pick (.l 4) (.l 7) (cb false),f_ 41 <|.mov (.l 8),y_ 42 9 <|.fad (.g 1) 4,y_ 43 9 <|.load (.v 1) none (.l 10),y_ 44 9 <|.mks 1 1 [.int .i64 0] [(0, .l 11)],y_ 45 9 <|.call (.k 284) .no none [.c (.int .i64 0), .l 12],f_ 46 <|.pick (.l 9) (.l 13) (cb false),t_ 2 <|.mov (.l 14)]
def c249 : C := .seq (.region false r249_0) (.seq (.region false r249_1) (.seq (.seq (.region false r249_2) (.block 0 (l249_0))) (.seq (.region false r249_9) (.ret))))
def F249 : F := ⟨1, [0, 1, 2, 3, 5, 7, 8, 9, 10, 28], [.t 2], none, c249⟩
attribute [go_sem] r249_0 r249_1 r249_2 r249_3 r249_4 r249_5 r249_6 r249_7 r249_8 b249_0 r249_9 c249 F249
def r250_0 : List Op := [t_ 2 <|.box (.g 0),t_ 3 <|.box (.g 1),t_ 4 <|.mov (cb false)]
def r250_1 : List Op := [f_ 5 <|.fad (.g 2) 0,f_ 6 <|.load (.v 2) none (.l 0),f_ 7 <|.fad (.g 3) 0,f_ 8 <|.load (.v 3) none (.l 2),f_ 9 <|.bin .eql (.l 1) (.l 3),f_ 10 <|.mov (.l 4),y_ 11 5 <|.fad (.g 2) 1,y_ 12 5 <|.load (.v 2) none (.l 6),y_ 13 5 <|.fad (.g 3) 1,y_ 14 5 <|.load (.v 3) none (.l 8),y_ 15 5 <|.bin .eql (.l 7) (.l 9),f_ 16 <|.pick (.l 5) (.l 10) (cb false),f_ 17 <|.mov (.l 11),y_ 18 12 <|.fad (.g 2) 2,y_ 19 12 <|.load (.v 2) (some 2) (.l 13),y_ 20 12 <|.fad (.g 3) 2,y_ 21 12 <|.load (.v 3) (some 2) (.l 15),y_ 22 12 <|.eqa false [.s, .s] (.l 14) (.l 16),f_ 23 <|.pick (.l 12) (.l 17) (cb false),f_ 24 <|.mov (.l 18),y_ 25 19 <|.fad (.g 2) 4,y_ 26 19 <|.load (.v 2) none (.l 20),y_ 27 19 <|.fad (.g 3) 4,y_ 28 19 <|.load (.v 3) none (.l 22),y_ 29 19 <|.bin .eql (.l 21) (.l 23),f_ 30 <|.pick (.l 19) (.l 24) (cb false),f_ 31 <|.mov (.l 25),y_ 32 26 <|.fad (.g 2) 5,y_ 33 26 <|.load (.v 2) none (.l 27),y_ 34 26 <|.fad (.g 3) 5,y_ 35 26 <|.load (.v 3) none (.l 29),y_ 36 26 <|.call (.k 202) .no none [.l 28, .l 30],f_ 37 <|.pick (.l 26) (.l 31) (cb false),f_ 38 <|.mov (.l 32),y_ 39 33 <|.fad (.g 2) 6,y_ 40 33 <|.load (.v 2) (some 3) (.l 34),y_ 41 33 <|.fad (.g 3) 6,y_ 42 33 <|.load (.v 3) (some 3) (.l 36),y_ 43 33 <|.eqa false [.i, .i, .i] (.l 35) (.l 37),f_ 44 <|.pick (.l 33) (.l 38) (cb false),f_ 45 <|.mov (.l 39),y_ 46 40 <|.fad (.g 2) 9,y_ 47 40 <|.load (.v 2) (some 3) (.l 41),y_ 48 40 <|.fad (.g 3) 9,y_ 49 40 <|.load (.v 3) (some 3) (.l 43),y_ 50 40 <|.eqa false [.i, .i, .i] (.l 42) (.l 44),f_ 51 <|.pick (.l 40) (.l 45) (cb false),f_ 52 <|.mov (.l 46),y_ 53 47 <|.fad (.g 2) 12,y_ 54 47 <|.load (.v 2) none (.l 48),y_ 55 47 <|.fad (.g 3) 12,y_ 56 47 <|.load (.v 3) none (.l 50),y_ 57 47 <|.call (.k 86) .no none [.l 49, .l 51],f_ 58 <|.pick (.l 47) (.l 52) (cb false),f_ 59 <|.mov (.l 53),y_ 60 54 <|.fad (.g 2) 13,y_ 61 54 <|.load (.v 2) none (.l 55),y_ 62 54 <|.fad (.g 3) 13,y_ 63 54 <|.load (.v 3) none (.l 57),y_ 64 54 <|.bin .eql (.l 56) (.l 58),f_ 65 <|.pick (.l 54) (.l 59) (cb false),f_ 66 <|.mov (.l 60),y_ 67 61 <|.fad (.g 2) 14,y_ 68 61 <|.load (.v 2) none (.l 62),y_ 69 61 <|.fad (.g 3) 14,y_ 70 61 <|.load (.v 3) none (.l 64),y_ 71 61 <|.bin .eql (.l 63) (.l 65),f_ 72 <|.pick (.l 61) (.l 66) (cb false),f_ 73 <|.mov (.l 67),y_ 74 68 <|.fad (.g 2) 15,y_ 75 68 <|.load (.v 2) none (.l 69),y_ 76 68 <|.fad (.g 3) 15,y_ 77 68 <|.load (.v 3) none (.l 71),y_ 78 68 <|.bin .eql (.l 70) (.l 72),f_ 79 <|.pick (.l 68) (.l 73) (cb false),f_ 80 <|.mov (.l 74),y_ 81 75 <|.fad (.g 2) 16,y_ 82 75 <|.load (.v 2) none (.l 76),y_ 83 75 <|.fad (.g 3) 16,y_ 84 75 <|.load (.v 3) none (.l 78),y_ 85 75 <|.bin .eql (.l 77) (.l 79),f_ 86 <|.pick (.l 75) (.l 80) (cb false),t_ 4 <|.mov (.l 81)]
def c250 : C := .seq (.region false r250_0) (.seq (.region false r250_1) (.ret))
def F250 : F := ⟨2, [0, 1, 2, 3, 4], [.t 4], none, c250⟩
attribute [go_sem] r250_0 r250_1 c250 F250
def r252_0 : List Op := [t_ 1 <|.box (.g 0),t_ 2 <|.mov (cb false)]
def r252_1 : List Op := [f_ 3 <|.fad (.g 1) 5,f_ 4 <|.load (.v 1) none (.l 0),f_ 5 <|.call (.k 198) .no none [.l 1],f_ 6 <|.mov (.l 2),y_ 7 3 <|.fad (.g 1) 12,y_ 8 3 <|.load (.v 1) none (.l 4),y_ 9 3 <|.call (.k 78) .no none [.l 5],f_ 10 <|.pick (.l 3) (.l 6) (cb false),f_ 11 <|.mov (.l 7),y_ 12 8 <|.fad (.g 1) 2,y_ 13 8 <|.fad (.l 9) 0,y_ 14 8 <|.load (.v 1) none (.l 10),y_ 15 8 <|.len true (.l 11),y_ 16 8 <|.bin .lss (.l 12) (ci 100),f_ 17 <|.pick (.l 8) (.l 13) (cb false),f_ 18 <|.mov (.l 14),y_ 19 15 <|.fad (.g 1) 2,y_ 20 15 <|.fad (.l 16) 1,y_ 21 15 <|.load (.v 1) none (.l 17),y_ 22 15 <|.len true (.l 18),y_ 23 15 <|.bin .lss (.l 19) (ci 100),f_ 24 <|.pick (.l 15) (.l 20) (cb false),t_ 2 <|.mov (.l 21)]
def c252 : C := .seq (.region false r252_0) (.seq (.region false r252_1) (.ret))
def F252 : F := ⟨1, [0, 1, 2], [.t 2], none, c252⟩
attribute [go_sem] r252_0 r252_1 c252 F252
def r283_0 : List Op := [t_ 2 <|.alloc [.int .i64 0, .int .i64 0, .int .i64 0]]
def r283_1 : List Op := [f_ 3 <|.mov (.g 0),f_ 4 <|.build [.int .i64 0, .int .i64 0, .int .i64 0] [(0, 1, .l 0)],u_ <|.store (.v 2) 3 (.g 2) (.l 1)]
def c283 : C := .seq (.region false r283_0) (.seq (.region false r283_1) (.ret))
def F283 : F := ⟨1, [0, 2], [.cell 2 (some 3)], none, c283⟩
attribute [go_sem] r283_0 r283_1 c283 F283
def r284_0 : List Op := [t_ 2 <|.box (.g 0),t_ 4 <|.mov (cb false)]
def r284_1 : List Op := [f_ 5 <|.mov (.g 1),f_ 6 <|.fn 313 [.g 2] [2],f_ 7 <|.call (.k 67) .no none [.l 0, .l 1],f_ 8 <|.un .not (.l 2),t_ 4 <|.mov (.l 3)]
def c284 : C := .seq (.region false r284_0) (.seq (.region false r284_1) (.ret))
def F284 : F := ⟨2, [0, 1, 2, 4], [.t 4], none, c284⟩
attribute [go_sem] r284_0 r284_1 c284 F284
def r285_0 : List Op := [t_ 1 <|.box (.g 0),t_ 2 <|.mov (cb false)]
def r285_1 : List Op := [f_ 3 <|.fad (.g 1) 0,f_ 4 <|.load (.v 1) none (.l 0),f_ 5 <|.fad (.g 1) 1,f_ 6 <|.load (.v 1) none (.l 2),f_ 7 <|.mks 1 2 [.int .i64 0] [(0, .l 1), (1, .l 3)],f_ 8 <|.call (.k 284) .no none [.c (.int .i64 1), .l 4],f_ 9 <|.un .not (.l 5),f_ 10 <|.mov (.l 6),n_ 11 7 <|.fad (.g 1) 2,n_ 12 7 <|.load (.v 1) none (.l 8),n_ 13 7 <|.bin .lss (.l 9) (ci 1),f_ 14 <|.pick (.l 7) (cb true) (.l 10),f_ 15 <|.mov (.l 11),n_ 16 12 <|.fad (.g 1) 2,n_ 17 12 <|.load (.v 1) none (.l 13),n_ 18 12 <|.bin .gtr (.l 14) (ci 6),f_ 19 <|.pick (.l 12) (cb true) (.l 15),f_ 20 <|.mov (.l 16),n_ 21 17 <|.fad (.g 1) 4,n_ 22 17 <|.load (.v 1) none (.l 18),n_ 23 17 <|.len true (.l 19),n_ 24 17 <|.bin .gtr (.l 20) (ci 16),f_ 25 <|.pick (.l 17) (cb true) (.l 21),f_ 26 <|.mov (.l 22),n_ 27 23 <|.fad (.g 1) 6,n_ 28 23 <|.load (.v 1) none (.l 24),n_ 29 23 <|.len true (.l 25),n_ 30 23 <|.bin .gtr (.l 26) (ci 16),f_ 31 <|.pick (.l 23) (cb true) (.l 27),f_ 32 <|.mov (.l 28),n_ 33 29 <|.fad (.g 1) 11,n_ 34 29 <|.load (.v 1) none (.l 30),n_ 35 29 <|.bin .lss (.l 31) (ci 0),f_ 36 <|.pick (.l 29) (cb true) (.l 32),f_ 37 <|.mov (.l 33),n_ 38 34 <|.fad (.g 1) 11,n_ 39 34 <|.load (.v 1) none (.l 35),n_ 40 34 <|.bin .gtr (.l 36) (ci 8),f_ 41 <|.pick (.l 34) (cb true) (.l 37),f_ 42 <|.mov (.l 38),n_ 43 39 <|.fad (.g 1) 7,n_ 44 39 <|.load (.v 1) (some 3) (.l 40),n_ 45 39 <|.call (.k 28) .no none [.l 41],n_ 46 39 <|.un .not (.l 42),f_ 47 <|.pick (.l 39) (cb true) (.l 43),f_ 48 <|.mov (.l 44),n_ 49 45 <|.fad (.g 1) 10,n_ 50 45 <|.load (.v 1) none (.l 46),n_ 51 45 <|.bin .neq (.l 47) (.c (.str [])),n_ 52 45 <|.mov (.l 48),y_ 53 49 <|.fad (.g 1) 10,y_ 54 49 <|.load (.v 1) none (.l 50),y_ 55 49 <|.call (.k 170) .no none [.l 51],y_ 56 49 <|.un .not (.l 52),n_ 57 45 <|.pick (.l 49) (.l 53) (cb false),t_ 58 <|.pick (.l 45) (cb true) (.l 54)]
def r285_2 : List Op := [t_ 2 <|.mov (cb false)]
def r285_3 : List Op := [f_ 59 <|.fad (.g 1) 2,f_ 60 <|.load (.v 1) none (.l 0),t_ 61 <|.bin .eql (.l 1) (ci 6)]
def r285_4 : List Op := [f_ 62 <|.fad (.g 1) 3,f_ 63 <|.load (.v 1) none (.l 0),f_ 64 <|.bin .eql (.l 1) (.c (.str [])),f_ 65 <|.mov (.l 2),n_ 66 3 <|.fad (.g 1) 3,n_ 67 3 <|.load (.v 1) none (.l 4),n_ 68 3 <|.call (.k 170) .no none [.l 5],f_ 69 <|.pick (.l 3) (cb true) (.l 6),f_ 70 <|.mov (.l 7),y_ 71 8 <|.fad (.g 1) 11,y_ 72 8 <|.load (.v 1) none (.l 9),y_ 73 8 <|.bin .geq (.l 10) (ci 1),f_ 74 <|.pick (.l 8) (.l 11) (cb false),t_ 2 <|.mov (.l 12)]
def r285_5 : List Op := [f_ 75 <|.fad (.g 1) 3,f_ 76 <|.load (.v 1) none (.l 0),f_ 77 <|.call (.k 170) .no none [.l 1],t_ 2 <|.mov (.l 2)]
def c285 : C := .seq (.region false r285_0) (.seq (.seq (.region false r285_1) (.cond (.g 58) (.seq (.region false r285_2) (.ret)) (.skip))) (.seq (.seq (.region false r285_3) (.cond (.g 61) (.seq (.region false r285_4) (.ret)) (.skip))) (.seq (.region false r285_5) (.ret))))
def F285 : F := ⟨1, [0, 1, 2, 58, 61], [.t 2], none, c285⟩
attribute [go_sem] r285_0 r285_1 r285_2 r285_3 r285_4 r285_5 c285 F285
def r286_0 : List Op := [t_ 2 <|.alloc [.int .i64 0, .int .i64 0, .int .i64 0, .int .i64 0, .bool false, .str [], .slice 2 [], .str [], .bool false]]
def r286_1 : List Op := [f_ 3 <|.mov (.g 0),f_ 4 <|.build [.int .i64 0, .int .i64 0, .int .i64 0, .int .i64 0, .bool false, .str [], .slice 2 [], .str [], .bool false] [(0, 1, .l 0)],u_ <|.store (.v 2) 9 (.g 2) (.l 1)]
def c286 : C := .seq (.region false r286_0) (.seq (.region false r286_1) (.ret))
def F286 : F := ⟨1, [0, 2], [.cell 2 (some 9)], none, c286⟩
attribute [go_sem] r286_0 r286_1 c286 F286
def r287_0 : List Op := [t_ 2 <|.box (.g 0),t_ 4 <|.alloc [.int .i64 0, .int .i64 0, .str [], .str [], .int .i64 0, .slice 2 [], .int .i64 0, .int .i64 0, .int .i64 0, .int .i64 0, .int .i64 0, .int .i64 0, .slice 11 [], .int .i64 0, .int .i64 0, .int .i64 0, .int .i64 0]]
def r287_1 : List Op := [f_ 8 <|.load (.v 2) (some 5) (.g 2),f_ 9 <|.mov (.g 1),f_ 10 <|.call (.k 314) .no none [.l 0, .l 1],f_ 7 <|.mov (.l 2),f_ 11 <|.ext (.l 3) 0,f_ 12 <|.ext (.l 3) 1,t_ 5 <|.mov (.l 4),t_ 6 <|.mov (.l 5)]
def r287_2 : List Op := [t_ 13 <|.mov (.g 6)]
def r287_3 : List Op := [f_ 14 <|.fad (.g 2) 0,f_ 15 <|.load (.v 2) none (.l 0),f_ 16 <|.mov (.g 5),f_ 17 <|.iad 17 (.l 1) (.l 2),f_ 18 <|.load (.c) (some 17) (.l 3),u_ <|.store (.v 4) 17 (.g 4) (.l 4)]
def r287_4 : List Op := [f_ 19 <|.build [.int .i64 0, .int .i64 0, .str [], .str [], .int .i64 0, .slice 2 [], .int .i64 0, .int .i64 0, .int .i64 0, .int .i64 0, .int .i64 0, .int .i64 0, .slice 11 [], .int .i64 0, .int .i64 0, .int .i64 0, .int .i64 0] [],u_ <|.store (.v 4) 17 (.g 4) (.l 0)]
def c287 : C := .seq (.region false r287_0) (.seq (.seq (.region false r287_1) (.seq (.region false r287_2) (.cond (.g 13) (.seq (.region false r287_3) (.ret)) (.skip)))) (.seq (.region false r287_4) (.ret)))
def F287 : F := ⟨2, [0, 1, 2, 4, 5, 6, 13], [.cell 4 (some 17)], none, c287⟩
attribute [go_sem] r287_0 r287_1 r287_2 r287_3 r287_4 c287 F287
def r288_0 : List Op := [t_ 1 <|.box (.g 0),t_ 2 <|.mov (cb false)]
def r288_1 : List Op := [f_ 3 <|.fad (.g 1) 2,f_ 4 <|.load (.v 1) none (.l 0),f_ 5 <|.bin .eql (.l 1) (ci 1),f_ 6 <|.mov (.l 2),n_ 7 3 <|.fad (.g 1) 2,n_ 8 3 <|.load (.v 1) none (.l 4),n_ 9 3 <|.bin .eql (.l 5) (ci 2),f_ 10 <|.pick (.l 3) (cb true) (.l 6),f_ 11 <|.mov (.l 7),n_ 12 8 <|.fad (.g 1) 2,n_ 13 8 <|.load (.v 1) none (.l 9),n_ 14 8 <|.bin .eql (.l 10) (ci 3),f_ 15 <|.pick (.l 8) (cb true) (.l 11),t_ 2 <|.mov (.l 12)]
def c288 : C := .seq (.region false r288_0) (.seq (.region false r288_1) (.ret))
def F288 : F := ⟨1, [0, 1, 2], [.t 2], none, c288⟩
attribute [go_sem] r288_0 r288_1 c288 F288
def r289_0 : List Op := [t_ 4 <|.box (.g 0),t_ 5 <|.box (.g 1),t_ 6 <|.box (.g 2),t_ 7 <|.box (.g 3),t_ 8 <|.alloc [.slice 17 [], .int .i64 0, .int .i64 0, .int .i64 0, .int .i64 0],t_ 9 <|.alloc [.int .i64 0, .int .i64 0, .int .i64 0, .int .i64 0, .bool false, .str [], .slice 2 [], .str [], .bool false]]
def r289_1 : List Op := [f_ 15 <|.fad (.g 5) 12,f_ 16 <|.load (.v 5) none (.l 0),f_ 17 <|.fad (.g 6) 0,f_ 18 <|.load (.v 6) none (.l 2),f_ 19 <|.fad (.g 6) 1,f_ 20 <|.load (.v 6) none (.l 4),t_ 21 <|.call (.k 82) .no none [.l 1, .l 3, .l 5]]
def r289_2 : List Op := [f_ 23 <|.bin .eql (.g 21) (ci 2),t_ 22 <|.mov (.l 0)]
def r289_3 : List Op := [f_ 25 <|.fad (.g 5) 12,f_ 26 <|.load (.v 5) none (.l 0),f_ 27 <|.fad (.g 6) 0,f_ 28 <|.load (.v 6) none (.l 2),f_ 29 <|.call (.k 84) .no none [.l 1, .l 3],f_ 24 <|.mov (.l 4),f_ 30 <|.ext (.l 5) 0,f_ 31 <|.ext (.l 5) 1,t_ 10 <|.alloc [.int .i64 0, .int .i64 0, .int .i64 0, .int .i64 0, .int .i64 0, .int .i64 0, .bool false, .str [], .slice 2 [], .str [], .bool false],u_ <|.store (.v 10) 11 (.l 8) (.l 6),f_ 11 <|.mov (.l 7)]
def r289_4 : List Op := [f_ 32 <|.load (.v 4) (some 5) (.g 4),f_ 33 <|.fad (.g 10) 2,f_ 34 <|.load (.v 10) (some 9) (.l 1),u_ <|.store (.v 8) 5 (.g 8) (.l 0),u_ <|.store (.v 9) 9 (.g 9) (.l 2)]
def r289_5 : List Op := [f_ 36 <|.bin .eql (.g 21) (ci 3),t_ 35 <|.mov (.l 0)]
def r289_6 : List Op := [f_ 37 <|.load (.v 4) (some 5) (.g 4),f_ 38 <|.call (.k 286) .no none [.c (.int .i64 10)],u_ <|.store (.v 8) 5 (.g 8) (.l 0),u_ <|.store (.v 9) 9 (.g 9) (.l 1)]
def r289_7 : List Op := [f_ 39 <|.load (.v 7) (some 3) (.g 7),f_ 40 <|.fad (.g 4) 1,f_ 41 <|.load (.v 4) (some 3) (.l 1),f_ 42 <|.call (.k 15) .no none [.l 0, .l 2],t_ 43 <|.bin .leq (.l 3) (ci 0)]
def r289_8 : List Op := [f_ 44 <|.load (.v 4) (some 5) (.g 4),f_ 45 <|.call (.k 286) .no none [.c (.int .i64 1)],u_ <|.store (.v 8) 5 (.g 8) (.l 0),u_ <|.store (.v 9) 9 (.g 9) (.l 1)]
def r289_9 : List Op := [f_ 46 <|.load (.v 4) (some 5) (.g 4),f_ 47 <|.load (.v 5) (some 17) (.g 5),f_ 48 <|.fad (.g 6) 3,f_ 49 <|.load (.v 6) none (.l 2),f_ 50 <|.call (.k 290) .no none [.l 0, .l 1, .l 3],t_ 12 <|.alloc [.int .i64 0, .int .i64 0, .int .i64 0, .int .i64 0, .bool false, .str [], .slice 2 [], .str [], .bool false],u_ <|.store (.v 12) 9 (.l 5) (.l 4)]
def r289_10 : List Op := [f_ 51 <|.load (.v 7) (some 3) (.g 7),f_ 52 <|.fad (.g 12) 4,f_ 53 <|.load (.v 12) none (.l 1),f_ 54 <|.build [.int .i64 0, .int .i64 0, .int .i64 0, .int .i64 0, .bool false, .str [], .slice 2 [], .str [], .bool false] [(1, 3, .l 0), (4, 1, .l 2)],t_ 13 <|.alloc [.int .i64 0, .int .i64 0, .int .i64 0, .int .i64 0, .bool false, .str [], .slice 2 [], .str [], .bool false],u_ <|.store (.v 13) 9 (.l 4) (.l 3)]
def r289_11 : List Op := [t_ 14 <|.mov (ci 0)]
def r289_12 : List Op := [f_ 56 <|.fad (.g 6) 2,f_ 57 <|.load (.v 6) none (.l 0),f_ 58 <|.bin .eql (.l 1) (ci 3),f_ 59 <|.mov (.l 2),y_ 60 3 <|.fad (.g 12) 4,y_ 61 3 <|.load (.v 12) none (.l 4),y_ 62 3 <|.fad (.g 6) 5,y_ 63 3 <|.load (.v 6) none (.l 6),y_ 64 3 <|.eqb true (.l 5) (.l 7),y_ 65 3 <|.mov (.l 8),n_ 66 9 <|.fad (.g 12) 4,n_ 67 9 <|.load (.v 12) none (.l 10),n_ 68 9 <|.mov (.l 11),y_ 69 12 <|.fad (.g 12) 5,y_ 70 12 <|.load (.v 12) none (.l 13),y_ 71 12 <|.fad (.g 6) 6,y_ 72 12 <|.load (.v 6) none (.l 15),y_ 73 12 <|.bin .neq (.l 14) (.l 16),n_ 74 9 <|.pick (.l 12) (.l 17) (cb false),y_ 75 3 <|.pick (.l 9) (cb true) (.l 18),f_ 76 <|.pick (.l 3) (.l 19) (cb false),t_ 55 <|.mov (.l 20)]
def r289_13 : List Op := [f_ 77 <|.fad (.g 12) 5,f_ 78 <|.load (.v 12) none (.l 0),f_ 79 <|.fad (.g 13) 0,u_ <|.store (.v 13) 1 (.l 2) (ci 15),f_ 80 <|.fad (.g 13) 5,u_ <|.store (.v 13) 1 (.l 4) (.l 1)]
def r289_14 : List Op := [f_ 82 <|.fad (.g 6) 2,f_ 83 <|.load (.v 6) none (.l 0),f_ 84 <|.bin .neq (.l 1) (ci 2),t_ 81 <|.mov (.l 2)]
def r289_15 : List Op := [f_ 86 <|.fad (.g 5) 5,f_ 87 <|.load (.v 5) none (.l 0),f_ 88 <|.fad (.g 6) 3,f_ 89 <|.load (.v 6) none (.l 2),f_ 90 <|.load (.v 7) (some 3) (.g 7),f_ 91 <|.fad (.g 6) 4,f_ 92 <|.load (.v 6) none (.l 5),f_ 93 <|.build [.int .i64 0, .int .i64 0, .int .i64 0, .bool false, .str []] [(0, 3, .l 4), (4, 1, .l 6)],f_ 94 <|.call (.k 200) .no none [.l 1, .l 3, .l 7],f_ 85 <|.mov (.l 8),f_ 95 <|.ext (.l 9) 0,f_ 96 <|.ext (.l 9) 1,f_ 97 <|.fad (.g 5) 5,u_ <|.store (.v 5) 1 (.l 12) (.l 10),t_ 14 <|.mov (.l 11)]
def r289_16 : List Op := [f_ 99 <|.fad (.g 12) 4,f_ 100 <|.load (.v 12) none (.l 0),t_ 98 <|.mov (.l 1)]
def r289_17 : List Op := [f_ 102 <|.fad (.g 5) 5,f_ 103 <|.load (.v 5) none (.l 0),f_ 104 <|.fad (.g 6) 3,f_ 105 <|.load (.v 6) none (.l 2),f_ 106 <|.load (.v 7) (some 3) (.g 7),f_ 107 <|.build [.int .i64 0, .int .i64 0, .int .i64 0, .bool false, .str []] [(0, 3, .l 4), (3, 1, .c (.bool true))],f_ 108 <|.call (.k 200) .no none [.l 1, .l 3, .l 5],f_ 101 <|.mov (.l 6),f_ 109 <|.ext (.l 7) 0,f_ 110 <|.ext (.l 7) 1,f_ 111 <|.fad (.g 5) 5,u_ <|.store (.v 5) 1 (.l 10) (.l 8),t_ 14 <|.mov (.l 9)]
def r289_18 : List Op := [f_ 112 <|.mov (.g 14),t_ 113 <|.bin .neq (.l 0) (ci 0)]
def r289_19 : List Op := [f_ 114 <|.load (.v 4) (some 5) (.g 4),f_ 115 <|.mov (.g 14),f_ 116 <|.call (.k 286) .no none [.l 1],u_ <|.store (.v 8) 5 (.g 8) (.l 0),u_ <|.store (.v 9) 9 (.g 9) (.l 2)]
def r289_20 : List Op := [f_ 118 <|.fad (.g 5) 12,f_ 119 <|.load (.v 5) none (.l 0),f_ 120 <|.fad (.g 6) 0,f_ 121 <|.load (.v 6) none (.l 2),f_ 122 <|.fad (.g 6) 1,f_ 123 <|.load (.v 6) none (.l 4),f_ 124 <|.load (.v 13) (some 9) (.g 13),f_ 125 <|.build [.int .i64 0, .int .i64 0, .int .i64 0, .int .i64 0, .int .i64 0, .int .i64 0, .bool false, .str [], .slice 2 [], .str [], .bool false] [(0, 1, .l 3), (1, 1, .l 5), (2, 9, .l 6)],f_ 126 <|.call (.k 88) .no none [.l 1, .l 7],f_ 117 <|.mov (.l 8),f_ 127 <|.ext (.l 9) 0,f_ 128 <|.ext (.l 9) 1,f_ 129 <|.fad (.g 5) 12,u_ <|.store (.v 5) 1 (.l 12) (.l 10),t_ 14 <|.mov (.l 11)]
def r289_21 : List Op := [f_ 130 <|.mov (.g 14),t_ 131 <|.bin .neq (.l 0) (ci 0)]
def r289_22 : List Op := [f_ 132 <|.load (.v 4) (some 5) (.g 4),f_ 133 <|.mov (.g 14),f_ 134 <|.call (.k 286) .no none [.l 1],u_ <|.store (.v 8) 5 (.g 8) (.l 0),u_ <|.store (.v 9) 9 (.g 9) (.l 2)]
def r289_23 : List Op := [f_ 135 <|.load (.v 4) (some 5) (.g 4),f_ 136 <|.load (.v 5) (some 17) (.g 5),f_ 137 <|.call (.k 304) .no none [.l 0, .l 1],u_ <|.store (.v 4) 5 (.g 4) (.l 2)]
def r289_24 : List Op := [f_ 138 <|.load (.v 7) (some 3) (.g 7),f_ 139 <|.fad (.g 4) 1,u_ <|.store (.v 4) 3 (.l 1) (.l 0)]
def r289_25 : List Op := [f_ 140 <|.load (.v 4) (some 5) (.g 4),f_ 141 <|.load (.v 13) (some 9) (.g 13),u_ <|.store (.v 8) 5 (.g 8) (.l 0),u_ <|.store (.v 9) 9 (.g 9) (.l 1)]
def c289 : C := .seq (.region false r289_0) (.seq (.seq (.region false r289_1) (.block 0 (.seq (.region false r289_2) (.cond (.g 22) (.seq (.region false r289_3) (.seq (.region true r289_4) (.ret))) (.seq (.region false r289_5) (.cond (.g 35) (.seq (.region true r289_6) (.ret)) (.skip))))))) (.seq (.seq (.region false r289_7) (.cond (.g 43) (.seq (.region true r289_8) (.ret)) (.skip))) (.seq (.region false r289_9) (.seq (.region false r289_10) (.seq (.region false r289_11) (.seq (.block 1 (.seq (.region false r289_12) (.cond (.g 55) (.region true r289_13) (.seq (.region false r289_14) (.cond (.g 81) (.region false r289_15) (.seq (.region false r289_16) (.cond (.g 98) (.region false r289_17) (.skip)))))))) (.seq (.seq (.region false r289_18) (.cond (.g 113) (.seq (.region true r289_19) (.ret)) (.skip))) (.seq (.seq (.region false r289_20) (.seq (.region false r289_21) (.cond (.g 131) (.seq (.region true r289_22) (.ret)) (.skip)))) (.seq (.region false r289_23) (.seq (.region false r289_24) (.seq (.region true r289_25) (.ret))))))))))))
def F289 : F := ⟨4, [0, 1, 2, 3, 4, 5, 6, 7, 8, 9, 10, 12, 13, 14, 21, 22, 35, 43, 55, 81, 98, 113, 131], [.cell 8 (some 5), .cell 9 (some 9)], none, c289⟩
attribute [go_sem] r289_0 r289_1 r289_2 r289_3 r289_4 r289_5 r289_6 r289_7 r289_8 r289_9 r289_10 r289_11 r289_12 r289_13 r289_14 r289_15 r289_16 r289_17 r289_18 r289_19 r289_20 r289_21 r289_22 r289_23 r289_24 r289_25 c289 F289
def r290_0 : List Op := [t_ 3 <|.box (.g 0),t_ 4 <|.box (.g 1),t_ 6 <|.alloc [.int .i64 0, .int .i64 0, .int .i64 0, .int .i64 0, .bool false, .str [], .slice 2 [], .str [], .bool false]]
def r290_1 : List Op := [f_ 10 <|.fad (.g 4) 5,f_ 11 <|.load (.v 4) none (.l 0),f_ 12 <|.mov (.g 2),f_ 13 <|.fad (.g 3) 1,f_ 14 <|.load (.v 3) (some 3) (.l 3),f_ 15 <|.call (.k 312) .no none [.l 1, .l 2, .l 4],f_ 9 <|.mov (.l 5),f_ 16 <|.ext (.l 6) 0,f_ 17 <|.ext (.l 6) 1,t_ 7 <|.alloc [.int .i64 0, .int .i64 0, .int .i64 0, .bool false, .str []],u_ <|.store (.v 7) 5 (.l 9) (.l 7),t_ 8 <|.mov (.l 8)]
def r290_2 : List Op := [f_ 18 <|.fad (.g 7) 0,f_ 19 <|.load (.v 7) (some 3) (.l 0),f_ 20 <|.mov (.g 8),f_ 21 <|.mov (.l 2),y_ 22 3 <|.fad (.g 7) 3,y_ 23 3 <|.load (.v 7) none (.l 4),y_ 24 3 <|.un .not (.l 5),f_ 25 <|.pick (.l 3) (.l 6) (cb false),f_ 26 <|.fad (.g 7) 4,f_ 27 <|.load (.v 7) none (.l 8),f_ 28 <|.build [.int .i64 0, .int .i64 0, .int .i64 0, .int .i64 0, .bool false, .str [], .slice 2 [], .str [], .bool false] [(1, 3, .l 1), (4, 1, .l 7), (5, 1, .l 9)],u_ <|.store (.v 6) 9 (.g 6) (.l 10)]
def c290 : C := .seq (.region false r290_0) (.seq (.region false r290_1) (.seq (.region false r290_2) (.ret)))
def F290 : F := ⟨3, [0, 1, 2, 3, 4, 6, 7, 8], [.cell 6 (some 9)], none, c290⟩
attribute [go_sem] r290_0 r290_1 r290_2 c290 F290
def r291_0 : List Op := [t_ 4 <|.box (.g 0),t_ 5 <|.box (.g 1),t_ 6 <|.box (.g 2),t_ 8 <|.alloc [.slice 17 [], .int .i64 0, .int .i64 0, .int .i64 0, .int .i64 0],t_ 9 <|.alloc [.int .i64 0, .int .i64 0, .int .i64 0, .int .i64 0, .bool false, .str [], .slice 2 [], .str [], .bool false]]
def r291_1 : List Op := [f_ 16 <|.fad (.g 6) 7,f_ 17 <|.load (.v 6) (some 3) (.l 0),f_ 18 <|.fad (.g 5) 6,f_ 19 <|.load (.v 5) (some 3) (.l 2),f_ 20 <|.call (.k 15) .no none [.l 1, .l 3],f_ 21 <|.bin .lss (.l 4) (ci 0),t_ 15 <|.mov (.l 5)]
def r291_2 : List Op := [f_ 22 <|.load (.v 4) (some 5) (.g 4),f_ 23 <|.call (.k 286) .no none [.c (.int .i64 13)],u_ <|.store (.v 8) 5 (.g 8) (.l 0),u_ <|.store (.v 9) 9 (.g 9) (.l 1)]
def r291_3 : List Op := [f_ 25 <|.fad (.g 6) 7,f_ 26 <|.fad (.l 0) 0,f_ 27 <|.load (.v 6) none (.l 1),f_ 28 <|.bin .sub (.l 2) (ci 1000),f_ 29 <|.mov (.g 3),f_ 30 <|.bin .gtr (.l 3) (.l 4),t_ 24 <|.mov (.l 5)]
def r291_4 : List Op := [f_ 31 <|.load (.v 4) (some 5) (.g 4),f_ 32 <|.call (.k 286) .no none [.c (.int .i64 12)],u_ <|.store (.v 8) 5 (.g 8) (.l 0),u_ <|.store (.v 9) 9 (.g 9) (.l 1)]
def r291_5 : List Op := [f_ 33 <|.fad (.g 4) 1,f_ 34 <|.load (.v 4) (some 3) (.l 0),f_ 35 <|.fad (.g 6) 7,f_ 36 <|.load (.v 6) (some 3) (.l 2),f_ 37 <|.call (.k 21) .no none [.l 1, .l 3],f_ 38 <|.fad (.g 4) 1,u_ <|.store (.v 4) 3 (.l 5) (.l 4)]
def r291_6 : List Op := [f_ 39 <|.fad (.g 6) 7,f_ 40 <|.load (.v 6) (some 3) (.l 0),f_ 41 <|.build [.int .i64 0, .int .i64 0, .int .i64 0, .int .i64 0, .bool false, .str [], .slice 2 [], .str [], .bool false] [(1, 3, .l 1)],t_ 10 <|.alloc [.int .i64 0, .int .i64 0, .int .i64 0, .int .i64 0, .bool false, .str [], .slice 2 [], .str [], .bool false],u_ <|.store (.v 10) 9 (.l 3) (.l 2)]
def r291_7 : List Op := [f_ 42 <|.fad (.g 6) 2,f_ 43 <|.load (.v 6) none (.l 0),t_ 44 <|.bin .eql (.l 1) (ci 5)]
def r291_8 : List Op := [f_ 46 <|.fad (.g 5) 5,f_ 47 <|.load (.v 5) none (.l 0),f_ 48 <|.fad (.g 6) 3,f_ 49 <|.load (.v 6) none (.l 2),f_ 50 <|.fad (.g 6) 7,f_ 51 <|.load (.v 6) (some 3) (.l 4),f_ 52 <|.call (.k 312) .no none [.l 1, .l 3, .l 5],f_ 45 <|.mov (.l 6),f_ 53 <|.ext (.l 7) 0,f_ 54 <|.ext (.l 7) 1,t_ 11 <|.alloc [.int .i64 0, .int .i64 0, .int .i64 0, .bool false, .str []],u_ <|.store (.v 11) 5 (.l 10) (.l 8),t_ 12 <|.mov (.l 9)]
def r291_9 : List Op := [f_ 55 <|.mov (.g 12),f_ 56 <|.mov (.l 0),y_ 57 1 <|.fad (.g 11) 3,y_ 58 1 <|.load (.v 11) none (.l 2),y_ 59 1 <|.un .not (.l 3),f_ 60 <|.pick (.l 1) (.l 4) (cb false),f_ 61 <|.fad (.g 11) 4,f_ 62 <|.load (.v 11) none (.l 6),f_ 63 <|.fad (.g 10) 4,u_ <|.store (.v 10) 1 (.l 8) (.l 5),f_ 64 <|.fad (.g 10) 5,u_ <|.store (.v 10) 1 (.l 10) (.l 7)]
def r291_10 : List Op := [f_ 65 <|.load (.v 4) (some 5) (.g 4),f_ 66 <|.load (.v 10) (some 9) (.g 10),u_ <|.store (.v 8) 5 (.g 8) (.l 0),u_ <|.store (.v 9) 9 (.g 9) (.l 1)]
def r291_11 : List Op := [f_ 67 <|.fad (.g 6) 10,f_ 68 <|.load (.v 6) none (.l 0),t_ 13 <|.mov (.l 1)]
def r291_12 : List Op := [f_ 69 <|.fad (.g 5) 2,f_ 70 <|.fad (.l 0) 1,f_ 71 <|.load (.v 5) none (.l 1),f_ 72 <|.bin .neq (.l 2) (.c (.str [])),f_ 73 <|.mov (.l 3),y_ 74 4 <|.mov (.g 13),y_ 75 4 <|.bin .eql (.l 5) (.c (.str [])),y_ 76 4 <|.mov (.l 6),n_ 77 7 <|.fad (.g 5) 2,n_ 78 7 <|.fad (.l 8) 1,n_ 79 7 <|.load (.v 5) none (.l 9),n_ 80 7 <|.mov (.g 13),n_ 81 7 <|.call (.k 192) .no none [.l 10, .l 11],n_ 82 7 <|.bin .lss (.l 12) (ci 0),y_ 83 4 <|.pick (.l 7) (cb true) (.l 13),f_ 84 <|.pick (.l 4) (.l 14) (cb false),t_ 14 <|.mov (.l 15)]
def r291_13 : List Op := [t_ 85 <|.mov (.g 14)]
def r291_14 : List Op := [f_ 86 <|.fad (.g 5) 2,f_ 87 <|.fad (.l 0) 1,f_ 88 <|.load (.v 5) none (.l 1),t_ 13 <|.mov (.l 2)]
def r291_15 : List Op := [f_ 90 <|.fad (.g 5) 5,f_ 91 <|.load (.v 5) none (.l 0),f_ 92 <|.fad (.g 6) 3,f_ 93 <|.load (.v 6) none (.l 2),f_ 94 <|.mov (.g 13),f_ 95 <|.fad (.g 6) 7,f_ 96 <|.load (.v 6) (some 3) (.l 5),f_ 97 <|.fad (.g 6) 11,f_ 98 <|.load (.v 6) none (.l 7),f_ 99 <|.call (.k 206) .no none [.l 1, .l 3, .l 4, .l 6, .l 8],f_ 89 <|.mov (.l 9),f_ 100 <|.ext (.l 10) 0,f_ 101 <|.ext (.l 10) 1,f_ 102 <|.ext (.l 10) 2,f_ 103 <|.fad (.g 10) 6,u_ <|.store (.v 10) 1 (.l 14) (.l 11),f_ 104 <|.fad (.g 10) 7,u_ <|.store (.v 10) 1 (.l 16) (.l 12),f_ 105 <|.fad (.g 10) 8,u_ <|.store (.v 10) 1 (.l 18) (.l 13)]
def r291_16 : List Op := [f_ 106 <|.mov (.g 14),f_ 107 <|.mov (.l 0),y_ 108 1 <|.fad (.g 10) 8,y_ 109 1 <|.load (.v 10) none (.l 2),y_ 110 1 <|.un .not (.l 3),t_ 111 <|.pick (.l 1) (.l 4) (cb false)]
def r291_17 : List Op := [f_ 112 <|.mov (.g 13),f_ 113 <|.fad (.g 10) 7,u_ <|.store (.v 10) 1 (.l 1) (.l 0),f_ 114 <|.fad (.g 10) 8,u_ <|.store (.v 10) 1 (.l 3) (cb true)]
def r291_18 : List Op := [f_ 115 <|.load (.v 4) (some 5) (.g 4),f_ 116 <|.load (.v 10) (some 9) (.g 10),u_ <|.store (.v 8) 5 (.g 8) (.l 0),u_ <|.store (.v 9) 9 (.g 9) (.l 1)]
def c291 : C := .seq (.region false r291_0) (.seq (.block 0 (.seq (.region false r291_1) (.cond (.g 15) (.seq (.region true r291_2) (.ret)) (.seq (.region false r291_3) (.cond (.g 24) (.seq (.region true r291_4) (.ret)) (.skip)))))) (.seq (.region false r291_5) (.seq (.region false r291_6) (.seq (.seq (.region false r291_7) (.cond (.g 44) (.seq (.region false r291_8) (.seq (.region true r291_9) (.seq (.region true r291_10) (.ret)))) (.skip))) (.seq (.region false r291_11) (.seq (.region false r291_12) (.seq (.seq (.region false r291_13) (.cond (.g 85) (.region false r291_14) (.skip))) (.seq (.region false r291_15) (.seq (.seq (.region false r291_16) (.cond (.g 111) (.region false r291_17) (.skip))) (.seq (.region true r291_18) (.ret)))))))))))
def F291 : F := ⟨4, [0, 1, 2, 3, 4, 5, 6, 8, 9, 10, 11, 12, 13, 14, 15, 24, 44, 85, 111], [.cell 8 (some 5), .cell 9 (some 9)], none, c291⟩
attribute [go_sem] r291_0 r291_1 r291_2 r291_3 r291_4 r291_5 r291_6 r291_7 r291_8 r291_9 r291_10 r291_11 r291_12 r291_13 r291_14 r291_15 r291_16 r291_17 r291_18 c291 F291
def r298_0 : List Op := [t_ 2 <|.box (.g 0),t_ 3 <|.mov (cb false)]
def r298_1 : List Op := [f_ 4 <|.fad (.g 1) 2,f_ 5 <|.load (.c) (some 2) (.l 0),f_ 6 <|.fad (.g 2) 0,f_ 7 <|.load (.v 2) none (.l 2),f_ 8 <|.call (.k 171) .no none [.l 1, .l 3],f_ 9 <|.un .not (.l 4),t_ 3 <|.mov (.l 5)]
def c298 : C := .seq (.region false r298_0) (.seq (.region false r298_1) (.ret))
def F298 : F := ⟨2, [0, 1, 2, 3], [.t 3], none, c298⟩
attribute [go_sem] r298_0 r298_1 c298 F298
def r299_0 : List Op := [t_ 4 <|.mov (cb false)]
def r299_1 : List Op := [f_ 5 <|.mov (.g 0),f_ 6 <|.mov (.g 1),f_ 7 <|.call (.k 315) .no none [.l 0, .l 1],f_ 8 <|.bin .geq (.l 2) (ci 0),t_ 4 <|.mov (.l 3)]
def c299 : C := .seq (.region false r299_0) (.seq (.region false r299_1) (.ret))
def F299 : F := ⟨2, [0, 1, 4], [.t 4], none, c299⟩
attribute [go_sem] r299_0 r299_1 c299 F299
def r301_0 : List Op := [t_ 2 <|.box (.g 0),t_ 3 <|.box (.g 1),t_ 4 <|.mov (cb false)]
def r301_1 : List Op := [f_ 5 <|.fad (.g 2) 5,f_ 6 <|.load (.v 2) none (.l 0),f_ 7 <|.fn 316 [.g 3] [3],f_ 8 <|.call (.k 299) .no none [.l 1, .l 2],f_ 9 <|.un .not (.l 3),t_ 4 <|.mov (.l 4)]
def c301 : C := .seq (.region false r301_0) (.seq (.region false r301_1) (.ret))
def F301 : F := ⟨2, [0, 1, 2, 3, 4], [.t 4], none, c301⟩
attribute [go_sem] r301_0 r301_1 c301 F301
def r304_0 : List Op := [t_ 2 <|.box (.g 0),t_ 3 <|.box (.g 1),t_ 4 <|.alloc [.slice 17 [], .int .i64 0, .int .i64 0, .int .i64 0, .int .i64 0]]
def r304_1 : List Op := [f_ 8 <|.load (.v 2) (some 5) (.g 2),f_ 9 <|.fad (.g 3) 0,f_ 10 <|.load (.v 3) none (.l 1),f_ 11 <|.call (.k 314) .borrow none [.l 0, .l 2],f_ 7 <|.mov (.l 3),f_ 12 <|.ext (.l 4) 0,f_ 13 <|.ext (.l 4) 1,t_ 5 <|.mov (.l 5),t_ 6 <|.mov (.l 6)]
def r304_2 : List Op := [f_ 14 <|.fad (.g 2) 0,f_ 15 <|.load (.v 2) none (.l 0),f_ 16 <|.call (.k 307) .freeze (some 0) [.l 1],f_ 17 <|.fad (.g 2) 0,u_ <|.store (.v 2) 1 (.l 3) (.l 2)]
def r304_3 : List Op := [t_ 18 <|.mov (.g 6)]
def r304_4 : List Op := [f_ 19 <|.fad (.g 2) 0,f_ 20 <|.load (.v 2) none (.l 0),f_ 21 <|.mov (.g 5),f_ 22 <|.load (.v 3) (some 17) (.g 3),f_ 23 <|.iad 17 (.l 1) (.l 2),u_ <|.store (.e 16) 17 (.l 4) (.l 3)]
def r304_5 : List Op := [f_ 24 <|.fad (.g 2) 0,f_ 25 <|.load (.v 2) none (.l 0),f_ 26 <|.mov (.g 5),f_ 27 <|.load (.v 3) (some 17) (.g 3),f_ 28 <|.mks 17 1 [.int .i64 0, .int .i64 0, .str [], .str [], .int .i64 0, .slice 2 [], .int .i64 0, .int .i64 0, .int .i64 0, .int .i64 0, .int .i64 0, .int .i64 0, .slice 11 [], .int .i64 0, .int .i64 0, .int .i64 0, .int .i64 0] [(0, .l 3)],f_ 29 <|.ins 317 16 17 (.l 1) (.l 2) (.l 4),f_ 30 <|.fad (.g 2) 0,u_ <|.store (.v 2) 1 (.l 6) (.l 5)]
def r304_6 : List Op := [f_ 31 <|.load (.v 2) (some 5) (.g 2),u_ <|.store (.v 4) 5 (.g 4) (.l 0)]
def c304 : C := .seq (.region false r304_0) (.seq (.region false r304_1) (.seq (.region false r304_2) (.seq (.seq (.region false r304_3) (.cond (.g 18) (.region false r304_4) (.region false r304_5))) (.seq (.region false r304_6) (.ret)))))
def F304 : F := ⟨2, [0, 1, 2, 3, 4, 5, 6, 18], [.cell 4 (some 5)], none, c304⟩
attribute [go_sem] r304_0 r304_1 r304_2 r304_3 r304_4 r304_5 r304_6 c304 F304
def r312_0 : List Op := [t_ 5 <|.box (.g 2),t_ 6 <|.alloc [.int .i64 0, .int .i64 0, .int .i64 0, .bool false, .str []],t_ 7 <|.mov (cb false)]
def r312_1 : List Op := [f_ 10 <|.mov (.g 0),f_ 11 <|.call (.k 203) .no none [.l 0],t_ 12 <|.un .not (.l 1)]
def r312_2 : List Op := [f_ 13 <|.build [.int .i64 0, .int .i64 0, .int .i64 0, .bool false, .str []] [],u_ <|.store (.v 6) 5 (.g 6) (.l 0),t_ 7 <|.mov (cb false)]
def r312_3 : List Op := [f_ 15 <|.mov (.g 0),f_ 16 <|.mov (.g 1),f_ 17 <|.call (.k 220) .no none [.l 0, .l 1],f_ 14 <|.mov (.l 2),f_ 18 <|.ext (.l 3) 0,f_ 19 <|.ext (.l 3) 1,t_ 8 <|.mov (.l 4),t_ 9 <|.mov (.l 5)]
def r312_4 : List Op := [f_ 20 <|.mov (.g 9),t_ 21 <|.un .not (.l 0)]
def r312_5 : List Op := [f_ 22 <|.build [.int .i64 0, .int .i64 0, .int .i64 0, .bool false, .str []] [],u_ <|.store (.v 6) 5 (.g 6) (.l 0),t_ 7 <|.mov (cb false)]
def r312_6 : List Op := [f_ 23 <|.mov (.g 0),f_ 24 <|.mov (.g 8),f_ 25 <|.iad 2 (.l 0) (.l 1),f_ 26 <|.fad (.l 2) 1,f_ 27 <|.load (.c) none (.l 3),f_ 28 <|.load (.v 5) (some 3) (.g 5),f_ 29 <|.call (.k 10) .no none [.l 4, .l 5],f_ 30 <|.ext (.l 6) 0,f_ 31 <|.ext (.l 6) 1,u_ <|.store (.v 6) 5 (.g 6) (.l 7),t_ 7 <|.mov (.l 8)]
def c312 : C := .seq (.region false r312_0) (.seq (.seq (.region false r312_1) (.cond (.g 12) (.seq (.region false r312_2) (.ret)) (.skip))) (.seq (.region false r312_3) (.seq (.seq (.region false r312_4) (.cond (.g 21) (.seq (.region false r312_5) (.ret)) (.skip))) (.seq (.region true r312_6) (.ret)))))
def F312 : F := ⟨3, [0, 1, 2, 5, 6, 7, 8, 9, 12, 21], [.cell 6 (some 5), .t 7], none, c312⟩
attribute [go_sem] r312_0 r312_1 r312_2 r312_3 r312_4 r312_5 r312_6 c312 F312
def r313_0 : List Op := [t_ 3 <|.mov (cb false)]
def r313_1 : List Op := [f_ 4 <|.mov (.g 0),f_ 5 <|.load (.c) none (.g 1),f_ 6 <|.bin .lss (.l 0) (.l 1),f_ 7 <|.mov (.l 2),n_ 8 3 <|.mov (.g 0),n_ 9 3 <|.bin .gtr (.l 4) (ci 1099511627776),f_ 10 <|.pick (.l 3) (cb true) (.l 5),t_ 3 <|.mov (.l 6)]
def c313 : C := .seq (.region false r313_0) (.seq (.region false r313_1) (.ret))
def F313 : F := ⟨2, [0, 1, 3], [.t 3], none, c313⟩
attribute [go_sem] r313_0 r313_1 c313 F313
def r314_0 : List Op := [t_ 2 <|.box (.g 0),t_ 4 <|.mov (ci 0),t_ 5 <|.mov (cb false)]
def r314_1 : List Op := [f_ 6 <|.fad (.g 2) 0,f_ 7 <|.load (.v 2) none (.l 0),f_ 8 <|.mov (.g 1),f_ 9 <|.call (.k 319) .no none [.l 1, .l 2, .f 320],f_ 10 <|.ext (.l 3) 0,f_ 11 <|.ext (.l 3) 1,t_ 4 <|.mov (.l 4),t_ 5 <|.mov (.l 5)]
def c314 : C := .seq (.region false r314_0) (.seq (.region false r314_1) (.ret))
def F314 : F := ⟨2, [0, 1, 2, 4, 5], [.t 4, .t 5], none, c314⟩
attribute [go_sem] r314_0 r314_1 c314 F314
def r315_0 : List Op := [t_ 4 <|.mov (ci 0)]
def r315_1 : List Op := [f_ 6 <|.mov (.g 0),t_ 7 <|.len false (.l 0),t_ 8 <|.mov (ci 0)]
def r315_2 : List Op := [t_ 9 <|.bin .lss (.g 8) (.g 7)]
def r315_3 : List Op := [f_ 10 <|.mov (.g 8),t_ 5 <|.mov (.l 0)]
def r315_4 : List Op := [f_ 11 <|.mov (.g 1),f_ 12 <|.mov (.g 0),f_ 13 <|.mov (.g 5),f_ 14 <|.iad 2 (.l 1) (.l 2),f_ 15 <|.load (.c) (some 2) (.l 3),t_ 16 <|.call (.v (.l 0)) .no none [.l 4]]
def r315_5 : List Op := [f_ 17 <|.mov (.g 5),t_ 4 <|.mov (.l 0)]
def r315_6 : List Op := [f_ 18 <|.bin .add (.g 8) (ci 1),t_ 8 <|.mov (.l 0)]
def b315_0 : C := .seq (.region false r315_2) (.seq (.cond (.g 9) (.skip) (.exit 0)) (.seq (.block 1 (.seq (.region false r315_3) (.seq (.region false r315_4) (.cond (.g 16) (.seq (.region false r315_5) (.ret)) (.skip))))) (.region false r315_6)))
def l315_0 : C := .loop [] [] [] [] b315_0
def r315_7 : List Op := [t_ 4 <|.mov (ci (-1))]
def c315 : C := .seq (.region false r315_0) (.seq (.seq (.region false r315_1) (.block 0 (l315_0))) (.seq (.region false r315_7) (.ret)))
def F315 : F := ⟨2, [0, 1, 4, 5, 7, 8, 9, 16], [.t 4], none, c315⟩
attribute [go_sem] r315_0 r315_1 r315_2 r315_3 r315_4 r315_5 r315_6 b315_0 r315_7 c315 F315
def r316_0 : List Op := [t_ 2 <|.box (.g 0),t_ 3 <|.mov (cb false)]
def r316_1 : List Op := [f_ 4 <|.fad (.g 2) 1,f_ 5 <|.load (.v 2) none (.l 0),f_ 6 <|.fad (.g 2) 1,f_ 7 <|.load (.v 2) none (.l 2),f_ 8 <|.len false (.l 3),f_ 9 <|.bin .sub (.l 4) (ci 1),f_ 10 <|.iad 5 (.l 1) (.l 5),f_ 11 <|.fad (.l 6) 0,f_ 12 <|.load (.c) (some 3) (.l 7),f_ 13 <|.load (.c) (some 3) (.g 1),f_ 14 <|.call (.k 15) .no none [.l 8, .l 9],f_ 15 <|.bin .gtr (.l 10) (ci 0),t_ 3 <|.mov (.l 11)]
def c316 : C := .seq (.region false r316_0) (.seq (.region true r316_1) (.ret))
def F316 : F := ⟨2, [0, 1, 2, 3], [.t 3], none, c316⟩
attribute [go_sem] r316_0 r316_1 c316 F316
def r319_0 : List Op := [t_ 6 <|.mov (ci 0),t_ 7 <|.mov (cb false)]
def r319_1 : List Op := [f_ 12 <|.mov (.g 0),f_ 13 <|.len false (.l 0),t_ 8 <|.mov (.l 1)]
def r319_2 : List Op := [f_ 14 <|.mov (.g 8),t_ 9 <|.mov (ci 0),t_ 10 <|.mov (.l 0)]
def r319_3 : List Op := [f_ 15 <|.mov (.g 9),f_ 16 <|.mov (.g 10),t_ 17 <|.bin .lss (.l 0) (.l 1)]
def r319_4 : List Op := [f_ 18 <|.mov (.g 9),f_ 19 <|.mov (.g 10),f_ 20 <|.bin .add (.l 0) (.l 1),f_ 21 <|.conv (.int .u64) (.l 2),f_ 22 <|.sh .shr (.l 3) (.c (.int .u64 1)),f_ 23 <|.conv (.int .i64) (.l 4),t_ 11 <|.mov (.l 5)]
def r319_5 : List Op := [f_ 24 <|.mov (.g 2),f_ 25 <|.mov (.g 0),f_ 26 <|.mov (.g 11),f_ 27 <|.iad 17 (.l 1) (.l 2),f_ 28 <|.load (.c) (some 17) (.l 3),f_ 29 <|.mov (.g 1),f_ 30 <|.call (.v (.l 0)) .no none [.l 4, .l 5],t_ 31 <|.bin .lss (.l 6) (ci 0)]
def r319_6 : List Op := [f_ 32 <|.mov (.g 11),f_ 33 <|.bin .add (.l 0) (ci 1),t_ 9 <|.mov (.l 1)]
def r319_7 : List Op := [f_ 34 <|.mov (.g 11),t_ 10 <|.mov (.l 0)]
def b319_0 : C := .seq (.seq (.region false r319_3) (.cond (.g 17) (.skip) (.exit 0))) (.block 1 (.seq (.region false r319_4) (.seq (.region false r319_5) (.cond (.g 31) (.region false r319_6) (.region false r319_7)))))
def l319_0 : C := .loop [] [] [] [] b319_0
def r319_8 : List Op := [f_ 35 <|.mov (.g 9),f_ 36 <|.mov (.g 9),f_ 37 <|.mov (.g 8),f_ 38 <|.bin .lss (.l 1) (.l 2),f_ 39 <|.mov (.l 3),y_ 40 4 <|.mov (.g 2),y_ 41 4 <|.mov (.g 0),y_ 42 4 <|.mov (.g 9),y_ 43 4 <|.iad 17 (.l 6) (.l 7),y_ 44 4 <|.load (.c) (some 17) (.l 8),y_ 45 4 <|.mov (.g 1),y_ 46 4 <|.call (.v (.l 5)) .no none [.l 9, .l 10],y_ 47 4 <|.bin .eql (.l 11) (ci 0),f_ 48 <|.pick (.l 4) (.l 12) (cb false),t_ 6 <|.mov (.l 0),t_ 7 <|.mov (.l 13)]
def c319 : C := .seq (.region false r319_0) (.seq (.region false r319_1) (.seq (.region false r319_2) (.seq (.block 0 (l319_0)) (.seq (.region false r319_8) (.ret)))))
def F319 : F := ⟨3, [0, 1, 2, 6, 7, 8, 9, 10, 11, 17, 31], [.t 6, .t 7], none, c319⟩
attribute [go_sem] r319_0 r319_1 r319_2 r319_3 r319_4 r319_5 r319_6 r319_7 b319_0 r319_8 c319 F319
def r320_0 : List Op := [t_ 2 <|.box (.g 0),t_ 4 <|.mov (ci 0)]
def r320_1 : List Op := [f_ 5 <|.fad (.g 2) 0,f_ 6 <|.load (.v 2) none (.l 0),f_ 7 <|.mov (.g 1),f_ 8 <|.bin .sub (.l 1) (.l 2),t_ 4 <|.mov (.l 3)]
def c320 : C := .seq (.region false r320_0) (.seq (.region false r320_1) (.ret))
def F320 : F := ⟨2, [0, 1, 2, 4], [.t 4], none, c320⟩
attribute [go_sem] r320_0 r320_1 c320 F320
end Sg
namespace Sg
open _root_.Go (IntKind BinOp UnOp)
def r322_0 : List Op := [t_ 6 <|.box (.g 0),t_ 9 <|.box (.g 3),t_ 10 <|.box (.g 4),t_ 12 <|.mov (cb false)]
def r322_1 : List Op := [f_ 16 <|.load (.v 6) (some 5) (.g 6),f_ 17 <|.call (.k 238) .no none [.l 0],f_ 18 <|.un .not (.l 1),f_ 19 <|.mov (.l 2),n_ 20 3 <|.fad (.g 9) 2,n_ 21 3 <|.load (.v 9) none (.l 4),n_ 22 3 <|.bin .lss (.l 5) (ci 4),t_ 23 <|.pick (.l 3) (cb true) (.l 6)]
def r322_2 : List Op := [f_ 24 <|.call (.k 239) .no none [],t_ 12 <|.mov (.l 0)]
def r322_3 : List Op := [f_ 26 <|.load (.v 6) (some 5) (.g 6),f_ 27 <|.mov (.g 1),f_ 28 <|.mov (.g 2),f_ 29 <|.load (.v 9) (some 12) (.g 9),f_ 30 <|.load (.v 10) (some 3) (.g 10),f_ 31 <|.mov (.g 5),f_ 32 <|.call (.k 240) .no none [.l 0, .l 1, .l 2, .l 3, .l 4, .l 5],f_ 25 <|.mov (.l 6),f_ 33 <|.ext (.l 7) 0,f_ 34 <|.ext (.l 7) 1,t_ 13 <|.alloc [.slice 17 [], .int .i64 0, .int .i64 0, .int .i64 0, .int .i64 0],t_ 14 <|.alloc [.int .i64 0, .int .i64 0, .int .i64 0, .int .i64 0, .bool false, .str [], .slice 2 [], .str [], .bool false],u_ <|.store (.v 13) 5 (.l 10) (.l 8),u_ <|.store (.v 14) 9 (.l 11) (.l 9)]
def r322_4 : List Op := [f_ 35 <|.fad (.g 14) 0,f_ 36 <|.load (.v 14) none (.l 0),f_ 37 <|.bin .neq (.l 1) (ci 0),f_ 38 <|.mov (.l 2),n_ 39 3 <|.fad (.g 9) 2,n_ 40 3 <|.load (.v 9) none (.l 4),n_ 41 3 <|.bin .eql (.l 5) (ci 4),t_ 42 <|.pick (.l 3) (cb true) (.l 6)]
def r322_5 : List Op := [f_ 43 <|.load (.v 13) (some 5) (.g 13),f_ 44 <|.load (.v 6) (some 5) (.g 6),f_ 45 <|.call (.k 242) .no none [.l 0, .l 1],f_ 46 <|.mov (.l 2),y_ 47 3 <|.call (.k 239) .no none [],f_ 48 <|.pick (.l 3) (.l 4) (cb false),t_ 12 <|.mov (.l 5)]
def r322_6 : List Op := [f_ 49 <|.fad (.g 6) 1,f_ 50 <|.load (.v 6) (some 3) (.l 0),f_ 51 <|.fad (.g 9) 7,f_ 52 <|.load (.v 9) (some 3) (.l 2),f_ 53 <|.call (.k 21) .no none [.l 1, .l 3],t_ 15 <|.alloc [.int .i64 0, .int .i64 0, .int .i64 0],u_ <|.store (.v 15) 3 (.l 5) (.l 4)]
def r322_7 : List Op := [f_ 54 <|.fad (.g 13) 1,f_ 55 <|.load (.v 13) (some 3) (.l 0),f_ 56 <|.load (.v 15) (some 3) (.g 15),f_ 57 <|.eqa true [.i, .i, .i] (.l 1) (.l 2),f_ 58 <|.mov (.l 3),n_ 59 4 <|.fad (.g 14) 1,n_ 60 4 <|.load (.v 14) (some 3) (.l 5),n_ 61 4 <|.fad (.g 9) 7,n_ 62 4 <|.load (.v 9) (some 3) (.l 7),n_ 63 4 <|.eqa true [.i, .i, .i] (.l 6) (.l 8),t_ 64 <|.pick (.l 4) (cb true) (.l 9)]
def r322_8 : List Op := [t_ 12 <|.mov (cb false)]
def r322_9 : List Op := [f_ 65 <|.fad (.g 6) 1,f_ 66 <|.load (.v 6) (some 3) (.l 0),f_ 67 <|.fad (.g 13) 1,u_ <|.store (.v 13) 3 (.l 2) (.l 1)]
def r322_10 : List Op := [f_ 68 <|.load (.v 13) (some 5) (.g 13),f_ 69 <|.load (.v 6) (some 5) (.g 6),f_ 70 <|.call (.k 242) .no none [.l 0, .l 1],f_ 71 <|.mov (.l 2),y_ 72 3 <|.call (.k 239) .no none [],f_ 73 <|.pick (.l 3) (.l 4) (cb false),t_ 12 <|.mov (.l 5)]
def c322 : C := .seq (.region false r322_0) (.seq (.seq (.region false r322_1) (.cond (.g 23) (.seq (.region false r322_2) (.ret)) (.skip))) (.seq (.region false r322_3) (.seq (.seq (.region false r322_4) (.cond (.g 42) (.seq (.region false r322_5) (.ret)) (.skip))) (.seq (.region false r322_6) (.seq (.seq (.region false r322_7) (.cond (.g 64) (.seq (.region false r322_8) (.ret)) (.skip))) (.seq (.region false r322_9) (.seq (.region false r322_10) (.ret))))))))
def F322 : F := ⟨6, [0, 1, 2, 3, 4, 5, 6, 9, 10, 12, 13, 14, 15, 23, 42, 64], [.t 12], none, c322⟩
attribute [go_sem] r322_0 r322_1 r322_2 r322_3 r322_4 r322_5 r322_6 r322_7 r322_8 r322_9 r322_10 c322 F322
end Sg
namespace Sg
open _root_.Go _root_.Go.RowKit _root_.Go.Proofs _root_.Go.Shelf
set_option linter.unusedSimpArgs false
set_option linter.unusedVariables false
def renU : Shelf.Ren := ⟨fun | 197 => 33 | 260 => 56 | n => n, fun | 0 => 0 | 3 => 3 | 4 => 4 | 5 => 5 | 9 => 9 | 21 => 21 | 46 => 122 | 105 => 64 | 119 => 121 | 138 => 124 | 139 => 125 | n => n, fun | 3 => 0 | 4 => 1 | n => n⟩
set_option maxRecDepth 1000000 in
theorem lays197 : Lays.n197 Tryd.prog renU where
  mixed := by kernel_rfl
  f197 := Tryd.func33.trans (congrArg some (by kernel_rfl))
  f260 := Tryd.func56.trans (congrArg some (by kernel_rfl))
  t0 := Tryd.underlying0
  a0 := Tryd.isAgg0
  z0 := Tryd.sizeOf0
  v0 := Tryd.zeroValue0
  t3 := Tryd.underlying3
  a3 := Tryd.isAgg3
  z3 := Tryd.sizeOf3
  v3 := Tryd.zeroValue3
  t4 := Tryd.underlying4
  a4 := Tryd.isAgg4
  z4 := Tryd.sizeOf4
  v4 := Tryd.zeroValue4
  t5 := Tryd.underlying5
  a5 := Tryd.isAgg5
  z5 := Tryd.sizeOf5
  v5 := Tryd.zeroValue5
  t9 := Tryd.underlying9
  a9 := Tryd.isAgg9
  z9 := Tryd.sizeOf9
  v9 := Tryd.zeroValue9
  t21 := Tryd.underlying21
  a21 := Tryd.isAgg21
  z21 := Tryd.sizeOf21
  v21 := Tryd.zeroValue21
  t46 := Tryd.underlying122
  a46 := Tryd.isAgg122
  z46 := Tryd.sizeOf122
  v46 := Tryd.zeroValue122
  t105 := Tryd.underlying64
  a105 := Tryd.isAgg64
  z105 := Tryd.sizeOf64
  v105 := Tryd.zeroValue64
  t119 := Tryd.underlying121
  a119 := Tryd.isAgg121
  z119 := Tryd.sizeOf121
  t138 := Tryd.underlying124
  a138 := Tryd.isAgg124
  z138 := Tryd.sizeOf124
  v138 := Tryd.zeroValue124
  t139 := Tryd.underlying125
  a139 := Tryd.isAgg125
  z139 := Tryd.sizeOf125
  v139 := Tryd.zeroValue125
  g3 := by kernel_rfl
  g4 := by kernel_rfl
theorem dec_walk (s : ByteArray) (w : World) (hT : Lib.Utf8Tabs 0 1 w) :
    Calls Tryd.prog 33 #[.string s] w fun e w' => e = .returned (.tuple #[.int .i32 (Lib.decodeGo s).1, .int .i64 (Lib.decodeGo s).2]) ∧ Below w.heap.size w w' :=
  Any.utf8_DecodeRuneInString lays197 s w hT
theorem tabs_st (w w' : World) (h : Lib.Utf8Tabs 0 1 w) (hb : ∀ b, b < 2 → w'.heap[b]? = w.heap[b]?) : Lib.Utf8Tabs 0 1 w' := by
  have e : ∀ b o, b < 2 → w'.cell? ⟨b, o, none⟩ = w.cell? ⟨b, o, none⟩ := fun b o hlt => by
    simp only [World.cell?, hb b hlt]
  exact ⟨fun c hc => by rw [e _ _ (by decide)]; exact h.1 c hc, fun i hi => by rw [e _ _ (by decide), e _ _ (by decide)]; exact h.2 i hi⟩
def cxU (l : List (Nat × Nat)) : Cx where
  fm := fun n => (look l n).getD 0
  tm := fun n => n
  gn := 2
  G := Lib.Utf8Tabs 0 1
  Gst := tabs_st
set_option maxHeartbeats 4000000 in
set_option maxRecDepth 1000000 in
theorem key_walk (s : ByteArray) (w : World) (hgn : 2 ≤ w.heap.size) (hT : Lib.Utf8Tabs 0 1 w)
    (hplain : ∀ (r n : Int) (w : World), 2 ≤ w.heap.size → Lib.Utf8Tabs 0 1 w → Calls Tryd.prog 34 #[.int .i32 r, .int .i64 n] w fun e w' => e = .returned (.bool (plainR r n)) ∧ Below w.heap.size w w') :
    Calls Tryd.prog 14 #[.string s] w fun e w' => e = .returned (.bool (keyR s.data.toList)) ∧ Below w.heap.size w w' := by
  have t0 := Tryd.underlying0; have t3 := Tryd.underlying3; have t4 := Tryd.underlying4; have t9 := Tryd.underlying9; have t21 := Tryd.underlying21
  have hu0 := run_underlying t0; have hu3 := run_underlying t3; have hu4 := run_underlying t4; have hu9 := run_underlying t9; have hu21 := run_underlying t21
  have mixed : Tryd.prog.follows .mixedOrders = true := by kernel_rfl
  have a0 := Tryd.isAgg0; have z0 := Tryd.sizeOf0; have v0 := Tryd.zeroValue0
  have a3 := Tryd.isAgg3; have z3 := Tryd.sizeOf3; have v3 := Tryd.zeroValue3
  have a4 := Tryd.isAgg4; have z4 := Tryd.sizeOf4; have v4 := Tryd.zeroValue4
  have a9 := Tryd.isAgg9; have z9 := Tryd.sizeOf9; have v9 := Tryd.zeroValue9
  have a21 := Tryd.isAgg21; have z21 := Tryd.sizeOf21; have v21 := Tryd.zeroValue21
  go_enter Tryd.func14, Tryd.ntmps14
  go_wp2
  go_loopw [3] (fun _ wr => ∃ (pos fuel : Nat), wr.heap[w.heap.size]? = some (.stringIter s pos) ∧ Below w.heap.size w wr ∧ keyAll fuel (s.data.toList.drop pos) = keyAll s.size s.data.toList ∧ s.size ≤ pos + fuel) (fun _ wr => s.size - wr.iterPos w.heap.size)
  case atStart =>
    refine ⟨0, s.size, ?_, (Below.refl _ w).alloc (Nat.le_refl _) _, by simp, by omega⟩
    have := World.iter_heap w s 0
    simpa using this
  case round =>
    obtain ⟨pos, fuel, hit, hbw, hacc, hfu⟩ := hrel
    have hsz : w.heap.size < wr.heap.size := (Array.getElem?_eq_some_iff.1 hit).1
    have hbT : ∀ W : World, Below w.heap.size w W → Lib.Utf8Tabs 0 1 W := fun W h => tabs_st w W hT fun b hb => h.block b (by omega)
    by_cases hp : pos < s.size
    · have hnx : ∀ ty, (Instr.next (.pointer (some ⟨w.heap.size, 0, none⟩)) true ty).run Tryd.prog wr = _ := fun ty => Lib.run_next_any_at wr w.heap.size s pos ty hit hp
      have hbw2 := Lib.below_iterAt hbw (k := w.heap.size) (by omega) s (pos + (Utf8.decode s pos).2)
      have hit2 := Lib.iterAt_heap wr w.heap.size s pos (pos + (Utf8.decode s pos).2) hit
      have hsz2 : w.heap.size + 1 ≤ (wr.iterAt w.heap.size s (pos + (Utf8.decode s pos).2)).heap.size := by rw [Lib.iterAt_size]; omega
      have hde : ∀ n, n = s.size → Lib.decodeGo (s.extract pos n) = Utf8.decode s pos := fun n hn => decode_extract s pos n hn hp
      have hw1 := width_pos s pos
      obtain ⟨f, rfl⟩ : ∃ f, fuel = f + 1 := ⟨fuel - 1, by omega⟩
      have hnil : s.data.toList.drop pos ≠ [] := fun e => by
        exact drop_ne s pos hp e
      have hdN := decode_drop s pos
      simp only [keyAll, hnil, if_false, ← hdN] at hacc
      generalize Utf8.decode s pos = D at *
      clear hdN hnil
      obtain ⟨D1, D2⟩ := D
      simp only at hw1 hacc hbw2 hit2 hsz2 hde hnx
      have hsl := size_list s
      have hfin : ∀ W : World, plainR D1 D2 = false → keyR s.data.toList = false := fun W hpl => by
        rw [hpl, Bool.false_and] at hacc
        rw [keyR, hsl, ← hacc, Bool.false_and]
      clear hsl
      go_wp2_with (go_at_call 33; refine (dec_walk _ _ (hbT _ hbw2)).mono ?_; rintro e W1 ⟨rfl, b1⟩)
      have hb3 := hbw2.trans (b1.mono (by omega))
      have hs3 : W1.heap.size ≥ w.heap.size + 1 := Nat.le_trans hsz2 b1.size
      have hit3 : W1.heap[w.heap.size]? = some (.stringIter s (pos + D2)) := (b1.block _ (by omega)).trans hit2
      have hpl := hplain D1 D2 W1 (by omega) (hbT _ hb3)
      cases hP : plainR D1 D2 with
      | false =>
        rw [hP] at hpl
        have hke := hfin w hP
        clear hacc hfin
        go_wp2_with (go_at_call 34; refine hpl.mono ?_; rintro e W2 ⟨rfl, b2⟩)
        have hb4 := hb3.trans (b2.mono (by omega))
        go_wp2
        go_ret
        rw [hke]
        exact ⟨rfl, hb4⟩
      | true =>
        rw [hP, Bool.true_and, List.drop_drop] at hacc
        rw [hP] at hpl
        clear hfin
        obtain ⟨kk, hkk⟩ : ∃ kk, kk = keyAll s.size s.data.toList := ⟨_, rfl⟩
        go_wp2_with (go_at_call 34; refine hpl.mono ?_; rintro e W2 ⟨rfl, b2⟩)
        have hb4 := hb3.trans (b2.mono (by omega))
        have hit4 : W2.heap[w.heap.size]? = some (.stringIter s (pos + D2)) := (b2.block _ (by omega)).trans hit3
        go_wp2
        go_roundw
        case rel => exact ⟨pos + D2, f, hit4, hb4, hacc, by omega⟩
        case measure =>
          simp only [World.iterPos, hit4, hit]
          omega
    · have hnx : ∀ ty, (Instr.next (.pointer (some ⟨w.heap.size, 0, none⟩)) true ty).run Tryd.prog wr = _ := fun ty => Lib.run_next_end_at wr w.heap.size s pos ty hit hp
      have hall : keyAll s.size s.data.toList = true := by
        rw [← hacc, List.drop_eq_nil_of_le (by rw [size_list]; omega)]
        cases fuel <;> simp [keyAll]
      have hkey : keyR s.data.toList = (decide ((1 : Int) ≤ s.size) && decide ((s.size : Int) ≤ 16)) := by
        rw [keyR, size_list, hall, Bool.true_and]
        congr 1 <;> exact decide_eq_decide.2 (by omega)
      clear hacc hall
      by_cases h1 : (1 : Int) ≤ s.size
      · rw [decide_eq_true h1, Bool.true_and] at hkey
        go_wp2
        go_ret
        exact ⟨by first | rfl | (rw [hkey]; rfl), hbw⟩
      · rw [decide_eq_false h1, Bool.false_and] at hkey
        go_wp2
        go_ret
        exact ⟨by first | rfl | (rw [hkey]; rfl), hbw⟩
end Sg
namespace Sg
open Go.Proofs
open _root_.Go
def noQ : List V → Option V := fun _ => none
def engdFm : List (Nat × Nat) := [(322, 4), (238, 8), (239, 7), (240, 9), (242, 10), (21, 11), (252, 20), (283, 18), (249, 19), (284, 12), (28, 13), (285, 5), (286, 21), (287, 22), (171, 23), (288, 24), (289, 25), (290, 26), (291, 27), (250, 28), (15, 29), (198, 39), (78, 40), (244, 37), (301, 38), (313, 31), (67, 30), (32, 32), (314, 41), (186, 42), (192, 43), (82, 44), (84, 45), (200, 46), (88, 47), (304, 48), (312, 49), (206, 50), (202, 51), (86, 52), (26, 54), (27, 53), (203, 57), (81, 58), (298, 60), (299, 59), (316, 61), (76, 55), (191, 34), (319, 62), (320, 63), (97, 64), (100, 65), (220, 66), (3, 67), (221, 68), (10, 74), (12, 75), (8, 76), (101, 77), (31, 78), (7, 79), (98, 80), (315, 81), (105, 83), (106, 82), (225, 84), (226, 85), (22, 86), (25, 95), (29, 99), (30, 100), (170, 14), (190, 33), (222, 69), (102, 70), (103, 71), (307, 72), (317, 73), (23, 87), (227, 88)]
def engdTab : List (Nat × Fn) := [(322, .code F322), (238, .code F238), (239, .code F239), (240, .code F240), (242, .code F242), (21, .code F21), (252, .code F252), (283, .code F283), (249, .code F249), (284, .code F284), (28, .code F28), (285, .code F285), (286, .code F286), (287, .code F287), (171, .code F171), (288, .code F288), (289, .code F289), (290, .code F290), (291, .code F291), (250, .code F250), (15, .code F15), (198, .code F198), (78, .code F78), (244, .code F244), (301, .code F301), (313, .code F313), (67, .code F67), (32, .code F32), (314, .code F314), (186, .code F186), (192, .code F192), (82, .code F82), (84, .code F84), (200, .code F200), (88, .code F88), (304, .code F304), (312, .code F312), (206, .code F206), (202, .code F202), (86, .code F86), (26, .code F26), (27, .code F27), (203, .code F203), (81, .code F81), (298, .code F298), (299, .code F299), (316, .code F316), (76, .code F76), (191, .code F191), (319, .code F319), (320, .code F320), (97, .code F97), (100, .code F100), (220, .code F220), (3, .code F3), (221, .code F221), (10, .code F10), (12, .code F12), (8, .code F8), (101, .code F101), (31, .code F31), (7, .code F7), (98, .code F98), (315, .code F315), (105, .code F105), (106, .code F106), (225, .code F225), (226, .code F226), (22, .code F22), (25, .code F25), (29, .code F29), (30, .code F30), (170, .prim none keyQ), (190, .prim none decQ), (222, .prim (some 1002) noQ), (102, .prim (some 0) (cloneQ 11)), (103, .prim (some 1011) noQ), (307, .prim (some 0) (cloneQ 17)), (317, .prim (some 1017) noQ), (23, .prim (some 0) (cloneQ 5)), (227, .prim (some 0) (cloneQ 2))]
set_option maxRecDepth 100000
theorem okc {P : Go.Program} {cx : Cx} {tab : List (Nat × Fn)} {k : Nat} {F : F} {l : List (Nat × Fn)} (h : okF P cx (look tab) (cx.fm k) F = true) (t : okTab P cx tab l = true) : okTab P cx tab ((k, .code F) :: l) = true := by simp [okTab, h, t]
theorem okp {P : Go.Program} {cx : Cx} {tab : List (Nat × Fn)} {k : Nat} {o : Option Nat} {p} {l : List (Nat × Fn)} (t : okTab P cx tab l = true) : okTab P cx tab ((k, .prim o p) :: l) = true := t
theorem ok322 : okF Tryd.prog (cxU engdFm) (look engdTab) ((cxU engdFm).fm 322) F322 = true := by kernel_rfl
theorem ok238 : okF Tryd.prog (cxU engdFm) (look engdTab) ((cxU engdFm).fm 238) F238 = true := by kernel_rfl
theorem ok239 : okF Tryd.prog (cxU engdFm) (look engdTab) ((cxU engdFm).fm 239) F239 = true := by kernel_rfl
theorem ok240 : okF Tryd.prog (cxU engdFm) (look engdTab) ((cxU engdFm).fm 240) F240 = true := by kernel_rfl
theorem ok242 : okF Tryd.prog (cxU engdFm) (look engdTab) ((cxU engdFm).fm 242) F242 = true := by kernel_rfl
theorem ok21 : okF Tryd.prog (cxU engdFm) (look engdTab) ((cxU engdFm).fm 21) F21 = true := by kernel_rfl
theorem ok252 : okF Tryd.prog (cxU engdFm) (look engdTab) ((cxU engdFm).fm 252) F252 = true := by kernel_rfl
theorem ok283 : okF Tryd.prog (cxU engdFm) (look engdTab) ((cxU engdFm).fm 283) F283 = true := by kernel_rfl
theorem ok249 : okF Tryd.prog (cxU engdFm) (look engdTab) ((cxU engdFm).fm 249) F249 = true := by kernel_rfl
theorem ok284 : okF Tryd.prog (cxU engdFm) (look engdTab) ((cxU engdFm).fm 284) F284 = true := by kernel_rfl
theorem ok28 : okF Tryd.prog (cxU engdFm) (look engdTab) ((cxU engdFm).fm 28) F28 = true := by kernel_rfl
theorem ok285 : okF Tryd.prog (cxU engdFm) (look engdTab) ((cxU engdFm).fm 285) F285 = true := by kernel_rfl
theorem ok286 : okF Tryd.prog (cxU engdFm) (look engdTab) ((cxU engdFm).fm 286) F286 = true := by kernel_rfl
theorem ok287 : okF Tryd.prog (cxU engdFm) (look engdTab) ((cxU engdFm).fm 287) F287 = true := by kernel_rfl
theorem ok171 : okF Tryd.prog (cxU engdFm) (look engdTab) ((cxU engdFm).fm 171) F171 = true := by kernel_rfl
theorem ok288 : okF Tryd.prog (cxU engdFm) (look engdTab) ((cxU engdFm).fm 288) F288 = true := by kernel_rfl
theorem ok289 : okF Tryd.prog (cxU engdFm) (look engdTab) ((cxU engdFm).fm 289) F289 = true := by kernel_rfl
theorem ok290 : okF Tryd.prog (cxU engdFm) (look engdTab) ((cxU engdFm).fm 290) F290 = true := by kernel_rfl
theorem ok291 : okF Tryd.prog (cxU engdFm) (look engdTab) ((cxU engdFm).fm 291) F291 = true := by kernel_rfl
theorem ok250 : okF Tryd.prog (cxU engdFm) (look engdTab) ((cxU engdFm).fm 250) F250 = true := by kernel_rfl
theorem ok15 : okF Tryd.prog (cxU engdFm) (look engdTab) ((cxU engdFm).fm 15) F15 = true := by kernel_rfl
theorem ok198 : okF Tryd.prog (cxU engdFm) (look engdTab) ((cxU engdFm).fm 198) F198 = true := by kernel_rfl
theorem ok78 : okF Tryd.prog (cxU engdFm) (look engdTab) ((cxU engdFm).fm 78) F78 = true := by kernel_rfl
theorem ok244 : okF Tryd.prog (cxU engdFm) (look engdTab) ((cxU engdFm).fm 244) F244 = true := by kernel_rfl
theorem ok301 : okF Tryd.prog (cxU engdFm) (look engdTab) ((cxU engdFm).fm 301) F301 = true := by kernel_rfl
theorem ok313 : okF Tryd.prog (cxU engdFm) (look engdTab) ((cxU engdFm).fm 313) F313 = true := by kernel_rfl
theorem ok67 : okF Tryd.prog (cxU engdFm) (look engdTab) ((cxU engdFm).fm 67) F67 = true := by kernel_rfl
theorem ok32 : okF Tryd.prog (cxU engdFm) (look engdTab) ((cxU engdFm).fm 32) F32 = true := by kernel_rfl
theorem ok314 : okF Tryd.prog (cxU engdFm) (look engdTab) ((cxU engdFm).fm 314) F314 = true := by kernel_rfl
theorem ok186 : okF Tryd.prog (cxU engdFm) (look engdTab) ((cxU engdFm).fm 186) F186 = true := by kernel_rfl
theorem ok192 : okF Tryd.prog (cxU engdFm) (look engdTab) ((cxU engdFm).fm 192) F192 = true := by kernel_rfl
theorem ok82 : okF Tryd.prog (cxU engdFm) (look engdTab) ((cxU engdFm).fm 82) F82 = true := by kernel_rfl
theorem ok84 : okF Tryd.prog (cxU engdFm) (look engdTab) ((cxU engdFm).fm 84) F84 = true := by kernel_rfl
theorem ok200 : okF Tryd.prog (cxU engdFm) (look engdTab) ((cxU engdFm).fm 200) F200 = true := by kernel_rfl
theorem ok88 : okF Tryd.prog (cxU engdFm) (look engdTab) ((cxU engdFm).fm 88) F88 = true := by kernel_rfl
theorem ok304 : okF Tryd.prog (cxU engdFm) (look engdTab) ((cxU engdFm).fm 304) F304 = true := by kernel_rfl
theorem ok312 : okF Tryd.prog (cxU engdFm) (look engdTab) ((cxU engdFm).fm 312) F312 = true := by kernel_rfl
theorem ok206 : okF Tryd.prog (cxU engdFm) (look engdTab) ((cxU engdFm).fm 206) F206 = true := by kernel_rfl
theorem ok202 : okF Tryd.prog (cxU engdFm) (look engdTab) ((cxU engdFm).fm 202) F202 = true := by kernel_rfl
theorem ok86 : okF Tryd.prog (cxU engdFm) (look engdTab) ((cxU engdFm).fm 86) F86 = true := by kernel_rfl
theorem ok26 : okF Tryd.prog (cxU engdFm) (look engdTab) ((cxU engdFm).fm 26) F26 = true := by kernel_rfl
theorem ok27 : okF Tryd.prog (cxU engdFm) (look engdTab) ((cxU engdFm).fm 27) F27 = true := by kernel_rfl
theorem ok203 : okF Tryd.prog (cxU engdFm) (look engdTab) ((cxU engdFm).fm 203) F203 = true := by kernel_rfl
theorem ok81 : okF Tryd.prog (cxU engdFm) (look engdTab) ((cxU engdFm).fm 81) F81 = true := by kernel_rfl
theorem ok298 : okF Tryd.prog (cxU engdFm) (look engdTab) ((cxU engdFm).fm 298) F298 = true := by kernel_rfl
theorem ok299 : okF Tryd.prog (cxU engdFm) (look engdTab) ((cxU engdFm).fm 299) F299 = true := by kernel_rfl
theorem ok316 : okF Tryd.prog (cxU engdFm) (look engdTab) ((cxU engdFm).fm 316) F316 = true := by kernel_rfl
theorem ok76 : okF Tryd.prog (cxU engdFm) (look engdTab) ((cxU engdFm).fm 76) F76 = true := by kernel_rfl
theorem ok191 : okF Tryd.prog (cxU engdFm) (look engdTab) ((cxU engdFm).fm 191) F191 = true := by kernel_rfl
theorem ok319 : okF Tryd.prog (cxU engdFm) (look engdTab) ((cxU engdFm).fm 319) F319 = true := by kernel_rfl
theorem ok320 : okF Tryd.prog (cxU engdFm) (look engdTab) ((cxU engdFm).fm 320) F320 = true := by kernel_rfl
theorem ok97 : okF Tryd.prog (cxU engdFm) (look engdTab) ((cxU engdFm).fm 97) F97 = true := by kernel_rfl
theorem ok100 : okF Tryd.prog (cxU engdFm) (look engdTab) ((cxU engdFm).fm 100) F100 = true := by kernel_rfl
theorem ok220 : okF Tryd.prog (cxU engdFm) (look engdTab) ((cxU engdFm).fm 220) F220 = true := by kernel_rfl
theorem ok3 : okF Tryd.prog (cxU engdFm) (look engdTab) ((cxU engdFm).fm 3) F3 = true := by kernel_rfl
theorem ok221 : okF Tryd.prog (cxU engdFm) (look engdTab) ((cxU engdFm).fm 221) F221 = true := by kernel_rfl
theorem ok10 : okF Tryd.prog (cxU engdFm) (look engdTab) ((cxU engdFm).fm 10) F10 = true := by kernel_rfl
theorem ok12 : okF Tryd.prog (cxU engdFm) (look engdTab) ((cxU engdFm).fm 12) F12 = true := by kernel_rfl
theorem ok8 : okF Tryd.prog (cxU engdFm) (look engdTab) ((cxU engdFm).fm 8) F8 = true := by kernel_rfl
theorem ok101 : okF Tryd.prog (cxU engdFm) (look engdTab) ((cxU engdFm).fm 101) F101 = true := by kernel_rfl
theorem ok31 : okF Tryd.prog (cxU engdFm) (look engdTab) ((cxU engdFm).fm 31) F31 = true := by kernel_rfl
theorem ok7 : okF Tryd.prog (cxU engdFm) (look engdTab) ((cxU engdFm).fm 7) F7 = true := by kernel_rfl
theorem ok98 : okF Tryd.prog (cxU engdFm) (look engdTab) ((cxU engdFm).fm 98) F98 = true := by kernel_rfl
theorem ok315 : okF Tryd.prog (cxU engdFm) (look engdTab) ((cxU engdFm).fm 315) F315 = true := by kernel_rfl
theorem ok105 : okF Tryd.prog (cxU engdFm) (look engdTab) ((cxU engdFm).fm 105) F105 = true := by kernel_rfl
theorem ok106 : okF Tryd.prog (cxU engdFm) (look engdTab) ((cxU engdFm).fm 106) F106 = true := by kernel_rfl
theorem ok225 : okF Tryd.prog (cxU engdFm) (look engdTab) ((cxU engdFm).fm 225) F225 = true := by kernel_rfl
theorem ok226 : okF Tryd.prog (cxU engdFm) (look engdTab) ((cxU engdFm).fm 226) F226 = true := by kernel_rfl
theorem ok22 : okF Tryd.prog (cxU engdFm) (look engdTab) ((cxU engdFm).fm 22) F22 = true := by kernel_rfl
theorem ok25 : okF Tryd.prog (cxU engdFm) (look engdTab) ((cxU engdFm).fm 25) F25 = true := by kernel_rfl
theorem ok29 : okF Tryd.prog (cxU engdFm) (look engdTab) ((cxU engdFm).fm 29) F29 = true := by kernel_rfl
theorem ok30 : okF Tryd.prog (cxU engdFm) (look engdTab) ((cxU engdFm).fm 30) F30 = true := by kernel_rfl
theorem okAll : okTab Tryd.prog (cxU engdFm) engdTab engdTab = true := okc ok322 (okc ok238 (okc ok239 (okc ok240 (okc ok242 (okc ok21 (okc ok252 (okc ok283 (okc ok249 (okc ok284 (okc ok28 (okc ok285 (okc ok286 (okc ok287 (okc ok171 (okc ok288 (okc ok289 (okc ok290 (okc ok291 (okc ok250 (okc ok15 (okc ok198 (okc ok78 (okc ok244 (okc ok301 (okc ok313 (okc ok67 (okc ok32 (okc ok314 (okc ok186 (okc ok192 (okc ok82 (okc ok84 (okc ok200 (okc ok88 (okc ok304 (okc ok312 (okc ok206 (okc ok202 (okc ok86 (okc ok26 (okc ok27 (okc ok203 (okc ok81 (okc ok298 (okc ok299 (okc ok316 (okc ok76 (okc ok191 (okc ok319 (okc ok320 (okc ok97 (okc ok100 (okc ok220 (okc ok3 (okc ok221 (okc ok10 (okc ok12 (okc ok8 (okc ok101 (okc ok31 (okc ok7 (okc ok98 (okc ok315 (okc ok105 (okc ok106 (okc ok225 (okc ok226 (okc ok22 (okc ok25 (okc ok29 (okc ok30 (okp (okp (okp (okp (okp (okp (okp (okp (okp (rfl)))))))))))))))))))))))))))))))))))))))))))))))))))))))))))))))))))))))))))))))))
theorem okClone102 : okF Tryd.prog (cxU engdFm) (onePg 102 (cloneF 11 [.int .i64 0, .int .i64 0, .int .i64 0, .int .i64 0, .int .i64 0, .int .i64 0, .bool false, .str [], .slice 2 [], .str [], .bool false])) 70 (cloneF 11 [.int .i64 0, .int .i64 0, .int .i64 0, .int .i64 0, .int .i64 0, .int .i64 0, .bool false, .str [], .slice 2 [], .str [], .bool false]) = true := by kernel_rfl
theorem okClone307 : okF Tryd.prog (cxU engdFm) (onePg 307 (cloneF 17 [.int .i64 0, .int .i64 0, .str [], .str [], .int .i64 0, .slice 2 [], .int .i64 0, .int .i64 0, .int .i64 0, .int .i64 0, .int .i64 0, .int .i64 0, .slice 11 [], .int .i64 0, .int .i64 0, .int .i64 0, .int .i64 0])) 72 (cloneF 17 [.int .i64 0, .int .i64 0, .str [], .str [], .int .i64 0, .slice 2 [], .int .i64 0, .int .i64 0, .int .i64 0, .int .i64 0, .int .i64 0, .int .i64 0, .slice 11 [], .int .i64 0, .int .i64 0, .int .i64 0, .int .i64 0]) = true := by kernel_rfl
theorem okClone23 : okF Tryd.prog (cxU engdFm) (onePg 23 (cloneF 5 [.int .i64 0, .int .i64 0, .int .i64 0, .bool false, .str []])) 87 (cloneF 5 [.int .i64 0, .int .i64 0, .int .i64 0, .bool false, .str []]) = true := by kernel_rfl
theorem okClone227 : okF Tryd.prog (cxU engdFm) (onePg 227 (cloneF 2 [.str [], .slice 5 []])) 88 (cloneF 2 [.str [], .slice 5 []]) = true := by kernel_rfl
#print axioms okAll
end Sg
namespace Sg
open Go Go.RowKit Go.Lib Go.Proofs
set_option linter.unusedVariables false
set_option linter.unusedSimpArgs false
set_option maxRecDepth 100000
set_option maxHeartbeats 4000000 in
set_option maxRecDepth 100000 in
theorem ins69_shift (b off n c i vb voff m vc : Nat) (cs vs : List Value) (w : World) (hi : i < n) (hm : 0 < m) (hroom : n + m ≤ c) (hlim : n + m ≤ 1073741824) (hvb : vb ≠ b)
    (hcl : cs.length = n * 2) (hvl : vs.length = m * 2)
    (hcs : ∀ j v, cs[j]? = some v → w.cell? ⟨b, off + j, none⟩ = some v) (hsp : ∀ j, j < (n + m) * 2 → (w.cell? ⟨b, off + j, none⟩).isSome = true) (hfz : ∀ j, w.frozen? ⟨b, j, none⟩ = false)
    (hvs : ∀ j v, vs[j]? = some v → w.cell? ⟨vb, voff + j, none⟩ = some v) (h1c : ∀ v ∈ cs, v.oneCell' = true) (h1v : ∀ v ∈ vs, v.oneCell' = true)
    (tA tB : TypeId) (kA kB : Nat) (hsa : w.shape? vb = some (tA, kA)) (hsb : w.shape? b = some (tB, kB)) (hkA : kA ≠ 0) :
    Calls Tryd.prog 69 #[.slice (some ⟨b, off, none⟩) n c, .int .i64 i, .slice (some ⟨vb, voff, none⟩) m vc] w fun e w' =>
      e = .returned (.slice (some ⟨b, off, none⟩) (n + m) c) ∧ w' = (w.drew.setCells b (off + (i + m) * 2) (cs.drop (i * 2))).setCells b (off + i * 2) vs := by
  have t0 := Tryd.underlying0; have t3 := Tryd.underlying3; have t4 := Tryd.underlying4; have t9 := Tryd.underlying100; have t24 := Tryd.underlying47
  have a0 := Tryd.isAgg0; have a3 := Tryd.isAgg3; have a4 := Tryd.isAgg4; have a9 := Tryd.isAgg100; have a24 := Tryd.isAgg47
  have z0 := Tryd.sizeOf0; have z3 := Tryd.sizeOf3; have z4 := Tryd.sizeOf4; have z9 := Tryd.sizeOf100; have z24 := Tryd.sizeOf47
  have v0 := Tryd.zeroValue0; have v3 := Tryd.zeroValue3; have v4 := Tryd.zeroValue4; have v24 := Tryd.zeroValue47
  have u0 := run_underlying t0; have u3 := run_underlying t3; have u4 := run_underlying t4; have u24 := run_underlying t24
  have hz1 : ¬ ((m : Int) = 0) := by omega
  have hz2 : ¬ ((i : Int) = (n : Int)) := by omega
  have hsz : (Tryd.prog.info? 100).map (·.size) = some 2 := by kernel_rfl
  have hov : ∀ lb cb, (callFunc 89 #[.slice (some ⟨vb, voff, none⟩) m vc, .slice (some ⟨b, off + (i + m) * 2, none⟩) lb cb]).run Tryd.prog w = .ok (.value (.bool false)) w := fun lb cb => by
    rw [run_callFunc_extern Tryd.func89 (by kernel_rfl) (by kernel_rfl) (by kernel_rfl) (e := Extern.SlicesOverlaps.overlaps #[47, 47] #[4]) (by kernel_rfl),
      run_overlaps_k w 47 4 100 t24 2 z9 ⟨vb, voff, none⟩ ⟨b, off + (i + m) * 2, none⟩ m vc lb cb hvb tA tB kA kB hsa hsb hkA (hfz _) (hfz _)]
    rfl
  have hdl : (cs.drop (i * 2)).length = (n - i) * 2 := by rw [List.length_drop, hcl]; omega
  have mixed : Tryd.prog.follows .mixedOrders = true := by kernel_rfl
  have hw1 : IntKind.i64.wrap ((i : Int) + (m : Int)) = (i : Int) + (m : Int) := by rw [IntKind.wrap_i64]; omega
  have hb1 : (0 : Int) ≤ (i : Int) + (m : Int) := by omega
  have hin : i ≤ n := by omega
  have htn : ((i : Int) + (m : Int)).toNat = i + m := by omega
  have hb2 : ¬ (c = i + m) := by omega
  have hb3 : (i : Int) ≤ (n : Int) + (m : Int) := by omega
  have hb4 : ¬ (c = i) := by omega
  have hcp1 : ∀ ty dc sc, (Builtin.copy_ #[47, 47] ty #[.slice (some ⟨b, off + (i + m) * 2, none⟩) (n + m - (i + m)) dc, .slice (some ⟨b, off + i * 2, none⟩) (n + m - i) sc]).run Tryd.prog w.drew = .ok (goInt (n - i : Nat)) (w.drew.setCells b (off + (i + m) * 2) (cs.drop (i * 2))) := fun ty dc sc =>
    run_copy_k 2 w.drew _ _ ty 100 b (off + (i + m) * 2) (n + m - (i + m)) dc ⟨b, off + i * 2, none⟩ (n + m - i) sc (cs.drop (i * 2)) (n - i) t24 hsz (by simp only [Nat.min_def]; split <;> omega) (by rw [hdl])
      (fun j v hj => by rw [Addr.add_lit, Nat.add_assoc]; exact hcs (i * 2 + j) v (by rwa [List.getElem?_drop] at hj))
      (fun j hj => by rw [Nat.add_assoc]; exact hsp _ (by omega)) (fun j hj => hfz _) (fun v hv => h1c v (List.mem_of_mem_drop hv))
  obtain ⟨W1, hW1⟩ : ∃ W1, W1 = w.drew.setCells b (off + (i + m) * 2) (cs.drop (i * 2)) := ⟨_, rfl⟩
  have hsp1 : ∀ k, k < (n + m) * 2 → (W1.cell? ⟨b, off + k, none⟩).isSome = true := fun k hk => by
    rw [hW1]
    exact isSome_setK b _ _ _ (fun j hj => by rw [Nat.add_assoc]; exact hsp _ (by omega)) _ (hsp k hk)
  have hcp2 : ∀ (W : World), (∀ x, W.cell? x = W1.cell? x) → (∀ x, W.frozen? x = W1.frozen? x) → ∀ ty dc, (Builtin.copy_ #[47, 47] ty #[.slice (some ⟨b, off + i * 2, none⟩) (n + m - i) dc, .slice (some ⟨vb, voff, none⟩) m vc]).run Tryd.prog W = .ok (goInt (m : Nat)) (W.setCells b (off + i * 2) vs) := fun W hWc hWf ty dc =>
    run_copy_k 2 W _ _ ty 100 b (off + i * 2) (n + m - i) dc ⟨vb, voff, none⟩ m vc vs m t24 hsz (by simp only [Nat.min_def]; split <;> omega) hvl
      (fun j v hj => by
        rw [Addr.add_lit, hWc, hW1, World.cell?_setCells_out b _ _ _ _ (fun h _ => absurd h hvb)]
        exact hvs j v hj)
      (fun j hj => by rw [hWc, Nat.add_assoc]; exact hsp1 _ (by omega)) (fun j hj => by rw [hWf, hW1, World.frozen?_setCells]; exact hfz _) h1v
  rw [← hW1] at hcp1
  go_enter Tryd.func69, Tryd.ntmps69
  go_wp2_with (simp only [hov])
  go_region_law_o (refine step_copy_k rfl _ _ 47 47 rfl _ _ (by simp [Act.eval, Act.put]) (by simp [Act.eval, Act.put]) (hcp1 _ _ _) ?_)
  go_wp2_with (at_builtin; refine wpList_copy_k _ rfl _ _ 47 47 rfl _ _ rfl rfl (hcp2 _ (fun _ => rfl) (fun _ => rfl) _ _) ?_)
  go_ret
  first | exact ⟨rfl, rfl⟩ | exact ⟨rfl, by rw [hW1]⟩
set_option maxHeartbeats 4000000 in
set_option maxRecDepth 100000 in
theorem ins69_end (base : Option Addr) (n c m vc : Nat) (vb : Option Addr) (w w' : World) (q : Value) (hm : 0 < m) (hnc : n ≤ c) (hlim : n + m ≤ 1073741824) (hnil : base = none → n = 0)
    (hrun : (Builtin.append_ #[47, 47] 47 #[.slice base n c, .slice vb m vc]).run Tryd.prog w = .ok q w') :
    Calls Tryd.prog 69 #[.slice base n c, .int .i64 n, .slice vb m vc] w fun e w1 => e = .returned q ∧ w1 = w' := by
  have t0 := Tryd.underlying0; have t3 := Tryd.underlying3; have t4 := Tryd.underlying4; have t9 := Tryd.underlying100; have t24 := Tryd.underlying47
  have a0 := Tryd.isAgg0; have a3 := Tryd.isAgg3; have a4 := Tryd.isAgg4; have a9 := Tryd.isAgg100; have a24 := Tryd.isAgg47
  have z0 := Tryd.sizeOf0; have z3 := Tryd.sizeOf3; have z4 := Tryd.sizeOf4; have z9 := Tryd.sizeOf100; have z24 := Tryd.sizeOf47
  have v0 := Tryd.zeroValue0; have v3 := Tryd.zeroValue3; have v4 := Tryd.zeroValue4; have v24 := Tryd.zeroValue47
  have u0 := run_underlying t0; have u3 := run_underlying t3; have u4 := run_underlying t4; have u24 := run_underlying t24
  have mixed : Tryd.prog.follows .mixedOrders = true := by kernel_rfl
  have hz1 : ¬ ((m : Int) = 0) := by omega
  go_enter Tryd.func69, Tryd.ntmps69
  cases base with
  | none =>
    have h0 := hnil rfl
    subst h0
    go_wp2_with (at_builtin; refine Lib.wpList_append_run _ rfl _ _ _ _ rfl _ _ rfl rfl _ _ hrun ?_)
    all_goals (go_ret; exact ⟨rfl, rfl⟩)
  | some a =>
    obtain ⟨ab, ao, asp⟩ := a
    go_wp2_with (at_builtin; refine Lib.wpList_append_run _ rfl _ _ _ _ rfl _ _ rfl rfl _ _ hrun ?_)
    all_goals (go_ret; exact ⟨rfl, rfl⟩)
set_option maxHeartbeats 4000000 in
set_option maxRecDepth 100000 in
theorem ins69_none (base : Option Addr) (n c i vc : Nat) (vb : Option Addr) (w : World) (hnc : n ≤ c) (hi : i ≤ n) (hnil : base = none → n = 0) :
    Calls Tryd.prog 69 #[.slice base n c, .int .i64 i, .slice vb 0 vc] w fun e w1 => e = .returned (.slice base n c) ∧ w1 = w := by
  have t0 := Tryd.underlying0; have t3 := Tryd.underlying3; have t4 := Tryd.underlying4; have t9 := Tryd.underlying100; have t24 := Tryd.underlying47
  have a0 := Tryd.isAgg0; have a3 := Tryd.isAgg3; have a4 := Tryd.isAgg4; have a9 := Tryd.isAgg100; have a24 := Tryd.isAgg47
  have z0 := Tryd.sizeOf0; have z3 := Tryd.sizeOf3; have z4 := Tryd.sizeOf4; have z9 := Tryd.sizeOf100; have z24 := Tryd.sizeOf47
  have v0 := Tryd.zeroValue0; have v3 := Tryd.zeroValue3; have v4 := Tryd.zeroValue4; have v24 := Tryd.zeroValue47
  have u0 := run_underlying t0; have u3 := run_underlying t3; have u4 := run_underlying t4; have u24 := run_underlying t24
  have mixed : Tryd.prog.follows .mixedOrders = true := by kernel_rfl
  go_enter Tryd.func69, Tryd.ntmps69
  cases base with
  | none =>
    have h0 := hnil rfl
    subst h0
    have hi0 : i = 0 := by omega
    subst hi0
    go_wp2
    all_goals (go_ret; exact ⟨rfl, rfl⟩)
  | some a =>
    obtain ⟨ab, ao, asp⟩ := a
    go_wp2
    all_goals (go_ret; exact ⟨rfl, rfl⟩)
set_option maxHeartbeats 4000000 in
set_option maxRecDepth 100000 in
theorem ins69_grow (b off n c i vb voff m vc : Nat) (cs vs : List Value) (w : World) (hi : i < n) (hm : 0 < m) (hnc : n ≤ c) (hroom : c < n + m) (hlim : n + m ≤ 1073741824)
    (hcl : cs.length = n * 2) (hvl : vs.length = m * 2) (hbw : b < w.heap.size) (hvw : vb < w.heap.size)
    (hcs : ∀ j v, cs[j]? = some v → w.cell? ⟨b, off + j, none⟩ = some v)
    (hvs : ∀ j v, vs[j]? = some v → w.cell? ⟨vb, voff + j, none⟩ = some v) (h1c : ∀ v ∈ cs, v.oneCell' = true) (h1v : ∀ v ∈ vs, v.oneCell' = true) :
    Calls Tryd.prog 69 #[.slice (some ⟨b, off, none⟩) n c, .int .i64 i, .slice (some ⟨vb, voff, none⟩) m vc] w fun e w' =>
      ∃ (G : Nat) (ROW : Array Value) (d1 : Nat), n + m ≤ G ∧ (n + m) * 2 ≤ ROW.size ∧ ROW.size = G * 2 ∧ (∀ (j : Nat) (v : Value), (cs.take (i * 2))[j]? = some v → ROW[j]? = some v) ∧ e = .returned (.slice (some ⟨w.heap.size, 0, none⟩) (n + m) G) ∧
      w' = ((({ w with drawn := d1 } : World).alloc (.cells ROW 100)).setCells w.heap.size (i * 2) vs).setCells w.heap.size ((i + m) * 2) (cs.drop (i * 2)) := by
  have t0 := Tryd.underlying0; have t3 := Tryd.underlying3; have t4 := Tryd.underlying4; have t9 := Tryd.underlying100; have t24 := Tryd.underlying47
  have a0 := Tryd.isAgg0; have a3 := Tryd.isAgg3; have a4 := Tryd.isAgg4; have a9 := Tryd.isAgg100; have a24 := Tryd.isAgg47
  have z0 := Tryd.sizeOf0; have z3 := Tryd.sizeOf3; have z4 := Tryd.sizeOf4; have z9 := Tryd.sizeOf100; have z24 := Tryd.sizeOf47
  have v0 := Tryd.zeroValue0; have v3 := Tryd.zeroValue3; have v4 := Tryd.zeroValue4; have v24 := Tryd.zeroValue47
  have u0 := run_underlying t0; have u3 := run_underlying t3; have u4 := run_underlying t4; have u24 := run_underlying t24
  have mixed : Tryd.prog.follows .mixedOrders = true := by kernel_rfl
  obtain ⟨i0, hi0, hz0, hzs, hzb⟩ : ∃ i0, Tryd.prog.info? 100 = some i0 ∧ i0.zero = some (Value.agg #[.string ⟨#[]⟩, .slice none 0 0]) ∧ i0.size = 2 ∧ i0.bytes = 40 := ⟨_, rfl, rfl, rfl, rfl⟩
  have hz1 : ¬ ((m : Int) = 0) := by omega
  have hz2 : ¬ ((i : Int) = (n : Int)) := by omega
  have hz3 : (c : Int) < (n : Int) + (m : Int) := by omega
  have hsz : (Tryd.prog.info? 100).map (·.size) = some 2 := by rw [hi0]; simp [hzs]
  have hkk : (n : Int) + (m : Int) - (i : Int) = ((n + m - i : Nat) : Int) := by omega
  have hik : i + (n + m - i) = n + m := by omega
  have hold : (Builtin.firstCells i0.size i (.slice (some ⟨b, off, none⟩) i c)).run Tryd.prog w.drew = .ok (cs.take (i * 2)).toArray w.drew := by
    rw [hzs]
    exact run_firstCells_some w.drew 2 i ⟨b, off, none⟩ i c (cs.take (i * 2)) (by rw [List.length_take]; omega) (fun j v hj => by
      rw [Addr.add_lit]
      rw [List.getElem?_take] at hj
      split at hj
      · exact hcs j v hj
      · cases hj)
  have hrz : ∀ ty, (Builtin.append_ #[47, 3] ty #[.slice (some ⟨b, off, none⟩) i c, .int .i64 ((n : Int) + (m : Int) - (i : Int))]).run Tryd.prog w =
      .ok (.slice (some ⟨w.heap.size, 0, none⟩) (n + m) (grownCap w (n + m) c 100)) (w.drew.alloc (.cells ((cs.take (i * 2)).toArray ++ Builtin.zeroCells (Value.agg #[.string ⟨#[]⟩, .slice none 0 0]).cells (n + m - i) ++ Builtin.zeroCells (Value.agg #[.string ⟨#[]⟩, .slice none 0 0]).cells (grownCap w (n + m) c 100 - (n + m))) 100)) := fun ty => by
    have h := Lib.run_append_grow_zeros w 47 3 ty 100 i0 _ .i64 .i64 t24 t3 hi0 hz0 (some ⟨b, off, none⟩) i c (cs.take (i * 2)) hold (n + m - i) (by omega) (by omega) (by omega) (by omega) (by rw [hzb]; omega) (by rw [hzb, hik]; exact growslice_fits hroom (by omega))
    rw [hik] at h
    rw [hkk]
    exact h
  obtain ⟨G, hG⟩ : ∃ G, G = grownCap w (n + m) c 100 := ⟨_, rfl⟩
  obtain ⟨ROW, hROW⟩ : ∃ ROW : Array Value, ROW = (cs.take (i * 2)).toArray ++ Builtin.zeroCells (Value.agg #[.string ⟨#[]⟩, .slice none 0 0]).cells (n + m - i) ++ Builtin.zeroCells (Value.agg #[.string ⟨#[]⟩, .slice none 0 0]).cells (G - (n + m)) := ⟨_, rfl⟩
  rw [← hG] at hrz
  rw [← hROW] at hrz
  have hGn : n + m ≤ G := by rw [hG]; exact grownCap_ge w _ _ _
  have hzc : ∀ k, (Builtin.zeroCells (Value.agg #[.string ⟨#[]⟩, .slice none 0 0]).cells k).size = k * 2 := fun k => by
    simp [Builtin.zeroCells, Value.cells]
  have hRs : ROW.size = G * 2 := by
    rw [hROW, Array.size_append, Array.size_append, hzc, hzc, List.size_toArray, List.length_take]
    omega
  have hRl : (n + m) * 2 ≤ ROW.size := by rw [hRs]; omega
  have hRt : ∀ j v, (cs.take (i * 2))[j]? = some v → ROW[j]? = some v := fun j v hj => by
    have hjl : j < (cs.take (i * 2)).length := by
      rcases Nat.lt_or_ge j (cs.take (i * 2)).length with h | h
      · exact h
      · rw [List.getElem?_eq_none h] at hj; simp at hj
    rw [hROW, Array.append_assoc, Array.getElem?_append_left (by simpa using hjl)]
    simpa using hj
  obtain ⟨W1, hW1⟩ : ∃ W1, W1 = w.drew.alloc (.cells ROW 100) := ⟨_, rfl⟩
  rw [← hW1] at hrz
  have hN : ∀ j, j < (n + m) * 2 → (W1.cell? ⟨w.heap.size, j, none⟩).isSome = true := fun j hj => by
    rw [hW1, World.cell?_alloc_at (w := w.drew) ROW _ w.heap.size j rfl, Array.getElem?_eq_getElem (by omega)]; rfl
  have hNf : ∀ j, W1.frozen? ⟨w.heap.size, j, none⟩ = false := fun j => by rw [hW1]; exact World.frozen?_alloc_at (w := w.drew) ROW _ w.heap.size j rfl
  have hOb : ∀ j v, w.cell? ⟨b, j, none⟩ = some v → W1.cell? ⟨b, j, none⟩ = some v := fun j v h => by rw [hW1, World.cell?_alloc_past (w := w.drew) _ b j hbw]; exact h
  have hOv : ∀ j v, w.cell? ⟨vb, j, none⟩ = some v → W1.cell? ⟨vb, j, none⟩ = some v := fun j v h => by rw [hW1, World.cell?_alloc_past (w := w.drew) _ vb j hvw]; exact h
  have hcpA : ∀ (W : World), (∀ x, W.cell? x = W1.cell? x) → (∀ x, W.frozen? x = W1.frozen? x) → ∀ ty dc, (Builtin.copy_ #[47, 47] ty #[.slice (some ⟨w.heap.size, i * 2, none⟩) (n + m - i) dc, .slice (some ⟨vb, voff, none⟩) m vc]).run Tryd.prog W = .ok (goInt (m : Nat)) (W.setCells w.heap.size (i * 2) vs) := fun W hWc hWf ty dc =>
    run_copy_k 2 W _ _ ty 100 w.heap.size (i * 2) (n + m - i) dc ⟨vb, voff, none⟩ m vc vs m t24 hsz (by simp only [Nat.min_def]; split <;> omega) hvl
      (fun j v hj => by rw [Addr.add_lit, hWc]; exact hOv _ v (hvs j v hj))
      (fun j hj => by rw [hWc]; exact hN _ (by omega)) (fun j hj => by rw [hWf]; exact hNf _) h1v
  have hG63 : G ≤ 9223372036854775807 := by
    have := grownCap_le_maxLen w (n + m) c 100 (by unfold maxLen; omega)
    rw [← hG] at this
    unfold maxLen at this
    omega
  have hGi : ¬ (G = i) := by omega
  have hGim : ¬ (G = i + m) := by omega
  have hci : ¬ (c = i) := by omega
  have hbN : b ≠ w.heap.size := by omega
  have hdl : (cs.drop (i * 2)).length = (n - i) * 2 := by rw [List.length_drop, hcl]; omega
  have hcpB : ∀ (W : World), (∀ x, W.cell? x = (W1.setCells w.heap.size (i * 2) vs).cell? x) → (∀ x, W.frozen? x = (W1.setCells w.heap.size (i * 2) vs).frozen? x) → ∀ ty dc sc, (Builtin.copy_ #[47, 47] ty #[.slice (some ⟨w.heap.size, (i + m) * 2, none⟩) (n + m - (i + m)) dc, .slice (some ⟨b, off + i * 2, none⟩) (n - i) sc]).run Tryd.prog W = .ok (goInt (n - i : Nat)) (W.setCells w.heap.size ((i + m) * 2) (cs.drop (i * 2))) := fun W hWc hWf ty dc sc =>
    run_copy_k 2 W _ _ ty 100 w.heap.size ((i + m) * 2) (n + m - (i + m)) dc ⟨b, off + i * 2, none⟩ (n - i) sc (cs.drop (i * 2)) (n - i) t24 hsz (by simp only [Nat.min_def]; split <;> omega) hdl
      (fun j v hj => by
        rw [Addr.add_lit, hWc, World.cell?_setCells_out _ _ _ _ _ (fun h _ => absurd h hbN), Nat.add_assoc]
        exact hOb _ v (hcs (i * 2 + j) v (by rwa [List.getElem?_drop] at hj)))
      (fun j hj => by rw [hWc]; exact isSome_setK _ _ _ _ (fun t ht => hN _ (by omega)) _ (hN _ (by omega)))
      (fun j hj => by rw [hWf, World.frozen?_setCells]; exact hNf _) (fun v hv => h1c v (List.mem_of_mem_drop hv))
  subst hW1
  have hE1 : ∀ x, ((w.alloc (.cells ROW 100)).drew).cell? x = (w.drew.alloc (.cells ROW 100)).cell? x := fun x => rfl
  have hE2 : ∀ x, ((w.alloc (.cells ROW 100)).drew).frozen? x = (w.drew.alloc (.cells ROW 100)).frozen? x := fun x => rfl
  have hF1 : ∀ x, (((w.alloc (.cells ROW 100)).drew.setCells w.heap.size (i * 2) vs).drew).cell? x = ((w.drew.alloc (.cells ROW 100)).setCells w.heap.size (i * 2) vs).cell? x := fun x => rfl
  have hF2 : ∀ x, (((w.alloc (.cells ROW 100)).drew.setCells w.heap.size (i * 2) vs).drew).frozen? x = ((w.drew.alloc (.cells ROW 100)).setCells w.heap.size (i * 2) vs).frozen? x := fun x => rfl
  have hw1 : IntKind.i64.wrap ((i : Int) + (m : Int)) = (i : Int) + (m : Int) := by rw [IntKind.wrap_i64]; omega
  have hb1 : (0 : Int) ≤ (i : Int) + (m : Int) := by omega
  have hin : i ≤ n := by omega
  have htn : ((i : Int) + (m : Int)).toNat = i + m := by omega
  have hb3 : (i : Int) ≤ (n : Int) := by omega
  clear hkk hik hold hROW hG
  go_enter Tryd.func69, Tryd.ntmps69
  go_wp2_with (first
    | (at_builtin; refine Lib.wpList_append_run _ rfl _ _ _ _ rfl _ _ rfl rfl _ _ (hrz _) ?_)
    | (at_builtin; refine wpList_copy_k _ rfl _ _ 47 47 rfl _ _ rfl rfl (hcpA _ hE1 hE2 _ _) ?_)
    | (at_builtin; refine wpList_copy_k _ rfl _ _ 47 47 rfl _ _ rfl rfl (hcpB _ (fun _ => rfl) (fun _ => rfl) _ _ _) ?_))
  go_region_law_o (refine step_copy_k rfl _ _ 47 47 rfl (.slice (some ⟨w.heap.size, (i + m) * 2, none⟩) (n + m - (i + m)) (G - (i + m))) (.slice (some ⟨b, off + i * 2, none⟩) (n - i) (c - i)) (by simp [Act.eval, Act.put]) (by simp [Act.eval, Act.put]) (hcpB _ hF1 hF2 3 (G - (i + m)) (c - i)) ?_)
  go_wp2
  go_ret
  exact ⟨G, ROW, w.drew.drew.drawn, hGn, hRl, hRs, hRt, rfl, by first | rfl | (rw [drew_setK]; rfl) | (simp only [drew_setK]; rfl)⟩
theorem insC69 : InsC Tryd.prog 69 2 47 100 where
  ent := ⟨Tryd.f69, Tryd.func69, by kernel_rfl, by kernel_rfl⟩
  hS := Tryd.underlying47
  hz := by kernel_rfl
  pos := by decide
  info := ⟨_, (Value.agg #[.string ⟨#[]⟩, .slice none 0 0]), rfl, by decide, rfl, rfl⟩
  nothing := fun base n c i vc vb w h1 h2 h3 => ins69_none base n c i vc vb w h1 h2 h3
  end_ := fun base n c m vc vb w w' q h1 h2 h3 h4 h5 => ins69_end base n c m vc vb w w' q h1 h2 h3 h4 h5
  shift := fun b off n c i vb voff m vc cs vs w h1 h2 h3 h4 h5 h6 h7 h8 h9 h10 h11 h12 h13 tA tB kA kB h14 h15 h16 => ins69_shift b off n c i vb voff m vc cs vs w h1 h2 h3 h4 h5 h6 h7 h8 h9 h10 h11 h12 h13 tA tB kA kB h14 h15 h16
  grow := fun b off n c i vb voff m vc cs vs w h1 h2 h3 h4 h5 h6 h7 h8 h9 h10 h11 h12 h13 => ins69_grow b off n c i vb voff m vc cs vs w h1 h2 h3 h4 h5 h6 h7 h8 h9 h10 h11 h12 h13
set_option maxHeartbeats 4000000 in
set_option maxRecDepth 100000 in
theorem ins71_shift (b off n c i vb voff m vc : Nat) (cs vs : List Value) (w : World) (hi : i < n) (hm : 0 < m) (hroom : n + m ≤ c) (hlim : n + m ≤ 1073741824) (hvb : vb ≠ b)
    (hcl : cs.length = n * 11) (hvl : vs.length = m * 11)
    (hcs : ∀ j v, cs[j]? = some v → w.cell? ⟨b, off + j, none⟩ = some v) (hsp : ∀ j, j < (n + m) * 11 → (w.cell? ⟨b, off + j, none⟩).isSome = true) (hfz : ∀ j, w.frozen? ⟨b, j, none⟩ = false)
    (hvs : ∀ j v, vs[j]? = some v → w.cell? ⟨vb, voff + j, none⟩ = some v) (h1c : ∀ v ∈ cs, v.oneCell' = true) (h1v : ∀ v ∈ vs, v.oneCell' = true)
    (tA tB : TypeId) (kA kB : Nat) (hsa : w.shape? vb = some (tA, kA)) (hsb : w.shape? b = some (tB, kB)) (hkA : kA ≠ 0) :
    Calls Tryd.prog 71 #[.slice (some ⟨b, off, none⟩) n c, .int .i64 i, .slice (some ⟨vb, voff, none⟩) m vc] w fun e w' =>
      e = .returned (.slice (some ⟨b, off, none⟩) (n + m) c) ∧ w' = (w.drew.setCells b (off + (i + m) * 11) (cs.drop (i * 11))).setCells b (off + i * 11) vs := by
  have t0 := Tryd.underlying0; have t3 := Tryd.underlying3; have t4 := Tryd.underlying4; have t9 := Tryd.underlying78; have t24 := Tryd.underlying48
  have a0 := Tryd.isAgg0; have a3 := Tryd.isAgg3; have a4 := Tryd.isAgg4; have a9 := Tryd.isAgg78; have a24 := Tryd.isAgg48
  have z0 := Tryd.sizeOf0; have z3 := Tryd.sizeOf3; have z4 := Tryd.sizeOf4; have z9 := Tryd.sizeOf78; have z24 := Tryd.sizeOf48
  have v0 := Tryd.zeroValue0; have v3 := Tryd.zeroValue3; have v4 := Tryd.zeroValue4; have v24 := Tryd.zeroValue48
  have u0 := run_underlying t0; have u3 := run_underlying t3; have u4 := run_underlying t4; have u24 := run_underlying t24
  have hz1 : ¬ ((m : Int) = 0) := by omega
  have hz2 : ¬ ((i : Int) = (n : Int)) := by omega
  have hsz : (Tryd.prog.info? 78).map (·.size) = some 11 := by kernel_rfl
  have hov : ∀ lb cb, (callFunc 91 #[.slice (some ⟨vb, voff, none⟩) m vc, .slice (some ⟨b, off + (i + m) * 11, none⟩) lb cb]).run Tryd.prog w = .ok (.value (.bool false)) w := fun lb cb => by
    rw [run_callFunc_extern Tryd.func91 (by kernel_rfl) (by kernel_rfl) (by kernel_rfl) (e := Extern.SlicesOverlaps.overlaps #[48, 48] #[4]) (by kernel_rfl),
      run_overlaps_k w 48 4 78 t24 11 z9 ⟨vb, voff, none⟩ ⟨b, off + (i + m) * 11, none⟩ m vc lb cb hvb tA tB kA kB hsa hsb hkA (hfz _) (hfz _)]
    rfl
  have hdl : (cs.drop (i * 11)).length = (n - i) * 11 := by rw [List.length_drop, hcl]; omega
  have mixed : Tryd.prog.follows .mixedOrders = true := by kernel_rfl
  have hw1 : IntKind.i64.wrap ((i : Int) + (m : Int)) = (i : Int) + (m : Int) := by rw [IntKind.wrap_i64]; omega
  have hb1 : (0 : Int) ≤ (i : Int) + (m : Int) := by omega
  have hin : i ≤ n := by omega
  have htn : ((i : Int) + (m : Int)).toNat = i + m := by omega
  have hb2 : ¬ (c = i + m) := by omega
  have hb3 : (i : Int) ≤ (n : Int) + (m : Int) := by omega
  have hb4 : ¬ (c = i) := by omega
  have hcp1 : ∀ ty dc sc, (Builtin.copy_ #[48, 48] ty #[.slice (some ⟨b, off + (i + m) * 11, none⟩) (n + m - (i + m)) dc, .slice (some ⟨b, off + i * 11, none⟩) (n + m - i) sc]).run Tryd.prog w.drew = .ok (goInt (n - i : Nat)) (w.drew.setCells b (off + (i + m) * 11) (cs.drop (i * 11))) := fun ty dc sc =>
    run_copy_k 11 w.drew _ _ ty 78 b (off + (i + m) * 11) (n + m - (i + m)) dc ⟨b, off + i * 11, none⟩ (n + m - i) sc (cs.drop (i * 11)) (n - i) t24 hsz (by simp only [Nat.min_def]; split <;> omega) (by rw [hdl])
      (fun j v hj => by rw [Addr.add_lit, Nat.add_assoc]; exact hcs (i * 11 + j) v (by rwa [List.getElem?_drop] at hj))
      (fun j hj => by rw [Nat.add_assoc]; exact hsp _ (by omega)) (fun j hj => hfz _) (fun v hv => h1c v (List.mem_of_mem_drop hv))
  obtain ⟨W1, hW1⟩ : ∃ W1, W1 = w.drew.setCells b (off + (i + m) * 11) (cs.drop (i * 11)) := ⟨_, rfl⟩
  have hsp1 : ∀ k, k < (n + m) * 11 → (W1.cell? ⟨b, off + k, none⟩).isSome = true := fun k hk => by
    rw [hW1]
    exact isSome_setK b _ _ _ (fun j hj => by rw [Nat.add_assoc]; exact hsp _ (by omega)) _ (hsp k hk)
  have hcp2 : ∀ (W : World), (∀ x, W.cell? x = W1.cell? x) → (∀ x, W.frozen? x = W1.frozen? x) → ∀ ty dc, (Builtin.copy_ #[48, 48] ty #[.slice (some ⟨b, off + i * 11, none⟩) (n + m - i) dc, .slice (some ⟨vb, voff, none⟩) m vc]).run Tryd.prog W = .ok (goInt (m : Nat)) (W.setCells b (off + i * 11) vs) := fun W hWc hWf ty dc =>
    run_copy_k 11 W _ _ ty 78 b (off + i * 11) (n + m - i) dc ⟨vb, voff, none⟩ m vc vs m t24 hsz (by simp only [Nat.min_def]; split <;> omega) hvl
      (fun j v hj => by
        rw [Addr.add_lit, hWc, hW1, World.cell?_setCells_out b _ _ _ _ (fun h _ => absurd h hvb)]
        exact hvs j v hj)
      (fun j hj => by rw [hWc, Nat.add_assoc]; exact hsp1 _ (by omega)) (fun j hj => by rw [hWf, hW1, World.frozen?_setCells]; exact hfz _) h1v
  rw [← hW1] at hcp1
  go_enter Tryd.func71, Tryd.ntmps71
  go_wp2_with (simp only [hov])
  go_region_law_o (refine step_copy_k rfl _ _ 48 48 rfl _ _ (by simp [Act.eval, Act.put]) (by simp [Act.eval, Act.put]) (hcp1 _ _ _) ?_)
  go_wp2_with (at_builtin; refine wpList_copy_k _ rfl _ _ 48 48 rfl _ _ rfl rfl (hcp2 _ (fun _ => rfl) (fun _ => rfl) _ _) ?_)
  go_ret
  first | exact ⟨rfl, rfl⟩ | exact ⟨rfl, by rw [hW1]⟩
set_option maxHeartbeats 4000000 in
set_option maxRecDepth 100000 in
theorem ins71_end (base : Option Addr) (n c m vc : Nat) (vb : Option Addr) (w w' : World) (q : Value) (hm : 0 < m) (hnc : n ≤ c) (hlim : n + m ≤ 1073741824) (hnil : base = none → n = 0)
    (hrun : (Builtin.append_ #[48, 48] 48 #[.slice base n c, .slice vb m vc]).run Tryd.prog w = .ok q w') :
    Calls Tryd.prog 71 #[.slice base n c, .int .i64 n, .slice vb m vc] w fun e w1 => e = .returned q ∧ w1 = w' := by
  have t0 := Tryd.underlying0; have t3 := Tryd.underlying3; have t4 := Tryd.underlying4; have t9 := Tryd.underlying78; have t24 := Tryd.underlying48
  have a0 := Tryd.isAgg0; have a3 := Tryd.isAgg3; have a4 := Tryd.isAgg4; have a9 := Tryd.isAgg78; have a24 := Tryd.isAgg48
  have z0 := Tryd.sizeOf0; have z3 := Tryd.sizeOf3; have z4 := Tryd.sizeOf4; have z9 := Tryd.sizeOf78; have z24 := Tryd.sizeOf48
  have v0 := Tryd.zeroValue0; have v3 := Tryd.zeroValue3; have v4 := Tryd.zeroValue4; have v24 := Tryd.zeroValue48
  have u0 := run_underlying t0; have u3 := run_underlying t3; have u4 := run_underlying t4; have u24 := run_underlying t24
  have mixed : Tryd.prog.follows .mixedOrders = true := by kernel_rfl
  have hz1 : ¬ ((m : Int) = 0) := by omega
  go_enter Tryd.func71, Tryd.ntmps71
  cases base with
  | none =>
    have h0 := hnil rfl
    subst h0
    go_wp2_with (at_builtin; refine Lib.wpList_append_run _ rfl _ _ _ _ rfl _ _ rfl rfl _ _ hrun ?_)
    all_goals (go_ret; exact ⟨rfl, rfl⟩)
  | some a =>
    obtain ⟨ab, ao, asp⟩ := a
    go_wp2_with (at_builtin; refine Lib.wpList_append_run _ rfl _ _ _ _ rfl _ _ rfl rfl _ _ hrun ?_)
    all_goals (go_ret; exact ⟨rfl, rfl⟩)
set_option maxHeartbeats 4000000 in
set_option maxRecDepth 100000 in
theorem ins71_none (base : Option Addr) (n c i vc : Nat) (vb : Option Addr) (w : World) (hnc : n ≤ c) (hi : i ≤ n) (hnil : base = none → n = 0) :
    Calls Tryd.prog 71 #[.slice base n c, .int .i64 i, .slice vb 0 vc] w fun e w1 => e = .returned (.slice base n c) ∧ w1 = w := by
  have t0 := Tryd.underlying0; have t3 := Tryd.underlying3; have t4 := Tryd.underlying4; have t9 := Tryd.underlying78; have t24 := Tryd.underlying48
  have a0 := Tryd.isAgg0; have a3 := Tryd.isAgg3; have a4 := Tryd.isAgg4; have a9 := Tryd.isAgg78; have a24 := Tryd.isAgg48
  have z0 := Tryd.sizeOf0; have z3 := Tryd.sizeOf3; have z4 := Tryd.sizeOf4; have z9 := Tryd.sizeOf78; have z24 := Tryd.sizeOf48
  have v0 := Tryd.zeroValue0; have v3 := Tryd.zeroValue3; have v4 := Tryd.zeroValue4; have v24 := Tryd.zeroValue48
  have u0 := run_underlying t0; have u3 := run_underlying t3; have u4 := run_underlying t4; have u24 := run_underlying t24
  have mixed : Tryd.prog.follows .mixedOrders = true := by kernel_rfl
  go_enter Tryd.func71, Tryd.ntmps71
  cases base with
  | none =>
    have h0 := hnil rfl
    subst h0
    have hi0 : i = 0 := by omega
    subst hi0
    go_wp2
    all_goals (go_ret; exact ⟨rfl, rfl⟩)
  | some a =>
    obtain ⟨ab, ao, asp⟩ := a
    go_wp2
    all_goals (go_ret; exact ⟨rfl, rfl⟩)
set_option maxHeartbeats 4000000 in
set_option maxRecDepth 100000 in
theorem ins71_grow (b off n c i vb voff m vc : Nat) (cs vs : List Value) (w : World) (hi : i < n) (hm : 0 < m) (hnc : n ≤ c) (hroom : c < n + m) (hlim : n + m ≤ 1073741824)
    (hcl : cs.length = n * 11) (hvl : vs.length = m * 11) (hbw : b < w.heap.size) (hvw : vb < w.heap.size)
    (hcs : ∀ j v, cs[j]? = some v → w.cell? ⟨b, off + j, none⟩ = some v)
    (hvs : ∀ j v, vs[j]? = some v → w.cell? ⟨vb, voff + j, none⟩ = some v) (h1c : ∀ v ∈ cs, v.oneCell' = true) (h1v : ∀ v ∈ vs, v.oneCell' = true) :
    Calls Tryd.prog 71 #[.slice (some ⟨b, off, none⟩) n c, .int .i64 i, .slice (some ⟨vb, voff, none⟩) m vc] w fun e w' =>
      ∃ (G : Nat) (ROW : Array Value) (d1 : Nat), n + m ≤ G ∧ (n + m) * 11 ≤ ROW.size ∧ ROW.size = G * 11 ∧ (∀ (j : Nat) (v : Value), (cs.take (i * 11))[j]? = some v → ROW[j]? = some v) ∧ e = .returned (.slice (some ⟨w.heap.size, 0, none⟩) (n + m) G) ∧
      w' = ((({ w with drawn := d1 } : World).alloc (.cells ROW 78)).setCells w.heap.size (i * 11) vs).setCells w.heap.size ((i + m) * 11) (cs.drop (i * 11)) := by
  have t0 := Tryd.underlying0; have t3 := Tryd.underlying3; have t4 := Tryd.underlying4; have t9 := Tryd.underlying78; have t24 := Tryd.underlying48
  have a0 := Tryd.isAgg0; have a3 := Tryd.isAgg3; have a4 := Tryd.isAgg4; have a9 := Tryd.isAgg78; have a24 := Tryd.isAgg48
  have z0 := Tryd.sizeOf0; have z3 := Tryd.sizeOf3; have z4 := Tryd.sizeOf4; have z9 := Tryd.sizeOf78; have z24 := Tryd.sizeOf48
  have v0 := Tryd.zeroValue0; have v3 := Tryd.zeroValue3; have v4 := Tryd.zeroValue4; have v24 := Tryd.zeroValue48
  have u0 := run_underlying t0; have u3 := run_underlying t3; have u4 := run_underlying t4; have u24 := run_underlying t24
  have mixed : Tryd.prog.follows .mixedOrders = true := by kernel_rfl
  obtain ⟨i0, hi0, hz0, hzs, hzb⟩ : ∃ i0, Tryd.prog.info? 78 = some i0 ∧ i0.zero = some (Value.agg #[.int .i64 0, .int .i64 0, .int .i64 0, .int .i64 0, .int .i64 0, .int .i64 0, .bool false, .string ⟨#[]⟩, .slice none 0 0, .string ⟨#[]⟩, .bool false]) ∧ i0.size = 11 ∧ i0.bytes = 120 := ⟨_, rfl, rfl, rfl, rfl⟩
  have hz1 : ¬ ((m : Int) = 0) := by omega
  have hz2 : ¬ ((i : Int) = (n : Int)) := by omega
  have hz3 : (c : Int) < (n : Int) + (m : Int) := by omega
  have hsz : (Tryd.prog.info? 78).map (·.size) = some 11 := by rw [hi0]; simp [hzs]
  have hkk : (n : Int) + (m : Int) - (i : Int) = ((n + m - i : Nat) : Int) := by omega
  have hik : i + (n + m - i) = n + m := by omega
  have hold : (Builtin.firstCells i0.size i (.slice (some ⟨b, off, none⟩) i c)).run Tryd.prog w.drew = .ok (cs.take (i * 11)).toArray w.drew := by
    rw [hzs]
    exact run_firstCells_some w.drew 11 i ⟨b, off, none⟩ i c (cs.take (i * 11)) (by rw [List.length_take]; omega) (fun j v hj => by
      rw [Addr.add_lit]
      rw [List.getElem?_take] at hj
      split at hj
      · exact hcs j v hj
      · cases hj)
  have hrz : ∀ ty, (Builtin.append_ #[48, 3] ty #[.slice (some ⟨b, off, none⟩) i c, .int .i64 ((n : Int) + (m : Int) - (i : Int))]).run Tryd.prog w =
      .ok (.slice (some ⟨w.heap.size, 0, none⟩) (n + m) (grownCap w (n + m) c 78)) (w.drew.alloc (.cells ((cs.take (i * 11)).toArray ++ Builtin.zeroCells (Value.agg #[.int .i64 0, .int .i64 0, .int .i64 0, .int .i64 0, .int .i64 0, .int .i64 0, .bool false, .string ⟨#[]⟩, .slice none 0 0, .string ⟨#[]⟩, .bool false]).cells (n + m - i) ++ Builtin.zeroCells (Value.agg #[.int .i64 0, .int .i64 0, .int .i64 0, .int .i64 0, .int .i64 0, .int .i64 0, .bool false, .string ⟨#[]⟩, .slice none 0 0, .string ⟨#[]⟩, .bool false]).cells (grownCap w (n + m) c 78 - (n + m))) 78)) := fun ty => by
    have h := Lib.run_append_grow_zeros w 48 3 ty 78 i0 _ .i64 .i64 t24 t3 hi0 hz0 (some ⟨b, off, none⟩) i c (cs.take (i * 11)) hold (n + m - i) (by omega) (by omega) (by omega) (by omega) (by rw [hzb]; omega) (by rw [hzb, hik]; exact growslice_fits hroom (by omega))
    rw [hik] at h
    rw [hkk]
    exact h
  obtain ⟨G, hG⟩ : ∃ G, G = grownCap w (n + m) c 78 := ⟨_, rfl⟩
  obtain ⟨ROW, hROW⟩ : ∃ ROW : Array Value, ROW = (cs.take (i * 11)).toArray ++ Builtin.zeroCells (Value.agg #[.int .i64 0, .int .i64 0, .int .i64 0, .int .i64 0, .int .i64 0, .int .i64 0, .bool false, .string ⟨#[]⟩, .slice none 0 0, .string ⟨#[]⟩, .bool false]).cells (n + m - i) ++ Builtin.zeroCells (Value.agg #[.int .i64 0, .int .i64 0, .int .i64 0, .int .i64 0, .int .i64 0, .int .i64 0, .bool false, .string ⟨#[]⟩, .slice none 0 0, .string ⟨#[]⟩, .bool false]).cells (G - (n + m)) := ⟨_, rfl⟩
  rw [← hG] at hrz
  rw [← hROW] at hrz
  have hGn : n + m ≤ G := by rw [hG]; exact grownCap_ge w _ _ _
  have hzc : ∀ k, (Builtin.zeroCells (Value.agg #[.int .i64 0, .int .i64 0, .int .i64 0, .int .i64 0, .int .i64 0, .int .i64 0, .bool false, .string ⟨#[]⟩, .slice none 0 0, .string ⟨#[]⟩, .bool false]).cells k).size = k * 11 := fun k => by
    simp [Builtin.zeroCells, Value.cells]
  have hRs : ROW.size = G * 11 := by
    rw [hROW, Array.size_append, Array.size_append, hzc, hzc, List.size_toArray, List.length_take]
    omega
  have hRl : (n + m) * 11 ≤ ROW.size := by rw [hRs]; omega
  have hRt : ∀ j v, (cs.take (i * 11))[j]? = some v → ROW[j]? = some v := fun j v hj => by
    have hjl : j < (cs.take (i * 11)).length := by
      rcases Nat.lt_or_ge j (cs.take (i * 11)).length with h | h
      · exact h
      · rw [List.getElem?_eq_none h] at hj; simp at hj
    rw [hROW, Array.append_assoc, Array.getElem?_append_left (by simpa using hjl)]
    simpa using hj
  obtain ⟨W1, hW1⟩ : ∃ W1, W1 = w.drew.alloc (.cells ROW 78) := ⟨_, rfl⟩
  rw [← hW1] at hrz
  have hN : ∀ j, j < (n + m) * 11 → (W1.cell? ⟨w.heap.size, j, none⟩).isSome = true := fun j hj => by
    rw [hW1, World.cell?_alloc_at (w := w.drew) ROW _ w.heap.size j rfl, Array.getElem?_eq_getElem (by omega)]; rfl
  have hNf : ∀ j, W1.frozen? ⟨w.heap.size, j, none⟩ = false := fun j => by rw [hW1]; exact World.frozen?_alloc_at (w := w.drew) ROW _ w.heap.size j rfl
  have hOb : ∀ j v, w.cell? ⟨b, j, none⟩ = some v → W1.cell? ⟨b, j, none⟩ = some v := fun j v h => by rw [hW1, World.cell?_alloc_past (w := w.drew) _ b j hbw]; exact h
  have hOv : ∀ j v, w.cell? ⟨vb, j, none⟩ = some v → W1.cell? ⟨vb, j, none⟩ = some v := fun j v h => by rw [hW1, World.cell?_alloc_past (w := w.drew) _ vb j hvw]; exact h
  have hcpA : ∀ (W : World), (∀ x, W.cell? x = W1.cell? x) → (∀ x, W.frozen? x = W1.frozen? x) → ∀ ty dc, (Builtin.copy_ #[48, 48] ty #[.slice (some ⟨w.heap.size, i * 11, none⟩) (n + m - i) dc, .slice (some ⟨vb, voff, none⟩) m vc]).run Tryd.prog W = .ok (goInt (m : Nat)) (W.setCells w.heap.size (i * 11) vs) := fun W hWc hWf ty dc =>
    run_copy_k 11 W _ _ ty 78 w.heap.size (i * 11) (n + m - i) dc ⟨vb, voff, none⟩ m vc vs m t24 hsz (by simp only [Nat.min_def]; split <;> omega) hvl
      (fun j v hj => by rw [Addr.add_lit, hWc]; exact hOv _ v (hvs j v hj))
      (fun j hj => by rw [hWc]; exact hN _ (by omega)) (fun j hj => by rw [hWf]; exact hNf _) h1v
  have hG63 : G ≤ 9223372036854775807 := by
    have := grownCap_le_maxLen w (n + m) c 78 (by unfold maxLen; omega)
    rw [← hG] at this
    unfold maxLen at this
    omega
  have hGi : ¬ (G = i) := by omega
  have hGim : ¬ (G = i + m) := by omega
  have hci : ¬ (c = i) := by omega
  have hbN : b ≠ w.heap.size := by omega
  have hdl : (cs.drop (i * 11)).length = (n - i) * 11 := by rw [List.length_drop, hcl]; omega
  have hcpB : ∀ (W : World), (∀ x, W.cell? x = (W1.setCells w.heap.size (i * 11) vs).cell? x) → (∀ x, W.frozen? x = (W1.setCells w.heap.size (i * 11) vs).frozen? x) → ∀ ty dc sc, (Builtin.copy_ #[48, 48] ty #[.slice (some ⟨w.heap.size, (i + m) * 11, none⟩) (n + m - (i + m)) dc, .slice (some ⟨b, off + i * 11, none⟩) (n - i) sc]).run Tryd.prog W = .ok (goInt (n - i : Nat)) (W.setCells w.heap.size ((i + m) * 11) (cs.drop (i * 11))) := fun W hWc hWf ty dc sc =>
    run_copy_k 11 W _ _ ty 78 w.heap.size ((i + m) * 11) (n + m - (i + m)) dc ⟨b, off + i * 11, none⟩ (n - i) sc (cs.drop (i * 11)) (n - i) t24 hsz (by simp only [Nat.min_def]; split <;> omega) hdl
      (fun j v hj => by
        rw [Addr.add_lit, hWc, World.cell?_setCells_out _ _ _ _ _ (fun h _ => absurd h hbN), Nat.add_assoc]
        exact hOb _ v (hcs (i * 11 + j) v (by rwa [List.getElem?_drop] at hj)))
      (fun j hj => by rw [hWc]; exact isSome_setK _ _ _ _ (fun t ht => hN _ (by omega)) _ (hN _ (by omega)))
      (fun j hj => by rw [hWf, World.frozen?_setCells]; exact hNf _) (fun v hv => h1c v (List.mem_of_mem_drop hv))
  subst hW1
  have hE1 : ∀ x, ((w.alloc (.cells ROW 78)).drew).cell? x = (w.drew.alloc (.cells ROW 78)).cell? x := fun x => rfl
  have hE2 : ∀ x, ((w.alloc (.cells ROW 78)).drew).frozen? x = (w.drew.alloc (.cells ROW 78)).frozen? x := fun x => rfl
  have hF1 : ∀ x, (((w.alloc (.cells ROW 78)).drew.setCells w.heap.size (i * 11) vs).drew).cell? x = ((w.drew.alloc (.cells ROW 78)).setCells w.heap.size (i * 11) vs).cell? x := fun x => rfl
  have hF2 : ∀ x, (((w.alloc (.cells ROW 78)).drew.setCells w.heap.size (i * 11) vs).drew).frozen? x = ((w.drew.alloc (.cells ROW 78)).setCells w.heap.size (i * 11) vs).frozen? x := fun x => rfl
  have hw1 : IntKind.i64.wrap ((i : Int) + (m : Int)) = (i : Int) + (m : Int) := by rw [IntKind.wrap_i64]; omega
  have hb1 : (0 : Int) ≤ (i : Int) + (m : Int) := by omega
  have hin : i ≤ n := by omega
  have htn : ((i : Int) + (m : Int)).toNat = i + m := by omega
  have hb3 : (i : Int) ≤ (n : Int) := by omega
  clear hkk hik hold hROW hG
  go_enter Tryd.func71, Tryd.ntmps71
  go_wp2_with (first
    | (at_builtin; refine Lib.wpList_append_run _ rfl _ _ _ _ rfl _ _ rfl rfl _ _ (hrz _) ?_)
    | (at_builtin; refine wpList_copy_k _ rfl _ _ 48 48 rfl _ _ rfl rfl (hcpA _ hE1 hE2 _ _) ?_)
    | (at_builtin; refine wpList_copy_k _ rfl _ _ 48 48 rfl _ _ rfl rfl (hcpB _ (fun _ => rfl) (fun _ => rfl) _ _ _) ?_))
  go_region_law_o (refine step_copy_k rfl _ _ 48 48 rfl (.slice (some ⟨w.heap.size, (i + m) * 11, none⟩) (n + m - (i + m)) (G - (i + m))) (.slice (some ⟨b, off + i * 11, none⟩) (n - i) (c - i)) (by simp [Act.eval, Act.put]) (by simp [Act.eval, Act.put]) (hcpB _ hF1 hF2 3 (G - (i + m)) (c - i)) ?_)
  go_wp2
  go_ret
  exact ⟨G, ROW, w.drew.drew.drawn, hGn, hRl, hRs, hRt, rfl, by first | rfl | (rw [drew_setK]; rfl) | (simp only [drew_setK]; rfl)⟩
theorem insC71 : InsC Tryd.prog 71 11 48 78 where
  ent := ⟨Tryd.f71, Tryd.func71, by kernel_rfl, by kernel_rfl⟩
  hS := Tryd.underlying48
  hz := by kernel_rfl
  pos := by decide
  info := ⟨_, (Value.agg #[.int .i64 0, .int .i64 0, .int .i64 0, .int .i64 0, .int .i64 0, .int .i64 0, .bool false, .string ⟨#[]⟩, .slice none 0 0, .string ⟨#[]⟩, .bool false]), rfl, by decide, rfl, rfl⟩
  nothing := fun base n c i vc vb w h1 h2 h3 => ins71_none base n c i vc vb w h1 h2 h3
  end_ := fun base n c m vc vb w w' q h1 h2 h3 h4 h5 => ins71_end base n c m vc vb w w' q h1 h2 h3 h4 h5
  shift := fun b off n c i vb voff m vc cs vs w h1 h2 h3 h4 h5 h6 h7 h8 h9 h10 h11 h12 h13 tA tB kA kB h14 h15 h16 => ins71_shift b off n c i vb voff m vc cs vs w h1 h2 h3 h4 h5 h6 h7 h8 h9 h10 h11 h12 h13 tA tB kA kB h14 h15 h16
  grow := fun b off n c i vb voff m vc cs vs w h1 h2 h3 h4 h5 h6 h7 h8 h9 h10 h11 h12 h13 => ins71_grow b off n c i vb voff m vc cs vs w h1 h2 h3 h4 h5 h6 h7 h8 h9 h10 h11 h12 h13
set_option maxHeartbeats 4000000 in
set_option maxRecDepth 100000 in
theorem ins73_shift (b off n c i vb voff m vc : Nat) (cs vs : List Value) (w : World) (hi : i < n) (hm : 0 < m) (hroom : n + m ≤ c) (hlim : n + m ≤ 1073741824) (hvb : vb ≠ b)
    (hcl : cs.length = n * 17) (hvl : vs.length = m * 17)
    (hcs : ∀ j v, cs[j]? = some v → w.cell? ⟨b, off + j, none⟩ = some v) (hsp : ∀ j, j < (n + m) * 17 → (w.cell? ⟨b, off + j, none⟩).isSome = true) (hfz : ∀ j, w.frozen? ⟨b, j, none⟩ = false)
    (hvs : ∀ j v, vs[j]? = some v → w.cell? ⟨vb, voff + j, none⟩ = some v) (h1c : ∀ v ∈ cs, v.oneCell' = true) (h1v : ∀ v ∈ vs, v.oneCell' = true)
    (tA tB : TypeId) (kA kB : Nat) (hsa : w.shape? vb = some (tA, kA)) (hsb : w.shape? b = some (tB, kB)) (hkA : kA ≠ 0) :
    Calls Tryd.prog 73 #[.slice (some ⟨b, off, none⟩) n c, .int .i64 i, .slice (some ⟨vb, voff, none⟩) m vc] w fun e w' =>
      e = .returned (.slice (some ⟨b, off, none⟩) (n + m) c) ∧ w' = (w.drew.setCells b (off + (i + m) * 17) (cs.drop (i * 17))).setCells b (off + i * 17) vs := by
  have t0 := Tryd.underlying0; have t3 := Tryd.underlying3; have t4 := Tryd.underlying4; have t9 := Tryd.underlying50; have t24 := Tryd.underlying28
  have a0 := Tryd.isAgg0; have a3 := Tryd.isAgg3; have a4 := Tryd.isAgg4; have a9 := Tryd.isAgg50; have a24 := Tryd.isAgg28
  have z0 := Tryd.sizeOf0; have z3 := Tryd.sizeOf3; have z4 := Tryd.sizeOf4; have z9 := Tryd.sizeOf50; have z24 := Tryd.sizeOf28
  have v0 := Tryd.zeroValue0; have v3 := Tryd.zeroValue3; have v4 := Tryd.zeroValue4; have v24 := Tryd.zeroValue28
  have u0 := run_underlying t0; have u3 := run_underlying t3; have u4 := run_underlying t4; have u24 := run_underlying t24
  have hz1 : ¬ ((m : Int) = 0) := by omega
  have hz2 : ¬ ((i : Int) = (n : Int)) := by omega
  have hsz : (Tryd.prog.info? 50).map (·.size) = some 17 := by kernel_rfl
  have hov : ∀ lb cb, (callFunc 93 #[.slice (some ⟨vb, voff, none⟩) m vc, .slice (some ⟨b, off + (i + m) * 17, none⟩) lb cb]).run Tryd.prog w = .ok (.value (.bool false)) w := fun lb cb => by
    rw [run_callFunc_extern Tryd.func93 (by kernel_rfl) (by kernel_rfl) (by kernel_rfl) (e := Extern.SlicesOverlaps.overlaps #[28, 28] #[4]) (by kernel_rfl),
      run_overlaps_k w 28 4 50 t24 17 z9 ⟨vb, voff, none⟩ ⟨b, off + (i + m) * 17, none⟩ m vc lb cb hvb tA tB kA kB hsa hsb hkA (hfz _) (hfz _)]
    rfl
  have hdl : (cs.drop (i * 17)).length = (n - i) * 17 := by rw [List.length_drop, hcl]; omega
  have mixed : Tryd.prog.follows .mixedOrders = true := by kernel_rfl
  have hw1 : IntKind.i64.wrap ((i : Int) + (m : Int)) = (i : Int) + (m : Int) := by rw [IntKind.wrap_i64]; omega
  have hb1 : (0 : Int) ≤ (i : Int) + (m : Int) := by omega
  have hin : i ≤ n := by omega
  have htn : ((i : Int) + (m : Int)).toNat = i + m := by omega
  have hb2 : ¬ (c = i + m) := by omega
  have hb3 : (i : Int) ≤ (n : Int) + (m : Int) := by omega
  have hb4 : ¬ (c = i) := by omega
  have hcp1 : ∀ ty dc sc, (Builtin.copy_ #[28, 28] ty #[.slice (some ⟨b, off + (i + m) * 17, none⟩) (n + m - (i + m)) dc, .slice (some ⟨b, off + i * 17, none⟩) (n + m - i) sc]).run Tryd.prog w.drew = .ok (goInt (n - i : Nat)) (w.drew.setCells b (off + (i + m) * 17) (cs.drop (i * 17))) := fun ty dc sc =>
    run_copy_k 17 w.drew _ _ ty 50 b (off + (i + m) * 17) (n + m - (i + m)) dc ⟨b, off + i * 17, none⟩ (n + m - i) sc (cs.drop (i * 17)) (n - i) t24 hsz (by simp only [Nat.min_def]; split <;> omega) (by rw [hdl])
      (fun j v hj => by rw [Addr.add_lit, Nat.add_assoc]; exact hcs (i * 17 + j) v (by rwa [List.getElem?_drop] at hj))
      (fun j hj => by rw [Nat.add_assoc]; exact hsp _ (by omega)) (fun j hj => hfz _) (fun v hv => h1c v (List.mem_of_mem_drop hv))
  obtain ⟨W1, hW1⟩ : ∃ W1, W1 = w.drew.setCells b (off + (i + m) * 17) (cs.drop (i * 17)) := ⟨_, rfl⟩
  have hsp1 : ∀ k, k < (n + m) * 17 → (W1.cell? ⟨b, off + k, none⟩).isSome = true := fun k hk => by
    rw [hW1]
    exact isSome_setK b _ _ _ (fun j hj => by rw [Nat.add_assoc]; exact hsp _ (by omega)) _ (hsp k hk)
  have hcp2 : ∀ (W : World), (∀ x, W.cell? x = W1.cell? x) → (∀ x, W.frozen? x = W1.frozen? x) → ∀ ty dc, (Builtin.copy_ #[28, 28] ty #[.slice (some ⟨b, off + i * 17, none⟩) (n + m - i) dc, .slice (some ⟨vb, voff, none⟩) m vc]).run Tryd.prog W = .ok (goInt (m : Nat)) (W.setCells b (off + i * 17) vs) := fun W hWc hWf ty dc =>
    run_copy_k 17 W _ _ ty 50 b (off + i * 17) (n + m - i) dc ⟨vb, voff, none⟩ m vc vs m t24 hsz (by simp only [Nat.min_def]; split <;> omega) hvl
      (fun j v hj => by
        rw [Addr.add_lit, hWc, hW1, World.cell?_setCells_out b _ _ _ _ (fun h _ => absurd h hvb)]
        exact hvs j v hj)
      (fun j hj => by rw [hWc, Nat.add_assoc]; exact hsp1 _ (by omega)) (fun j hj => by rw [hWf, hW1, World.frozen?_setCells]; exact hfz _) h1v
  rw [← hW1] at hcp1
  go_enter Tryd.func73, Tryd.ntmps73
  go_wp2_with (simp only [hov])
  go_region_law_o (refine step_copy_k rfl _ _ 28 28 rfl _ _ (by simp [Act.eval, Act.put]) (by simp [Act.eval, Act.put]) (hcp1 _ _ _) ?_)
  go_wp2_with (at_builtin; refine wpList_copy_k _ rfl _ _ 28 28 rfl _ _ rfl rfl (hcp2 _ (fun _ => rfl) (fun _ => rfl) _ _) ?_)
  go_ret
  first | exact ⟨rfl, rfl⟩ | exact ⟨rfl, by rw [hW1]⟩
set_option maxHeartbeats 4000000 in
set_option maxRecDepth 100000 in
theorem ins73_end (base : Option Addr) (n c m vc : Nat) (vb : Option Addr) (w w' : World) (q : Value) (hm : 0 < m) (hnc : n ≤ c) (hlim : n + m ≤ 1073741824) (hnil : base = none → n = 0)
    (hrun : (Builtin.append_ #[28, 28] 28 #[.slice base n c, .slice vb m vc]).run Tryd.prog w = .ok q w') :
    Calls Tryd.prog 73 #[.slice base n c, .int .i64 n, .slice vb m vc] w fun e w1 => e = .returned q ∧ w1 = w' := by
  have t0 := Tryd.underlying0; have t3 := Tryd.underlying3; have t4 := Tryd.underlying4; have t9 := Tryd.underlying50; have t24 := Tryd.underlying28
  have a0 := Tryd.isAgg0; have a3 := Tryd.isAgg3; have a4 := Tryd.isAgg4; have a9 := Tryd.isAgg50; have a24 := Tryd.isAgg28
  have z0 := Tryd.sizeOf0; have z3 := Tryd.sizeOf3; have z4 := Tryd.sizeOf4; have z9 := Tryd.sizeOf50; have z24 := Tryd.sizeOf28
  have v0 := Tryd.zeroValue0; have v3 := Tryd.zeroValue3; have v4 := Tryd.zeroValue4; have v24 := Tryd.zeroValue28
  have u0 := run_underlying t0; have u3 := run_underlying t3; have u4 := run_underlying t4; have u24 := run_underlying t24
  have mixed : Tryd.prog.follows .mixedOrders = true := by kernel_rfl
  have hz1 : ¬ ((m : Int) = 0) := by omega
  go_enter Tryd.func73, Tryd.ntmps73
  cases base with
  | none =>
    have h0 := hnil rfl
    subst h0
    go_wp2_with (at_builtin; refine Lib.wpList_append_run _ rfl _ _ _ _ rfl _ _ rfl rfl _ _ hrun ?_)
    all_goals (go_ret; exact ⟨rfl, rfl⟩)
  | some a =>
    obtain ⟨ab, ao, asp⟩ := a
    go_wp2_with (at_builtin; refine Lib.wpList_append_run _ rfl _ _ _ _ rfl _ _ rfl rfl _ _ hrun ?_)
    all_goals (go_ret; exact ⟨rfl, rfl⟩)
set_option maxHeartbeats 4000000 in
set_option maxRecDepth 100000 in
theorem ins73_none (base : Option Addr) (n c i vc : Nat) (vb : Option Addr) (w : World) (hnc : n ≤ c) (hi : i ≤ n) (hnil : base = none → n = 0) :
    Calls Tryd.prog 73 #[.slice base n c, .int .i64 i, .slice vb 0 vc] w fun e w1 => e = .returned (.slice base n c) ∧ w1 = w := by
  have t0 := Tryd.underlying0; have t3 := Tryd.underlying3; have t4 := Tryd.underlying4; have t9 := Tryd.underlying50; have t24 := Tryd.underlying28
  have a0 := Tryd.isAgg0; have a3 := Tryd.isAgg3; have a4 := Tryd.isAgg4; have a9 := Tryd.isAgg50; have a24 := Tryd.isAgg28
  have z0 := Tryd.sizeOf0; have z3 := Tryd.sizeOf3; have z4 := Tryd.sizeOf4; have z9 := Tryd.sizeOf50; have z24 := Tryd.sizeOf28
  have v0 := Tryd.zeroValue0; have v3 := Tryd.zeroValue3; have v4 := Tryd.zeroValue4; have v24 := Tryd.zeroValue28
  have u0 := run_underlying t0; have u3 := run_underlying t3; have u4 := run_underlying t4; have u24 := run_underlying t24
  have mixed : Tryd.prog.follows .mixedOrders = true := by kernel_rfl
  go_enter Tryd.func73, Tryd.ntmps73
  cases base with
  | none =>
    have h0 := hnil rfl
    subst h0
    have hi0 : i = 0 := by omega
    subst hi0
    go_wp2
    all_goals (go_ret; exact ⟨rfl, rfl⟩)
  | some a =>
    obtain ⟨ab, ao, asp⟩ := a
    go_wp2
    all_goals (go_ret; exact ⟨rfl, rfl⟩)
set_option maxHeartbeats 4000000 in
set_option maxRecDepth 100000 in
theorem ins73_grow (b off n c i vb voff m vc : Nat) (cs vs : List Value) (w : World) (hi : i < n) (hm : 0 < m) (hnc : n ≤ c) (hroom : c < n + m) (hlim : n + m ≤ 1073741824)
    (hcl : cs.length = n * 17) (hvl : vs.length = m * 17) (hbw : b < w.heap.size) (hvw : vb < w.heap.size)
    (hcs : ∀ j v, cs[j]? = some v → w.cell? ⟨b, off + j, none⟩ = some v)
    (hvs : ∀ j v, vs[j]? = some v → w.cell? ⟨vb, voff + j, none⟩ = some v) (h1c : ∀ v ∈ cs, v.oneCell' = true) (h1v : ∀ v ∈ vs, v.oneCell' = true) :
    Calls Tryd.prog 73 #[.slice (some ⟨b, off, none⟩) n c, .int .i64 i, .slice (some ⟨vb, voff, none⟩) m vc] w fun e w' =>
      ∃ (G : Nat) (ROW : Array Value) (d1 : Nat), n + m ≤ G ∧ (n + m) * 17 ≤ ROW.size ∧ ROW.size = G * 17 ∧ (∀ (j : Nat) (v : Value), (cs.take (i * 17))[j]? = some v → ROW[j]? = some v) ∧ e = .returned (.slice (some ⟨w.heap.size, 0, none⟩) (n + m) G) ∧
      w' = ((({ w with drawn := d1 } : World).alloc (.cells ROW 50)).setCells w.heap.size (i * 17) vs).setCells w.heap.size ((i + m) * 17) (cs.drop (i * 17)) := by
  have t0 := Tryd.underlying0; have t3 := Tryd.underlying3; have t4 := Tryd.underlying4; have t9 := Tryd.underlying50; have t24 := Tryd.underlying28
  have a0 := Tryd.isAgg0; have a3 := Tryd.isAgg3; have a4 := Tryd.isAgg4; have a9 := Tryd.isAgg50; have a24 := Tryd.isAgg28
  have z0 := Tryd.sizeOf0; have z3 := Tryd.sizeOf3; have z4 := Tryd.sizeOf4; have z9 := Tryd.sizeOf50; have z24 := Tryd.sizeOf28
  have v0 := Tryd.zeroValue0; have v3 := Tryd.zeroValue3; have v4 := Tryd.zeroValue4; have v24 := Tryd.zeroValue28
  have u0 := run_underlying t0; have u3 := run_underlying t3; have u4 := run_underlying t4; have u24 := run_underlying t24
  have mixed : Tryd.prog.follows .mixedOrders = true := by kernel_rfl
  obtain ⟨i0, hi0, hz0, hzs, hzb⟩ : ∃ i0, Tryd.prog.info? 50 = some i0 ∧ i0.zero = some (Value.agg #[.int .i64 0, .int .i64 0, .string ⟨#[]⟩, .string ⟨#[]⟩, .int .i64 0, .slice none 0 0, .int .i64 0, .int .i64 0, .int .i64 0, .int .i64 0, .int .i64 0, .int .i64 0, .slice none 0 0, .int .i64 0, .int .i64 0, .int .i64 0, .int .i64 0]) ∧ i0.size = 17 ∧ i0.bytes = 184 := ⟨_, rfl, rfl, rfl, rfl⟩
  have hz1 : ¬ ((m : Int) = 0) := by omega
  have hz2 : ¬ ((i : Int) = (n : Int)) := by omega
  have hz3 : (c : Int) < (n : Int) + (m : Int) := by omega
  have hsz : (Tryd.prog.info? 50).map (·.size) = some 17 := by rw [hi0]; simp [hzs]
  have hkk : (n : Int) + (m : Int) - (i : Int) = ((n + m - i : Nat) : Int) := by omega
  have hik : i + (n + m - i) = n + m := by omega
  have hold : (Builtin.firstCells i0.size i (.slice (some ⟨b, off, none⟩) i c)).run Tryd.prog w.drew = .ok (cs.take (i * 17)).toArray w.drew := by
    rw [hzs]
    exact run_firstCells_some w.drew 17 i ⟨b, off, none⟩ i c (cs.take (i * 17)) (by rw [List.length_take]; omega) (fun j v hj => by
      rw [Addr.add_lit]
      rw [List.getElem?_take] at hj
      split at hj
      · exact hcs j v hj
      · cases hj)
  have hrz : ∀ ty, (Builtin.append_ #[28, 3] ty #[.slice (some ⟨b, off, none⟩) i c, .int .i64 ((n : Int) + (m : Int) - (i : Int))]).run Tryd.prog w =
      .ok (.slice (some ⟨w.heap.size, 0, none⟩) (n + m) (grownCap w (n + m) c 50)) (w.drew.alloc (.cells ((cs.take (i * 17)).toArray ++ Builtin.zeroCells (Value.agg #[.int .i64 0, .int .i64 0, .string ⟨#[]⟩, .string ⟨#[]⟩, .int .i64 0, .slice none 0 0, .int .i64 0, .int .i64 0, .int .i64 0, .int .i64 0, .int .i64 0, .int .i64 0, .slice none 0 0, .int .i64 0, .int .i64 0, .int .i64 0, .int .i64 0]).cells (n + m - i) ++ Builtin.zeroCells (Value.agg #[.int .i64 0, .int .i64 0, .string ⟨#[]⟩, .string ⟨#[]⟩, .int .i64 0, .slice none 0 0, .int .i64 0, .int .i64 0, .int .i64 0, .int .i64 0, .int .i64 0, .int .i64 0, .slice none 0 0, .int .i64 0, .int .i64 0, .int .i64 0, .int .i64 0]).cells (grownCap w (n + m) c 50 - (n + m))) 50)) := fun ty => by
    have h := Lib.run_append_grow_zeros w 28 3 ty 50 i0 _ .i64 .i64 t24 t3 hi0 hz0 (some ⟨b, off, none⟩) i c (cs.take (i * 17)) hold (n + m - i) (by omega) (by omega) (by omega) (by omega) (by rw [hzb]; omega) (by rw [hzb, hik]; exact growslice_fits hroom (by omega))
    rw [hik] at h
    rw [hkk]
    exact h
  obtain ⟨G, hG⟩ : ∃ G, G = grownCap w (n + m) c 50 := ⟨_, rfl⟩
  obtain ⟨ROW, hROW⟩ : ∃ ROW : Array Value, ROW = (cs.take (i * 17)).toArray ++ Builtin.zeroCells (Value.agg #[.int .i64 0, .int .i64 0, .string ⟨#[]⟩, .string ⟨#[]⟩, .int .i64 0, .slice none 0 0, .int .i64 0, .int .i64 0, .int .i64 0, .int .i64 0, .int .i64 0, .int .i64 0, .slice none 0 0, .int .i64 0, .int .i64 0, .int .i64 0, .int .i64 0]).cells (n + m - i) ++ Builtin.zeroCells (Value.agg #[.int .i64 0, .int .i64 0, .string ⟨#[]⟩, .string ⟨#[]⟩, .int .i64 0, .slice none 0 0, .int .i64 0, .int .i64 0, .int .i64 0, .int .i64 0, .int .i64 0, .int .i64 0, .slice none 0 0, .int .i64 0, .int .i64 0, .int .i64 0, .int .i64 0]).cells (G - (n + m)) := ⟨_, rfl⟩
  rw [← hG] at hrz
  rw [← hROW] at hrz
  have hGn : n + m ≤ G := by rw [hG]; exact grownCap_ge w _ _ _
  have hzc : ∀ k, (Builtin.zeroCells (Value.agg #[.int .i64 0, .int .i64 0, .string ⟨#[]⟩, .string ⟨#[]⟩, .int .i64 0, .slice none 0 0, .int .i64 0, .int .i64 0, .int .i64 0, .int .i64 0, .int .i64 0, .int .i64 0, .slice none 0 0, .int .i64 0, .int .i64 0, .int .i64 0, .int .i64 0]).cells k).size = k * 17 := fun k => by
    simp [Builtin.zeroCells, Value.cells]
  have hRs : ROW.size = G * 17 := by
    rw [hROW, Array.size_append, Array.size_append, hzc, hzc, List.size_toArray, List.length_take]
    omega
  have hRl : (n + m) * 17 ≤ ROW.size := by rw [hRs]; omega
  have hRt : ∀ j v, (cs.take (i * 17))[j]? = some v → ROW[j]? = some v := fun j v hj => by
    have hjl : j < (cs.take (i * 17)).length := by
      rcases Nat.lt_or_ge j (cs.take (i * 17)).length with h | h
      · exact h
      · rw [List.getElem?_eq_none h] at hj; simp at hj
    rw [hROW, Array.append_assoc, Array.getElem?_append_left (by simpa using hjl)]
    simpa using hj
  obtain ⟨W1, hW1⟩ : ∃ W1, W1 = w.drew.alloc (.cells ROW 50) := ⟨_, rfl⟩
  rw [← hW1] at hrz
  have hN : ∀ j, j < (n + m) * 17 → (W1.cell? ⟨w.heap.size, j, none⟩).isSome = true := fun j hj => by
    rw [hW1, World.cell?_alloc_at (w := w.drew) ROW _ w.heap.size j rfl, Array.getElem?_eq_getElem (by omega)]; rfl
  have hNf : ∀ j, W1.frozen? ⟨w.heap.size, j, none⟩ = false := fun j => by rw [hW1]; exact World.frozen?_alloc_at (w := w.drew) ROW _ w.heap.size j rfl
  have hOb : ∀ j v, w.cell? ⟨b, j, none⟩ = some v → W1.cell? ⟨b, j, none⟩ = some v := fun j v h => by rw [hW1, World.cell?_alloc_past (w := w.drew) _ b j hbw]; exact h
  have hOv : ∀ j v, w.cell? ⟨vb, j, none⟩ = some v → W1.cell? ⟨vb, j, none⟩ = some v := fun j v h => by rw [hW1, World.cell?_alloc_past (w := w.drew) _ vb j hvw]; exact h
  have hcpA : ∀ (W : World), (∀ x, W.cell? x = W1.cell? x) → (∀ x, W.frozen? x = W1.frozen? x) → ∀ ty dc, (Builtin.copy_ #[28, 28] ty #[.slice (some ⟨w.heap.size, i * 17, none⟩) (n + m - i) dc, .slice (some ⟨vb, voff, none⟩) m vc]).run Tryd.prog W = .ok (goInt (m : Nat)) (W.setCells w.heap.size (i * 17) vs) := fun W hWc hWf ty dc =>
    run_copy_k 17 W _ _ ty 50 w.heap.size (i * 17) (n + m - i) dc ⟨vb, voff, none⟩ m vc vs m t24 hsz (by simp only [Nat.min_def]; split <;> omega) hvl
      (fun j v hj => by rw [Addr.add_lit, hWc]; exact hOv _ v (hvs j v hj))
      (fun j hj => by rw [hWc]; exact hN _ (by omega)) (fun j hj => by rw [hWf]; exact hNf _) h1v
  have hG63 : G ≤ 9223372036854775807 := by
    have := grownCap_le_maxLen w (n + m) c 50 (by unfold maxLen; omega)
    rw [← hG] at this
    unfold maxLen at this
    omega
  have hGi : ¬ (G = i) := by omega
  have hGim : ¬ (G = i + m) := by omega
  have hci : ¬ (c = i) := by omega
  have hbN : b ≠ w.heap.size := by omega
  have hdl : (cs.drop (i * 17)).length = (n - i) * 17 := by rw [List.length_drop, hcl]; omega
  have hcpB : ∀ (W : World), (∀ x, W.cell? x = (W1.setCells w.heap.size (i * 17) vs).cell? x) → (∀ x, W.frozen? x = (W1.setCells w.heap.size (i * 17) vs).frozen? x) → ∀ ty dc sc, (Builtin.copy_ #[28, 28] ty #[.slice (some ⟨w.heap.size, (i + m) * 17, none⟩) (n + m - (i + m)) dc, .slice (some ⟨b, off + i * 17, none⟩) (n - i) sc]).run Tryd.prog W = .ok (goInt (n - i : Nat)) (W.setCells w.heap.size ((i + m) * 17) (cs.drop (i * 17))) := fun W hWc hWf ty dc sc =>
    run_copy_k 17 W _ _ ty 50 w.heap.size ((i + m) * 17) (n + m - (i + m)) dc ⟨b, off + i * 17, none⟩ (n - i) sc (cs.drop (i * 17)) (n - i) t24 hsz (by simp only [Nat.min_def]; split <;> omega) hdl
      (fun j v hj => by
        rw [Addr.add_lit, hWc, World.cell?_setCells_out _ _ _ _ _ (fun h _ => absurd h hbN), Nat.add_assoc]
        exact hOb _ v (hcs (i * 17 + j) v (by rwa [List.getElem?_drop] at hj)))
      (fun j hj => by rw [hWc]; exact isSome_setK _ _ _ _ (fun t ht => hN _ (by omega)) _ (hN _ (by omega)))
      (fun j hj => by rw [hWf, World.frozen?_setCells]; exact hNf _) (fun v hv => h1c v (List.mem_of_mem_drop hv))
  subst hW1
  have hE1 : ∀ x, ((w.alloc (.cells ROW 50)).drew).cell? x = (w.drew.alloc (.cells ROW 50)).cell? x := fun x => rfl
  have hE2 : ∀ x, ((w.alloc (.cells ROW 50)).drew).frozen? x = (w.drew.alloc (.cells ROW 50)).frozen? x := fun x => rfl
  have hF1 : ∀ x, (((w.alloc (.cells ROW 50)).drew.setCells w.heap.size (i * 17) vs).drew).cell? x = ((w.drew.alloc (.cells ROW 50)).setCells w.heap.size (i * 17) vs).cell? x := fun x => rfl
  have hF2 : ∀ x, (((w.alloc (.cells ROW 50)).drew.setCells w.heap.size (i * 17) vs).drew).frozen? x = ((w.drew.alloc (.cells ROW 50)).setCells w.heap.size (i * 17) vs).frozen? x := fun x => rfl
  have hw1 : IntKind.i64.wrap ((i : Int) + (m : Int)) = (i : Int) + (m : Int) := by rw [IntKind.wrap_i64]; omega
  have hb1 : (0 : Int) ≤ (i : Int) + (m : Int) := by omega
  have hin : i ≤ n := by omega
  have htn : ((i : Int) + (m : Int)).toNat = i + m := by omega
  have hb3 : (i : Int) ≤ (n : Int) := by omega
  clear hkk hik hold hROW hG
  go_enter Tryd.func73, Tryd.ntmps73
  go_wp2_with (first
    | (at_builtin; refine Lib.wpList_append_run _ rfl _ _ _ _ rfl _ _ rfl rfl _ _ (hrz _) ?_)
    | (at_builtin; refine wpList_copy_k _ rfl _ _ 28 28 rfl _ _ rfl rfl (hcpA _ hE1 hE2 _ _) ?_)
    | (at_builtin; refine wpList_copy_k _ rfl _ _ 28 28 rfl _ _ rfl rfl (hcpB _ (fun _ => rfl) (fun _ => rfl) _ _ _) ?_))
  go_region_law_o (refine step_copy_k rfl _ _ 28 28 rfl (.slice (some ⟨w.heap.size, (i + m) * 17, none⟩) (n + m - (i + m)) (G - (i + m))) (.slice (some ⟨b, off + i * 17, none⟩) (n - i) (c - i)) (by simp [Act.eval, Act.put]) (by simp [Act.eval, Act.put]) (hcpB _ hF1 hF2 3 (G - (i + m)) (c - i)) ?_)
  go_wp2
  go_ret
  exact ⟨G, ROW, w.drew.drew.drawn, hGn, hRl, hRs, hRt, rfl, by first | rfl | (rw [drew_setK]; rfl) | (simp only [drew_setK]; rfl)⟩
theorem insC73 : InsC Tryd.prog 73 17 28 50 where
  ent := ⟨Tryd.f73, Tryd.func73, by kernel_rfl, by kernel_rfl⟩
  hS := Tryd.underlying28
  hz := by kernel_rfl
  pos := by decide
  info := ⟨_, (Value.agg #[.int .i64 0, .int .i64 0, .string ⟨#[]⟩, .string ⟨#[]⟩, .int .i64 0, .slice none 0 0, .int .i64 0, .int .i64 0, .int .i64 0, .int .i64 0, .int .i64 0, .int .i64 0, .slice none 0 0, .int .i64 0, .int .i64 0, .int .i64 0, .int .i64 0]), rfl, by decide, rfl, rfl⟩
  nothing := fun base n c i vc vb w h1 h2 h3 => ins73_none base n c i vc vb w h1 h2 h3
  end_ := fun base n c m vc vb w w' q h1 h2 h3 h4 h5 => ins73_end base n c m vc vb w w' q h1 h2 h3 h4 h5
  shift := fun b off n c i vb voff m vc cs vs w h1 h2 h3 h4 h5 h6 h7 h8 h9 h10 h11 h12 h13 tA tB kA kB h14 h15 h16 => ins73_shift b off n c i vb voff m vc cs vs w h1 h2 h3 h4 h5 h6 h7 h8 h9 h10 h11 h12 h13 tA tB kA kB h14 h15 h16
  grow := fun b off n c i vb voff m vc cs vs w h1 h2 h3 h4 h5 h6 h7 h8 h9 h10 h11 h12 h13 => ins73_grow b off n c i vb voff m vc cs vs w h1 h2 h3 h4 h5 h6 h7 h8 h9 h10 h11 h12 h13
end Sg
namespace Sg
open _root_.Go (IntKind BinOp UnOp)
set_option linter.unusedSimpArgs false
set_option linter.unusedVariables false
theorem lt_of {i n : Nat} (h : decide ((i : Int) < (n : Int)) = true) : i < n := by simpa using h
theorem eq_of {i n : Nat} (hi : i ≤ n) (h : decide ((i : Int) < (n : Int)) = false) : i = n := by
  have : ¬ i < n := by simpa using h
  omega
theorem inc64 {i n : Nat} (h : i < n) (hn : n < 2 ^ 60) : IntKind.i64.wrap ((i : Int) + 1) = ((i + 1 : Nat) : Int) := wrap64 (by omega) (by omega)
theorem dec64 {n : Nat} (h : 0 < n) (hn : n < 2 ^ 60) : IntKind.i64.wrap ((n : Int) - 1) = ((n - 1 : Nat) : Int) := by rw [wrap64 (by omega) (by omega)]; omega
theorem take_s {α : Type} {l : List α} {i : Nat} {x : α} (h : l[i]? = some x) : l.take (i + 1) = l.take i ++ [x] := by rw [List.take_add_one, h]; rfl
theorem take_all {α : Type} {l : List α} {i : Nat} (h : i = l.length) : l.take i = l := by rw [h, List.take_length]
theorem led {a b : Nat} : decide ((a : Int) ≤ (b : Int)) = decide (a ≤ b) := decide_eq_decide.2 (by omega)
theorem ltd {a b : Nat} : decide ((a : Int) < (b : Int)) = decide (a < b) := decide_eq_decide.2 (by omega)
end Sg
namespace Sg
open _root_.Go
set_option linter.unusedSimpArgs false
set_option linter.unusedVariables false
theorem decodeN_w (n a b c d : Nat) : 1 ≤ (Lib.decodeN n a b c d).2 ∧ (Lib.decodeN n a b c d).2 ≤ 4 := by
  unfold Lib.decodeN
  repeat' split
  all_goals simp
theorem dN_pos (l : List UInt8) : 1 ≤ (dN l).2 := (decodeN_w ..).1
def bad (l : List UInt8) : Bool := decide (dN l = (65533, 1))
def letsF : Nat → List UInt8 → List Int
  | 0, _ => []
  | f + 1, l => if l = [] then [] else ((dN l).1 : Int) :: letsF f (l.drop (dN l).2)
def lets (l : List UInt8) : List Int := letsF l.length l
theorem drop_lt {l : List UInt8} (h : l ≠ []) : (l.drop (dN l).2).length < l.length := by
  have := dN_pos l
  have : 0 < l.length := List.length_pos_iff.2 h
  rw [List.length_drop]; omega
theorem letsF_eq : ∀ (f : Nat) (l : List UInt8), l.length ≤ f → letsF f l = lets l
  | 0, l, h => by
    obtain rfl : l = [] := List.eq_nil_of_length_eq_zero (by omega)
    rfl
  | f + 1, l, h => by
    by_cases hl : l = []
    · subst hl; simp [letsF, lets]
    · have hd := drop_lt hl
      have h1 := letsF_eq f (l.drop (dN l).2) (by omega)
      obtain ⟨n, hn⟩ : ∃ n, l.length = n + 1 := ⟨l.length - 1, by omega⟩
      have h2 : letsF n (l.drop (dN l).2) = lets (l.drop (dN l).2) := letsF_eq n _ (by omega)
      have e : lets l = ((dN l).1 : Int) :: letsF n (l.drop (dN l).2) := by
        rw [lets, hn]; simp only [letsF, hl, if_false]
      rw [e, h2]
      simp only [letsF, hl, if_false, h1]
  termination_by f => f
theorem lets_nil : lets [] = [] := rfl
theorem lets_cons {l : List UInt8} (h : l ≠ []) : lets l = ((dN l).1 : Int) :: lets (l.drop (dN l).2) := by
  have hd := drop_lt h
  obtain ⟨n, hn⟩ : ∃ n, l.length = n + 1 := ⟨l.length - 1, by omega⟩
  rw [lets, hn]
  simp only [letsF, h, if_false]
  rw [letsF_eq n _ (by omega)]
theorem keyAll_eq : ∀ (f : Nat) (l : List UInt8), l.length ≤ f → keyAll f l = keyAll l.length l
  | 0, l, h => by
    obtain rfl : l = [] := List.eq_nil_of_length_eq_zero (by omega)
    rfl
  | f + 1, l, h => by
    by_cases hl : l = []
    · subst hl; simp [keyAll]
    · have hd := drop_lt hl
      have h1 := keyAll_eq f (l.drop (dN l).2) (by omega)
      obtain ⟨n, hn⟩ : ∃ n, l.length = n + 1 := ⟨l.length - 1, by omega⟩
      have h2 := keyAll_eq n (l.drop (dN l).2) (by omega)
      have e : keyAll l.length l = (plainR (dN l).1 (dN l).2 && keyAll n (l.drop (dN l).2)) := by
        rw [hn]; simp only [keyAll, hl, if_false]
      rw [e, h2]
      simp only [keyAll, hl, if_false, h1]
  termination_by f => f
theorem keyAll_cons {l : List UInt8} (h : l ≠ []) : keyAll l.length l = (plainR (dN l).1 (dN l).2 && keyAll (l.drop (dN l).2).length (l.drop (dN l).2)) := by
  have hd := drop_lt h
  obtain ⟨n, hn⟩ : ∃ n, l.length = n + 1 := ⟨l.length - 1, by omega⟩
  rw [hn]
  simp only [keyAll, h, if_false]
  rw [keyAll_eq n _ (by omega)]
theorem dec0 {n a b c d : Nat} (h : (128 ≤ a ∧ a < 194) ∨ (245 ≤ a ∧ a < 256)) : Lib.decodeN n a b c d = (65533, 1) := by
  unfold Lib.decodeN
  repeat' split
  all_goals first | (exfalso; omega) | rfl
theorem dec2 {n a b c d : Nat} (h : 194 ≤ a ∧ a < 224) : Lib.decodeN n a b c d = if 1 < n ∧ b / 64 = 2 then (a % 32 * 64 + b % 64, 2) else (65533, 1) := by
  unfold Lib.decodeN
  repeat' split
  all_goals first | (exfalso; omega) | rfl
theorem dec3 {n a b c d : Nat} (h : 224 ≤ a ∧ a < 240) : Lib.decodeN n a b c d = if (1 < n ∧ b / 64 = 2) ∧ (2 < n ∧ c / 64 = 2) ∧ 2048 ≤ a % 16 * 4096 + b % 64 * 64 + c % 64 ∧ (a % 16 * 4096 + b % 64 * 64 + c % 64 < 55296 ∨ 57344 ≤ a % 16 * 4096 + b % 64 * 64 + c % 64) then (a % 16 * 4096 + b % 64 * 64 + c % 64, 3) else (65533, 1) := by
  unfold Lib.decodeN
  repeat' split
  all_goals first | (exfalso; omega) | rfl
theorem dec4 {n a b c d : Nat} (h : 240 ≤ a ∧ a < 245) : Lib.decodeN n a b c d = if (1 < n ∧ b / 64 = 2) ∧ (2 < n ∧ c / 64 = 2) ∧ (3 < n ∧ d / 64 = 2) ∧ 65536 ≤ a % 8 * 262144 + b % 64 * 4096 + c % 64 * 64 + d % 64 ∧ a % 8 * 262144 + b % 64 * 4096 + c % 64 * 64 + d % 64 ≤ 1114111 then (a % 8 * 262144 + b % 64 * 4096 + c % 64 * 64 + d % 64, 4) else (65533, 1) := by
  unfold Lib.decodeN
  repeat' split
  all_goals first | (exfalso; omega) | rfl
theorem dec1 {n a b c d : Nat} (h : a < 128) : Lib.decodeN n a b c d = (a, 1) := by
  unfold Lib.decodeN; rw [if_pos h]
theorem dN_cases {l : List UInt8} (h : l ≠ []) : dN l = (65533, 1) ∨ (∃ b0 t, l = b0 :: t ∧ b0.toNat < 128 ∧ dN l = (b0.toNat, 1)) ∨
    (∃ b0 b1 t, l = b0 :: b1 :: t ∧ (194 ≤ b0.toNat ∧ b0.toNat < 224) ∧ b1.toNat / 64 = 2 ∧ dN l = (b0.toNat % 32 * 64 + b1.toNat % 64, 2)) ∨
    (∃ b0 b1 b2 t, l = b0 :: b1 :: b2 :: t ∧ (224 ≤ b0.toNat ∧ b0.toNat < 240) ∧ b1.toNat / 64 = 2 ∧ b2.toNat / 64 = 2 ∧ 2048 ≤ b0.toNat % 16 * 4096 + b1.toNat % 64 * 64 + b2.toNat % 64 ∧ dN l = (b0.toNat % 16 * 4096 + b1.toNat % 64 * 64 + b2.toNat % 64, 3)) ∨
    (∃ b0 b1 b2 b3 t, l = b0 :: b1 :: b2 :: b3 :: t ∧ (240 ≤ b0.toNat ∧ b0.toNat < 245) ∧ b1.toNat / 64 = 2 ∧ b2.toNat / 64 = 2 ∧ b3.toNat / 64 = 2 ∧ 65536 ≤ b0.toNat % 8 * 262144 + b1.toNat % 64 * 4096 + b2.toNat % 64 * 64 + b3.toNat % 64 ∧ dN l = (b0.toNat % 8 * 262144 + b1.toNat % 64 * 4096 + b2.toNat % 64 * 64 + b3.toNat % 64, 4)) := by
  obtain ⟨b0, t, rfl⟩ := List.exists_cons_of_ne_nil h
  have l0 := b0.toNat_lt
  have e0 : (b0 :: t).getD 0 0 = b0 := rfl
  have e1 : (b0 :: t).getD 1 0 = t.getD 0 0 := rfl
  have e2 : (b0 :: t).getD 2 0 = t.getD 1 0 := rfl
  have e3 : (b0 :: t).getD 3 0 = t.getD 2 0 := rfl
  by_cases c1 : b0.toNat < 128
  · exact .inr (.inl ⟨b0, t, rfl, c1, by rw [dN, e0, dec1 c1]⟩)
  by_cases c2 : 194 ≤ b0.toNat ∧ b0.toNat < 224
  · match t with
    | [] => left; rw [dN, e0, dec2 c2]; simp
    | b1 :: t =>
      by_cases d : b1.toNat / 64 = 2
      · exact .inr (.inr (.inl ⟨b0, b1, t, rfl, c2, d, by rw [dN, e0, dec2 c2, if_pos ⟨by simp, by simpa [e1] using d⟩]; rfl⟩))
      · left; rw [dN, e0, dec2 c2, if_neg (fun e => d (by simpa [e1] using e.2))]
  by_cases c3 : 224 ≤ b0.toNat ∧ b0.toNat < 240
  · match t with
    | [] => left; rw [dN, e0, dec3 c3]; simp
    | [b1] => left; rw [dN, e0, dec3 c3]; simp
    | b1 :: b2 :: t =>
      have g1 : (b0 :: b1 :: b2 :: t).getD 1 0 = b1 := rfl
      have g2 : (b0 :: b1 :: b2 :: t).getD 2 0 = b2 := rfl
      rw [dN, e0, g1, g2, dec3 c3]
      split
      · rename_i hc
        exact .inr (.inr (.inr (.inl ⟨b0, b1, b2, t, rfl, c3, hc.1.2, hc.2.1.2, hc.2.2.1, rfl⟩)))
      · exact .inl rfl
  by_cases c4 : 240 ≤ b0.toNat ∧ b0.toNat < 245
  · match t with
    | [] => left; rw [dN, e0, dec4 c4]; simp
    | [b1] => left; rw [dN, e0, dec4 c4]; simp
    | [b1, b2] => left; rw [dN, e0, dec4 c4]; simp
    | b1 :: b2 :: b3 :: t =>
      have g1 : (b0 :: b1 :: b2 :: b3 :: t).getD 1 0 = b1 := rfl
      have g2 : (b0 :: b1 :: b2 :: b3 :: t).getD 2 0 = b2 := rfl
      have g3 : (b0 :: b1 :: b2 :: b3 :: t).getD 3 0 = b3 := rfl
      rw [dN, e0, g1, g2, g3, dec4 c4]
      split
      · rename_i hc
        exact .inr (.inr (.inr (.inr ⟨b0, b1, b2, b3, t, rfl, c4, hc.1.2, hc.2.1.2, hc.2.2.1.2, hc.2.2.2.1, rfl⟩)))
      · exact .inl rfl
  · left; rw [dN, e0, dec0 (by omega)]
theorem u8_eq {a b : UInt8} (h : a.toNat = b.toNat) : a = b := UInt8.toNat_inj.1 h
theorem dN_inj {l l' : List UInt8} (h : l ≠ []) (h' : l' ≠ []) (n : dN l ≠ (65533, 1)) (n' : dN l' ≠ (65533, 1)) (e : (dN l).1 = (dN l').1) : (dN l).2 = (dN l').2 ∧ l.take (dN l).2 = l'.take (dN l').2 := by
  rcases dN_cases h with c | ⟨a0, t, rfl, q, c⟩ | ⟨a0, a1, t, rfl, q, q1, c⟩ | ⟨a0, a1, a2, t, rfl, q, q1, q2, q3, c⟩ | ⟨a0, a1, a2, a3, t, rfl, q, q1, q2, q3, q4, c⟩
  · exact absurd c n
  all_goals
    rcases dN_cases h' with c' | ⟨b0, t', rfl, p, c'⟩ | ⟨b0, b1, t', rfl, p, p1, c'⟩ | ⟨b0, b1, b2, t', rfl, p, p1, p2, p3, c'⟩ | ⟨b0, b1, b2, b3, t', rfl, p, p1, p2, p3, p4, c'⟩
    · exact absurd c' n'
    all_goals
      rw [c, c'] at e
      simp only at e
      first
        | (exfalso; omega)
        | (rw [c, c']; refine ⟨rfl, ?_⟩; simp only [List.take_succ_cons, List.take_zero, List.cons.injEq, and_true])
  · exact u8_eq e
  · exact ⟨u8_eq (by omega), u8_eq (by omega)⟩
  · exact ⟨u8_eq (by omega), u8_eq (by omega), u8_eq (by omega)⟩
  · exact ⟨u8_eq (by omega), u8_eq (by omega), u8_eq (by omega), u8_eq (by omega)⟩
theorem plain_ok {l : List UInt8} (h : plainR (dN l).1 (dN l).2 = true) : dN l ≠ (65533, 1) := fun e => by
  rw [e] at h; simp [plainR] at h
theorem lets_inj : ∀ (n : Nat) (l l' : List UInt8), l.length ≤ n → keyAll l.length l = true → keyAll l'.length l' = true → lets l = lets l' → l = l'
  | n, l, l', hn, k, k', e => by
    by_cases h : l = []
    · by_cases h' : l' = []
      · rw [h, h']
      · rw [h, lets_nil, lets_cons h'] at e; simp at e
    · by_cases h' : l' = []
      · rw [h', lets_nil, lets_cons h] at e; simp at e
      · rw [lets_cons h, lets_cons h', List.cons.injEq] at e
        rw [keyAll_cons h, Bool.and_eq_true] at k
        rw [keyAll_cons h', Bool.and_eq_true] at k'
        obtain ⟨e1, e2⟩ := dN_inj h h' (plain_ok k.1) (plain_ok k'.1) (by omega)
        have hd := drop_lt h
        have hl : 0 < l.length := List.length_pos_iff.2 h
        have e3 := lets_inj (n - 1) _ _ (by omega) k.2 k'.2 e.2
        rw [← List.take_append_drop (dN l).2 l, ← List.take_append_drop (dN l').2 l', e2, e3]
  termination_by n => n
def cmpL : List Int → List Int → Int
  | [], [] => 0
  | [], _ :: _ => -1
  | _ :: _, [] => 1
  | a :: l, b :: k => if a < b then -1 else if b < a then 1 else cmpL l k
theorem cmpL_neg : ∀ (a b : List Int), cmpL b a = - cmpL a b
  | [], [] => by simp [cmpL]
  | [], _ :: _ => by simp [cmpL]
  | _ :: _, [] => by simp [cmpL]
  | a :: l, b :: k => by
    simp only [cmpL]
    have := cmpL_neg l k
    repeat' split
    all_goals omega
theorem cmpL_eq : ∀ (a b : List Int), cmpL a b = 0 → a = b
  | [], [], _ => rfl
  | [], _ :: _, h => by simp [cmpL] at h
  | _ :: _, [], h => by simp [cmpL] at h
  | a :: l, b :: k, h => by
    simp only [cmpL] at h
    split at h
    · simp at h
    · split at h
      · simp at h
      · have := cmpL_eq l k h
        have : a = b := by omega
        simp_all
theorem cmpL_lt' {a b : Int} {l k : List Int} (h : a < b) : cmpL (a :: l) (b :: k) = -1 := by simp [cmpL, h]
theorem cmpL_gt' {a b : Int} {l k : List Int} (h : b < a) : cmpL (a :: l) (b :: k) = 1 := by
  have : ¬ a < b := by omega
  simp [cmpL, h, this]
theorem cmpL_eq' {a : Int} {l k : List Int} : cmpL (a :: l) (a :: k) = cmpL l k := by simp [cmpL]
theorem cmpL_tr : ∀ (a b c : List Int), cmpL a b ≤ 0 → cmpL b c ≤ 0 → cmpL a c ≤ 0 ∧ (cmpL a b < 0 ∨ cmpL b c < 0 → cmpL a c < 0)
  | [], [], c, h1, h2 => by
    have : cmpL [] [] = 0 := rfl
    omega
  | [], _ :: _, [], h1, h2 => by simp [cmpL] at h2
  | [], _ :: _, _ :: _, h1, h2 => by simp [cmpL]
  | _ :: _, [], _, h1, h2 => by simp [cmpL] at h1
  | a :: l, b :: k, [], h1, h2 => by simp [cmpL] at h2
  | a :: l, b :: k, c :: m, h1, h2 => by
    have ih := cmpL_tr l k m
    rcases Int.lt_trichotomy a b with p | p | p
    · rw [cmpL_lt' p] at h1 ⊢
      rcases Int.lt_trichotomy b c with q | q | q
      · rw [cmpL_lt' (show a < c by omega)]; omega
      · rw [cmpL_lt' (show a < c by omega)]; omega
      · rw [cmpL_gt' q] at h2; omega
    · subst p
      rw [cmpL_eq'] at h1 ⊢
      rcases Int.lt_trichotomy a c with q | q | q
      · rw [cmpL_lt' q]; omega
      · subst q
        rw [cmpL_eq'] at h2 ⊢
        rw [cmpL_eq']
        exact ih h1 h2
      · rw [cmpL_gt' q] at h2; omega
    · rw [cmpL_gt' p] at h1; omega
end Sg
namespace Sg
open _root_.Go (IntKind BinOp UnOp)
set_option linter.unusedSimpArgs false
set_option linter.unusedVariables false
set_option maxRecDepth 10000
variable {Pg : Nat → Option Fn}
@[go_sem] theorem idx_0 {b : UInt8} {t : List UInt8} {k : IntKind} : idxV (.str (b :: t)) (.int k 0) = some (.int .u8 b.toNat) := rfl
@[go_sem high] theorem sl_str {s : List UInt8} {z : Nat} {k : IntKind} {n : Nat} (h : n ≤ s.length) : slV true z (.str s) (some (.int k (n : Int))) none = some (.str (s.drop n)) := by
  simp [slV, bound, h]
def H191 (Pg : Nat → Option Fn) : Prop := Pg 191 = some (.code F191)
theorem K191 (h : H191 Pg) (r n : Int) : K' Pg 191 [.int .i32 r, .int .i64 n] = some (.bool (plainR r n)) := by
  refine K'_code h rfl ?_
  simp only [go_sem]
  cases c1 : decide (33 ≤ r) <;> cases c2 : decide (r < 127) <;> cases c3 : decide (159 < r) <;> cases c4 : decide (r = 65533) <;> cases c5 : decide (n = 3) <;>
    simp only [go_sem, plainR, c1, c2, c3, c4, c5]
def H190 (Pg : Nat → Option Fn) : Prop := Pg 190 = some (.prim none decQ)
theorem K190 (h : H190 Pg) (s : List UInt8) : K' Pg 190 [.str s] = some (.tuple [.int .i32 (decL s).1, .int .i64 (decL s).2]) := by
  rw [K'_prim h]; rfl
def H170 (Pg : Nat → Option Fn) : Prop := Pg 170 = some (.prim none keyQ)
theorem K170 (h : H170 Pg) (s : List UInt8) : K' Pg 170 [.str s] = some (.bool (keyR s)) := by
  rw [K'_prim h]; rfl
@[go_sem] def eLN (x : Int × Int) : V := .tuple [iz x.1, iz x.2]
end Sg
namespace Sg
open _root_.Go _root_.Go.RowKit _root_.Go.Proofs
set_option linter.unusedSimpArgs false
set_option linter.unusedVariables false
def plainFm : List (Nat × Nat) := [(191, 34)]
theorem okPlain : okF Tryd.prog (cxU plainFm) (onePg 191 F191) 34 F191 = true := by kernel_rfl
theorem plain_walk (r n : Int) (w : World) (hgn : 2 ≤ w.heap.size) (hT : Lib.Utf8Tabs 0 1 w) :
    Calls Tryd.prog 34 #[.int .i32 r, .int .i64 n] w fun e w' => e = .returned (.bool (plainR r n)) ∧ Below w.heap.size w w' := by
  have hk : K' (onePg 191 F191) 191 [.int .i32 r, .int .i64 n] = some (.bool (plainR r n)) := K191 (by simp [H191, onePg]) r n
  obtain ⟨m, hm⟩ := K'_iff.1 hk
  have hc := callN_sound (P := Tryd.prog) (cx := cxU plainFm) (Pg := onePg 191 F191) (by kernel_rfl) (fun f F hF => by
      unfold onePg at hF
      split at hF <;> simp only [Option.some.injEq, Fn.code.injEq, reduceCtorEq] at hF
      rename_i e; subst e; subst hF; exact okPlain) (fun f own p hp => by
      unfold onePg at hp
      split at hp <;> simp at hp) (fun f z p _ hp => by
      unfold onePg at hp
      split at hp <;> simp at hp) (fun f z p hp => by
      unfold onePg at hp
      split at hp <;> simp at hp) m 191 _ _ hm
  refine (hc.2 w (fun _ => False) #[.int .i32 r, .int .i64 n] (fun b hb => hb.elim) hgn hT rfl (fun i hi => by
    match i, hi with
    | 0, _ => exact ⟨_, rfl, .int _ _⟩
    | 1, _ => exact ⟨_, rfl, .int _ _⟩
    | k + 2, hi => exact absurd hi (by simp))).mono fun e w' ⟨v, he, hb, hr⟩ => ?_
  have hr := hr.data (fun b hb => hb.elim)
  cases hr
  exact ⟨he, hb⟩
theorem decCt (l : List (Nat × Nat)) (id : Nat) (h : (cxU l).fm id = 33) : ∀ args r, decQ args = some r → Ctr Tryd.prog (cxU l) none id args r :=
  dec_ctr (by rw [h]; exact ⟨_, Tryd.func33, by kernel_rfl, by kernel_rfl⟩) fun s w hG => by rw [h]; exact dec_walk s w hG
theorem keyCt (l : List (Nat × Nat)) (id : Nat) (h : (cxU l).fm id = 14) : ∀ args r, keyQ args = some r → Ctr Tryd.prog (cxU l) none id args r :=
  key_ctr (by rw [h]; exact ⟨_, Tryd.func14, by kernel_rfl, by kernel_rfl⟩) fun s w hgn hG => by rw [h]; exact key_walk s w hgn hG plain_walk
end Sg
namespace Sg
open _root_.Go
set_option linter.unusedSimpArgs false
set_option linter.unusedVariables false
theorem has_int {k : IntKind} {x : V} (h : Has (.int k) x) : ∃ n, x = .int k n ∧ (Lit.int k n).wf = true := by cases h; exact ⟨_, rfl, by assumption⟩
theorem has_bool {x : V} (h : Has .bool x) : ∃ b, x = .bool b := by cases h; exact ⟨_, rfl⟩
theorem has_str {x : V} (h : Has .str x) : ∃ s, x = .str s ∧ s.length ≤ maxLen := by cases h; exact ⟨_, rfl, by assumption⟩
theorem has_slice {r : List CT} {x : V} (h : Has (.slice r) x) : ∃ rows : List (List V), x = .slice r.length rows ∧ rows.length ≤ maxLen ∧ ∀ row ∈ rows, HasRow r row := by
  cases h with
  | slice r rows hl hz h =>
    refine ⟨rows, rfl, hl, fun row hrow => ?_⟩
    obtain ⟨i, hi, rfl⟩ := List.getElem_of_mem hrow
    have hg : gr rows i = rows[i] := by simp [gr, hi]
    exact ⟨by rw [← hg]; exact hz i hi, fun j hj => by rw [← hg]; exact h i j hi hj⟩
theorem rows_enc {α : Type} {enc : α → List V} {Q : α → Prop} : ∀ {rows : List (List V)}, (∀ row ∈ rows, ∃ a, row = enc a ∧ Q a) → ∃ l : List α, rows = l.map enc ∧ ∀ a ∈ l, Q a
  | [], _ => ⟨[], rfl, fun a ha => by simp at ha⟩
  | row :: rows, h => by
    obtain ⟨a, rfl, ha⟩ := h row (by simp)
    obtain ⟨l, rfl, hl⟩ := rows_enc (rows := rows) (fun r hr => h r (by simp [hr]))
    exact ⟨a :: l, rfl, fun b hb => by
      rcases List.mem_cons.1 hb with rfl | hb
      · exact ha
      · exact hl b hb⟩
theorem arg_int {x : V} (h : ArgV (false, [.int .i64]) x) : ∃ n, x = iz n ∧ (Lit.int .i64 n).wf = true := by
  obtain ⟨c, hc, h⟩ := h
  simp only [List.cons.injEq, and_true] at hc; subst hc
  exact has_int h
end Sg
namespace Sg
open _root_.Go (IntKind BinOp UnOp)
set_option linter.unusedSimpArgs false
set_option linter.unusedVariables false
variable {Pg : Nat → Option Fn}
structure Stamp where
  wall : Int
  tick : Int
  node : Int
  deriving DecidableEq
structure Ver where
  at_ : Stamp
  gone : Bool
  val : List UInt8
  deriving DecidableEq
@[go_sem] def eStamp (s : Stamp) : List V := [iz s.wall, iz s.tick, iz s.node]
@[go_sem] def eVer (v : Ver) : List V := [iz v.at_.wall, iz v.at_.tick, iz v.at_.node, .bool v.gone, .str v.val]
def eChain (c : List Ver) : V := .slice 5 (c.map eVer)
def within (a b : Int) : Bool := decide (0 ≤ a) && decide (a ≤ b)
def cmpI (a b : Int) : Int := if a < b then -1 else if b < a then 1 else 0
def orI : List Int → Int
  | [] => 0
  | a :: l => if a = 0 then orI l else a
def stampRight (s : Stamp) : Bool := within s.wall 1099511627776 && within s.tick 1048576 && within s.node 255
def stampCmp (a b : Stamp) : Int := orI [cmpI a.wall b.wall, cmpI a.tick b.tick, cmpI a.node b.node]
def verRight (v : Ver) : Bool := stampRight v.at_ && decide (v.val.length ≤ 16) && (!v.gone || decide (v.val = []))
def H32 (Pg : Nat → Option Fn) : Prop := Pg 32 = some (.code F32)
theorem K32 (h : H32 Pg) (a b : Int) : K' Pg 32 [iz a, iz b] = some (.bool (within a b)) := by
  refine K'_code h rfl ?_
  simp only [go_sem]
  refine wrg_it (fun h => ?_) (fun h => ?_) <;> simp only [go_sem, h, within]
def H31 (Pg : Nat → Option Fn) : Prop := Pg 31 = some (.code F31)
theorem K31 (h : H31 Pg) (a : Int) : K' Pg 31 [iz a] = some (.bool false) := by
  refine K'_code h rfl ?_
  simp only [go_sem]
def H26 (Pg : Nat → Option Fn) : Prop := Pg 26 = some (.code F26) ∧ H31 Pg
theorem K26 (h : H26 Pg) (a b : Int) : K' Pg 26 [iz a, iz b] = some (iz (cmpI a b)) := by
  obtain ⟨h, h31⟩ := h
  refine K'_code h rfl ?_
  have k31 := fun x => K31 h31 x
  simp only [go_sem, k31]
  repeat' (refine wpc_i (fun h => ?_) (fun h => ?_) <;> simp only [go_sem])
  all_goals simp_all [cmpI]
  omega
def H27 (Pg : Nat → Option Fn) : Prop := Pg 27 = some (.code F27)
theorem K27 (h : H27 Pg) (l : List Int) (hl : l.length < 2 ^ 60) : K' Pg 27 [.slice 1 (l.map fun a => [iz a])] = some (iz (orI l)) := by
  refine K'_code h rfl ?_
  simp only [go_sem]
  unfold l27_0
  refine wp_lp (fun (i : Nat) S => i ≤ l.length ∧ S.ρ 3 = iz 0 ∧ S.ρ 6 = .slice 1 (l.map fun a => [iz a]) ∧ S.ρ 7 = iz l.length ∧ S.ρ 8 = iz i ∧ orI (l.drop i) = orI l) (fun i => l.length - i) 0 ?_ ?_
  · simp [go_sem]
  · intro i S ⟨hi, h3, h6, h7, h8, ho⟩
    simp only [go_sem, h3, h6, h7, h8]
    refine wpc_i (fun h => ?_) (fun h => ?_)
    · simp only [decide_eq_true_eq, Int.ofNat_lt] at h
      obtain ⟨x, hx, hd⟩ := drop_at h
      simp only [go_sem, h3, h6, h7, h8, hx]
      refine wpc_i (fun h => ?_) (fun h => ?_)
      · simp only [go_sem]
        simp only [Bool.not_eq_true', decide_eq_false_iff_not] at h
        rw [← ho, hd]; simp [orI, h]
      · simp only [go_sem, h3, h6, h7, h8]
        simp only [Bool.not_eq_false', decide_eq_true_eq] at h
        refine ⟨i + 1, by omega, by omega, ?_, by rw [← ho, hd]; simp [orI, h]⟩
        rw [wrap64 (by omega) (by omega)]; rfl
    · simp only [decide_eq_false_iff_not, Int.ofNat_lt] at h
      simp only [go_sem, h3]
      have : i = l.length := by omega
      rw [← ho, this]; simp [orI]
def H15 (Pg : Nat → Option Fn) : Prop := Pg 15 = some (.code F15) ∧ H26 Pg ∧ H27 Pg
theorem K15 (h : H15 Pg) (a b : Stamp) : K' Pg 15 [.agg (eStamp a), .agg (eStamp b)] = some (iz (stampCmp a b)) := by
  obtain ⟨h, h26, h27⟩ := h
  refine K'_code h rfl ?_
  have k26 := fun x y => K26 h26 x y
  have k27 := K27 h27 [cmpI a.wall b.wall, cmpI a.tick b.tick, cmpI a.node b.node] (by simp)
  simp only [List.map_cons, List.map_nil] at k27
  simp only [go_sem, k26, k27, stampCmp]
def H28 (Pg : Nat → Option Fn) : Prop := Pg 28 = some (.code F28) ∧ H32 Pg
theorem K28 (h : H28 Pg) (a : Stamp) : K' Pg 28 [.agg (eStamp a)] = some (.bool (stampRight a)) := by
  obtain ⟨h, h32⟩ := h
  refine K'_code h rfl ?_
  have k := fun x y => K32 h32 x y
  simp only [go_sem, k]
  repeat' (refine wrg_it (fun h => ?_) (fun h => ?_) <;> simp only [go_sem, h, k, stampRight])
def H22 (Pg : Nat → Option Fn) : Prop := Pg 22 = some (.code F22) ∧ H28 Pg
theorem K22 (h : H22 Pg) (a : Ver) : K' Pg 22 [.agg (eVer a)] = some (.bool (verRight a)) := by
  obtain ⟨h, h28⟩ := h
  refine K'_code h rfl ?_
  have k := K28 h28 a.at_
  simp only [eStamp] at k
  simp only [go_sem, k]
  repeat' (first | refine wrg_it (fun h => ?_) (fun h => ?_) <;> simp only [go_sem, h, k] | refine wrg_if (fun h => ?_) (fun h => ?_) <;> simp only [go_sem, h, k])
  all_goals simp_all [verRight]
  all_goals omega
def chR : Option Ver → List Ver → Bool
  | _, [] => true
  | p, v :: l => verRight v && (match p with | none => true | some q => decide (stampCmp q.at_ v.at_ < 0)) && chR (some v) l
def chainRight (c : List Ver) : Bool := chR none c && decide (c.length ≤ 64)
def prevAt (c : List Ver) (i : Nat) : Option Ver := if i = 0 then none else c[i - 1]?
def H7 (Pg : Nat → Option Fn) : Prop := Pg 7 = some (.code F7) ∧ H22 Pg ∧ H15 Pg
theorem K7 (h : H7 Pg) (l : List Ver) (hl : l.length < 2 ^ 60) : K' Pg 7 [eChain l] = some (.bool (chainRight l)) := by
  obtain ⟨h, h22, h15⟩ := h
  refine K'_code h rfl ?_
  have k22 := fun x => K22 h22 x
  have k15 := fun x y => K15 h15 x y
  simp only [go_sem, eChain]
  unfold l7_0
  refine wp_lp (fun (i : Nat) S => i ≤ l.length ∧ S.ρ 0 = eChain l ∧ S.ρ 5 = eChain l ∧ S.ρ 6 = iz l.length ∧ S.ρ 7 = iz i ∧ S.μ 4 = none ∧ chR (prevAt l i) (l.drop i) = chR none l) (fun i => l.length - i) 0 ?_ ?_
  · simp [go_sem, eChain, prevAt]
  · intro i S ⟨hi, h0, h5, h6, h7, hm, ho⟩
    simp only [go_sem, h5, h6, h7, h0]
    refine wpc_i (fun h => ?_) (fun h => ?_)
    · simp only [decide_eq_true_eq, Int.ofNat_lt] at h
      obtain ⟨x, hx, hd⟩ := drop_at h
      simp only [eStamp, eVer] at k22 k15
      have hstep : (verRight x = true → chR (prevAt l i) (x :: l.drop (i + 1)) = ((match prevAt l i with | none => true | some q => decide (stampCmp q.at_ x.at_ < 0)) && chR (some x) (l.drop (i + 1)))) := fun h => by simp [chR, h]
      have hnext : prevAt l (i + 1) = some x := by simp [prevAt, hx]
      have hinc : IntKind.i64.wrap ((i : Int) + 1) = ((i + 1 : Nat) : Int) := wrap64 (by omega) (by omega)
      have hbad : verRight x = false → chR none l = false := fun h => by rw [← ho, hd]; simp [chR, h]
      cases hv : verRight x with
      | false => simp only [go_sem, h0, h5, h6, h7, hx, eChain, hm, k22, hv, Bool.not_false, chainRight, hbad hv]
      | true =>
        rcases Nat.eq_zero_or_pos i with hz | hz
        · have hgt : decide ((0 : Int) < (i : Int)) = false := by simp [hz]
          simp only [go_sem, h0, h5, h6, h7, hx, eChain, hm, k22, hv, Bool.not_true, hgt]
          refine ⟨i + 1, by omega, by omega, by rw [hinc], ?_⟩
          rw [hnext, ← ho, hd, hstep hv]; simp [prevAt, hz]
        · have hgt : decide ((0 : Int) < (i : Int)) = true := by simp [hz]
          have hdec : IntKind.i64.wrap ((i : Int) - 1) = ((i - 1 : Nat) : Int) := by rw [wrap64 (by omega) (by omega)]; omega
          have hy : l[i - 1]? = some l[i - 1] := by simp
          have hp : prevAt l i = some l[i - 1] := by simp [prevAt, Nat.ne_of_gt hz]
          simp only [go_sem, h0, h5, h6, h7, hx, eChain, hm, k22, hv, Bool.not_true, hgt, hdec, hy, k15]
          refine wpc_i (fun hc => ?_) (fun hc => ?_)
          · simp only [go_sem]
            have : ¬ stampCmp l[i - 1].at_ x.at_ < 0 := by simpa using hc
            have : chR none l = false := by rw [← ho, hd, hstep hv, hp]; simp [this]
            simp [chainRight, this]
          · simp only [go_sem, h0, h5, h6, h7, hm, eChain]
            have : stampCmp l[i - 1].at_ x.at_ < 0 := by simpa using hc
            refine ⟨i + 1, by omega, by omega, by rw [hinc], ?_⟩
            rw [hnext, ← ho, hd, hstep hv, hp]; simp [this]
    · simp only [decide_eq_false_iff_not, Int.ofNat_lt] at h
      simp only [go_sem, h0, eChain]
      have : i = l.length := by omega
      subst this
      simp [chR] at ho
      have : (decide ((l.length : Int) ≤ 64)) = decide (l.length ≤ 64) := decide_eq_decide.2 (by omega)
      simp [chainRight, ← ho, this]
def H30 (Pg : Nat → Option Fn) : Prop := Pg 30 = some (.code F30) ∧ H15 Pg
theorem K30 (h : H30 Pg) (v : Ver) (s : Stamp) : K' Pg 30 [.agg (eVer v), .agg (eStamp s)] = some (iz (stampCmp v.at_ s)) := by
  obtain ⟨h, h15⟩ := h
  refine K'_code h rfl ?_
  have k15 := fun x y => K15 h15 x y
  simp only [eStamp] at k15
  simp only [go_sem, k15]
def H29 (Pg : Nat → Option Fn) : Prop := Pg 29 = some (.code F29)
theorem K29 (h : H29 Pg) (l : List Ver) (s : Stamp) (g : Nat) (f : Nat → Int) (n : Nat) (hl : l.length < 2 ^ 60)
    (hg : ∀ i v, l[i]? = some v → K' Pg g [.agg (eVer v), .agg (eStamp s)] = some (iz (f i))) (hn : n ≤ l.length) (h1 : ∀ j, j < n → f j < 0) (h2 : ∀ j, n ≤ j → j < l.length → 0 ≤ f j) :
    K' Pg 29 [eChain l, .agg (eStamp s), .func g []] = some (.tuple [iz n, .bool (decide (n < l.length) && decide (f n = 0))]) := by
  refine K'_code h rfl ?_
  simp only [eStamp, eVer] at hg
  simp only [go_sem, eChain]
  unfold l29_0
  refine wp_lp (fun (p : Nat × Nat) S => p.1 ≤ n ∧ n ≤ p.2 ∧ p.2 ≤ l.length ∧ S.ρ 0 = eChain l ∧ S.ρ 2 = .func g [] ∧ S.ρ 4 = .lref 4 0 ∧ S.μ 4 = some (eStamp s, false) ∧ S.ρ 8 = iz l.length ∧ S.ρ 9 = iz p.1 ∧ S.ρ 10 = iz p.2) (fun p => p.2 - p.1) (0, l.length) ?_ ?_
  · simp [go_sem, eChain, hn]
  · intro ⟨i, j⟩ S ⟨hi, hj, hjl, h0, h2', h4, hm, h8, h9, h10⟩
    simp only at hi hj hjl h9 h10
    simp only [go_sem, h0, h2', h4, hm, h8, h9, h10]
    refine wpc_i (fun h => ?_) (fun h => ?_)
    · simp only [decide_eq_true_eq, Int.ofNat_lt] at h
      have e1 : IntKind.i64.wrap ((i : Int) + j) = (i : Int) + j := wrap64 (by omega) (by omega)
      have e2 : IntKind.u64.wrap ((i : Int) + j) = (i : Int) + j := _root_.Go.IntWalk.u64_in _ ⟨by omega, by omega⟩
      have e3 : Int.fdiv ((i : Int) + j) 2 = (((i + j) / 2 : Nat) : Int) := by
        rw [Int.fdiv_eq_ediv_of_nonneg _ (by omega)]; omega
      have e4 : IntKind.i64.wrap ((((i + j) / 2 : Nat) : Int)) = (((i + j) / 2 : Nat) : Int) := wrap64 (by omega) (by omega)
      have e5 : IntKind.i64.wrap ((((i + j) / 2 : Nat) : Int) + 1) = (((i + j) / 2 + 1 : Nat) : Int) := wrap64 (by omega) (by omega)
      obtain ⟨x, hx, hd⟩ := drop_at (l := l) (i := (i + j) / 2) (by omega)
      have hgx := hg _ _ hx
      simp only [go_sem, h0, h2', h4, hm, h8, h9, h10, e1, e2, e3, e4, hx, hgx, eChain]
      refine wpc_i (fun hc => ?_) (fun hc => ?_)
      · simp only [go_sem, h0, h2', h4, hm, h8, h9, h10, e5, eChain]
        have hf : f ((i + j) / 2) < 0 := by simpa using hc
        refine ⟨((i + j) / 2 + 1, j), by simp only; omega, ?_, hj, hjl, rfl, rfl⟩
        simp only
        rcases Nat.lt_or_ge ((i + j) / 2) n with h' | h'
        · exact h'
        · have := h2 _ h' (by omega); omega
      · simp only [go_sem, h0, h2', h4, hm, h8, h9, h10, eChain]
        have hf : ¬ f ((i + j) / 2) < 0 := by simpa using hc
        refine ⟨(i, (i + j) / 2), by simp only; omega, hi, ?_, by simp only; omega, rfl, rfl⟩
        simp only
        rcases Nat.lt_or_ge ((i + j) / 2) n with h' | h'
        · exact absurd (h1 _ h') hf
        · exact h'
    · simp only [decide_eq_false_iff_not, Int.ofNat_lt] at h
      have : i = n := by omega
      subst this
      simp only [go_sem, h0, h2', h4, hm, h8, h9, eChain]
      refine wrg_it (fun hc => ?_) (fun hc => ?_)
      · simp only [decide_eq_true_eq, Int.ofNat_lt] at hc
        obtain ⟨x, hx, hd⟩ := drop_at hc
        have hgx := hg _ _ hx
        simp only [go_sem, h0, h2', h4, hm, h8, h9, h10, hx, hgx, eChain, hc, decide_true, Int.ofNat_lt]
      · simp only [decide_eq_false_iff_not, Int.ofNat_lt] at hc
        simp only [go_sem, h0, h2', h4, hm, h8, h9, h10, eChain, hc, decide_false, Int.ofNat_lt]
theorem cmp_lt {a b : Stamp} : stampCmp a b < 0 ↔ a.wall < b.wall ∨ (a.wall = b.wall ∧ (a.tick < b.tick ∨ (a.tick = b.tick ∧ a.node < b.node))) := by
  simp only [stampCmp, orI, cmpI]
  repeat' split
  all_goals omega
theorem cmp_eq {a b : Stamp} : stampCmp a b = 0 ↔ a.wall = b.wall ∧ a.tick = b.tick ∧ a.node = b.node := by
  simp only [stampCmp, orI, cmpI]
  repeat' split
  all_goals omega
theorem cmp_gt {a b : Stamp} : 0 < stampCmp a b ↔ b.wall < a.wall ∨ (b.wall = a.wall ∧ (b.tick < a.tick ∨ (b.tick = a.tick ∧ b.node < a.node))) := by
  simp only [stampCmp, orI, cmpI]
  repeat' split
  all_goals omega
def upC (s : Stamp) : List Ver → Nat
  | [] => 0
  | v :: l => if stampCmp v.at_ s ≤ 0 then upC s l + 1 else 0
theorem chR_tail {p : Option Ver} {v : Ver} {l : List Ver} (h : chR p (v :: l) = true) : chR (some v) l = true := by
  simp only [chR, Bool.and_eq_true] at h; exact h.2
theorem chR_lt {p v : Ver} {l : List Ver} (h : chR (some p) l = true) (hv : v ∈ l) : stampCmp p.at_ v.at_ < 0 := by
  induction l generalizing p with
  | nil => simp at hv
  | cons w l ih =>
    simp only [chR, Bool.and_eq_true, decide_eq_true_eq] at h
    rcases List.mem_cons.1 hv with rfl | hv
    · exact h.1.2
    · have h2 := ih h.2 hv
      have h1 := h.1.2
      rw [cmp_lt] at h1 h2 ⊢
      omega
theorem upC_le (s : Stamp) (c : List Ver) : upC s c ≤ c.length := by
  induction c with
  | nil => simp [upC]
  | cons v l ih => simp only [upC]; split <;> simp <;> omega
theorem upC_lt {s : Stamp} : ∀ {c : List Ver} {j : Nat} {v : Ver}, j < upC s c → c[j]? = some v → stampCmp v.at_ s ≤ 0
  | [], j, v, h, _ => by simp [upC] at h
  | w :: l, j, v, h, hv => by
    simp only [upC] at h
    split at h
    · cases j with
      | zero => simp at hv; subst hv; assumption
      | succ j => exact upC_lt (c := l) (j := j) (by omega) (by simpa using hv)
    · omega
theorem upC_ge {s : Stamp} : ∀ {c : List Ver} {p : Option Ver} {j : Nat} {v : Ver}, chR p c = true → upC s c ≤ j → c[j]? = some v → 0 < stampCmp v.at_ s
  | [], p, j, v, _, _, hv => by simp at hv
  | w :: l, p, j, v, hc, h, hv => by
    have ht := chR_tail hc
    simp only [upC] at h
    split at h
    · cases j with
      | zero => omega
      | succ j => exact upC_ge (c := l) (j := j) ht (by omega) (by simpa using hv)
    · rename_i hw
      cases j with
      | zero => simp at hv; subst hv; omega
      | succ j =>
        have : v ∈ l := List.mem_of_getElem? (by simpa using hv)
        have h1 := chR_lt ht this
        have h2 : 0 < stampCmp w.at_ s := by omega
        rw [cmp_gt] at h2 ⊢
        rw [cmp_lt] at h1
        omega
theorem chR_get : ∀ {c : List Ver} {p : Option Ver} {i j : Nat} {v w : Ver}, chR p c = true → i < j → c[i]? = some v → c[j]? = some w → stampCmp v.at_ w.at_ < 0
  | [], _, i, j, v, w, _, _, hv, _ => by simp at hv
  | x :: l, p, i, j, v, w, hc, hij, hv, hw => by
    cases j with
    | zero => omega
    | succ j =>
      cases i with
      | zero =>
        simp at hv hw; subst hv
        exact chR_lt (chR_tail hc) (List.mem_of_getElem? hw)
      | succ i => exact chR_get (c := l) (i := i) (j := j) (chR_tail hc) (by omega) (by simpa using hv) (by simpa using hw)
def H25 (Pg : Nat → Option Fn) : Prop := Pg 25 = some (.code F25) ∧ H29 Pg ∧ H30 Pg
theorem K25 (h : H25 Pg) (l : List Ver) (s : Stamp) (hl : l.length < 2 ^ 60) (hr : chR none l = true) : K' Pg 25 [eChain l, .agg (eStamp s)] = some (iz (upC s l)) := by
  obtain ⟨h, h29, h30⟩ := h
  refine K'_code h rfl ?_
  let f : Nat → Int := fun j => match l[j]? with | some v => stampCmp v.at_ s | none => 0
  have hf : ∀ j v, l[j]? = some v → f j = stampCmp v.at_ s := fun j v hv => by simp [f, hv]
  let n := if upC s l ≠ 0 ∧ f (upC s l - 1) = 0 then upC s l - 1 else upC s l
  have hle := upC_le s l
  have hn : n ≤ l.length := by simp only [n]; split <;> omega
  have get : ∀ j, j < l.length → ∃ v, l[j]? = some v := fun j hj => ⟨l[j], by simp [hj]⟩
  have h1 : ∀ j, j < n → f j < 0 := fun j hj => by
    obtain ⟨v, hv⟩ := get j (by omega)
    rw [hf j v hv]
    by_cases hc : upC s l ≠ 0 ∧ f (upC s l - 1) = 0
    · have : n = upC s l - 1 := if_pos hc
      obtain ⟨w, hw⟩ := get (upC s l - 1) (by omega)
      have h3 := hc.2
      rw [hf _ _ hw, cmp_eq] at h3
      have h4 := chR_get (p := none) hr (by omega : j < upC s l - 1) hv hw
      rw [cmp_lt] at h4 ⊢
      omega
    · have hn' : n = upC s l := if_neg hc
      have h3 := upC_lt (s := s) (by omega : j < upC s l) hv
      rcases Nat.lt_or_ge j (upC s l - 1) with h5 | h5
      · obtain ⟨w, hw⟩ := get (upC s l - 1) (by omega)
        have h4 := chR_get (p := none) hr h5 hv hw
        have h6 := upC_lt (s := s) (by omega : upC s l - 1 < upC s l) hw
        have h7 : stampCmp w.at_ s < 0 ∨ stampCmp w.at_ s = 0 := by omega
        rw [cmp_lt, cmp_eq] at h7
        rw [cmp_lt] at h4 ⊢
        omega
      · have : j = upC s l - 1 := by omega
        subst this
        have : stampCmp v.at_ s ≠ 0 := fun e => hc ⟨by omega, by rw [hf _ _ hv]; exact e⟩
        omega
  have h2 : ∀ j, n ≤ j → j < l.length → 0 ≤ f j := fun j hj hjl => by
    obtain ⟨v, hv⟩ := get j hjl
    rw [hf j v hv]
    rcases Nat.lt_or_ge j (upC s l) with h3 | h3
    · have hc : upC s l ≠ 0 ∧ f (upC s l - 1) = 0 := by
        by_cases hc : upC s l ≠ 0 ∧ f (upC s l - 1) = 0
        · exact hc
        · have : n = upC s l := if_neg hc
          omega
      have : n = upC s l - 1 := if_pos hc
      have : j = upC s l - 1 := by omega
      subst this
      have := hc.2
      rw [hf _ _ hv] at this
      omega
    · have := upC_ge hr h3 hv; omega
  have k29 := K29 h29 l s 30 f n hl (fun i v hv => by rw [hf i v hv]; exact K30 h30 v s) hn h1 h2
  simp only [eStamp, eChain] at k29
  simp only [go_sem, eChain, k29]
  have hfin : (decide (n < l.length) && decide (f n = 0)) = decide (upC s l ≠ 0 ∧ f (upC s l - 1) = 0) := by
    by_cases hc : upC s l ≠ 0 ∧ f (upC s l - 1) = 0
    · have : n = upC s l - 1 := if_pos hc
      have h5 : upC s l - 1 < l.length := by have := hc.1; omega
      rw [decide_eq_true hc, this, decide_eq_true h5, decide_eq_true hc.2]; rfl
    · have hn' : n = upC s l := if_neg hc
      simp only [hc, decide_false, Bool.and_eq_false_iff, decide_eq_false_iff_not]
      rcases Nat.lt_or_ge (upC s l) l.length with h5 | h5
      · obtain ⟨w, hw⟩ := get _ h5
        have := upC_ge hr (Nat.le_refl _) hw
        rw [hn', hf _ _ hw]
        exact .inr (by omega)
      · exact .inl (by omega)
  rw [hfin]
  refine wpc_i (fun hc => ?_) (fun hc => ?_)
  · have hc := of_decide_eq_true hc
    have hn' : n = upC s l - 1 := if_pos hc
    simp only [go_sem]
    rw [wrap64 (by omega) (by omega), hn']
    have : ((upC s l - 1 : Nat) : Int) + 1 = (upC s l : Int) := by omega
    rw [this]
  · have hc := of_decide_eq_false hc
    have hn' : n = upC s l := if_neg hc
    simp only [go_sem, hn']
def zeroVer : Ver := ⟨⟨0, 0, 0⟩, false, []⟩
def atC (s : Stamp) (c : List Ver) : Option Ver := if chainRight c then (if upC s c = 0 then none else c[upC s c - 1]?) else none
def eOV (o : Option Ver) : V := .tuple [.agg (eVer (o.getD zeroVer)), .bool o.isSome]
theorem right_chR {c : List Ver} (h : chainRight c = true) : chR none c = true ∧ c.length ≤ 64 := by
  simpa [chainRight] using h
def H10 (Pg : Nat → Option Fn) : Prop := Pg 10 = some (.code F10) ∧ H7 Pg ∧ H25 Pg
theorem K10 (h : H10 Pg) (l : List Ver) (s : Stamp) (hl : l.length < 2 ^ 60) : K' Pg 10 [eChain l, .agg (eStamp s)] = some (eOV (atC s l)) := by
  obtain ⟨h, h7, h25⟩ := h
  refine K'_code h rfl ?_
  have k7 := K7 h7 l hl
  simp only [eChain, eStamp] at k7
  cases hr : chainRight l with
  | false => simp only [go_sem, eChain, k7, hr, Bool.not_false, eOV, atC, zeroVer, Option.isSome_none, Bool.false_eq_true]
  | true =>
    have k25 := K25 h25 l s hl (right_chR hr).1
    simp only [eChain, eStamp] at k25
    simp only [go_sem, eChain, k7, hr, Bool.not_true, k25]
    refine wpc_i (fun hc => ?_) (fun hc => ?_)
    · have hc : upC s l = 0 := by simpa using hc
      simp only [go_sem, eOV, atC, hr, hc, zeroVer, Option.isSome_none]
    · have hc : upC s l ≠ 0 := by simpa using hc
      have hle := upC_le s l
      obtain ⟨x, hx, -⟩ := drop_at (l := l) (i := upC s l - 1) (by omega)
      have hdec : IntKind.i64.wrap ((upC s l : Int) - 1) = ((upC s l - 1 : Nat) : Int) := by rw [wrap64 (by omega) (by omega)]; omega
      simp only [go_sem, eOV, atC, hr, hc, zeroVer, Option.isSome_some, hdec, hx]
def valC (s : Stamp) (c : List Ver) : Option (List UInt8) := match atC s c with | some v => if v.gone then none else some v.val | none => none
def H12 (Pg : Nat → Option Fn) : Prop := Pg 12 = some (.code F12) ∧ H10 Pg
theorem K12 (h : H12 Pg) (l : List Ver) (s : Stamp) (hl : l.length < 2 ^ 60) : K' Pg 12 [eChain l, .agg (eStamp s)] = some (.tuple [.str (match atC s l with | some v => v.val | none => []), .bool (match atC s l with | some v => !v.gone | none => false)]) := by
  obtain ⟨h, h10⟩ := h
  refine K'_code h rfl ?_
  have k10 := K10 h10 l s hl
  simp only [eChain, eStamp, eOV, eVer] at k10
  cases hr : atC s l with
  | none => simp only [hr, zeroVer, Option.getD_none, Option.isSome_none] at k10; simp only [go_sem, eChain, k10]
  | some v => simp only [hr, zeroVer, Option.getD_some, Option.isSome_some] at k10; simp only [go_sem, eChain, k10]
def H23 (Pg : Nat → Option Fn) : Prop := Pg 23 = some (.prim (some 0) (cloneQ 5))
theorem K23 (h : H23 Pg) (rows : List (List V)) (hl : rows.length ≤ lim) : K' Pg 23 [.slice 5 rows] = some (.slice 5 rows) := by
  rw [K'_prim h]; simp [cloneQ, hl]
def addC (c : List Ver) (v : Ver) : List Ver × Int :=
  if !chainRight c || !verRight v then ([], 1)
  else if (match c.getLast? with | some w => decide (0 ≤ stampCmp w.at_ v.at_) | none => false) then ([], 9)
  else if c.length = 64 then ([], 6) else (c ++ [v], 0)
def H3 (Pg : Nat → Option Fn) : Prop := Pg 3 = some (.code F3) ∧ H7 Pg ∧ H22 Pg ∧ H15 Pg ∧ H23 Pg
theorem K3 (h : H3 Pg) (l : List Ver) (v : Ver) (hl : l.length < 2 ^ 60) : K' Pg 3 [eChain l, .agg (eVer v)] = some (.tuple [eChain (addC l v).1, iz (addC l v).2]) := by
  obtain ⟨h, h7, h22, h15, h23⟩ := h
  refine K'_code h rfl ?_
  have k7 := K7 h7 l hl
  have k22 := K22 h22 v
  have k15 := fun x y => K15 h15 x y
  simp only [eChain, eStamp, eVer] at k7 k22 k15
  cases hr : chainRight l with
  | false => simp only [go_sem, eChain, k7, hr, Bool.not_false, addC]
  | true =>
    cases hv : verRight v with
    | false => simp only [go_sem, eChain, k7, hr, Bool.not_false, Bool.not_true, addC, k22, hv]
    | true =>
      have hlen := (right_chR hr).2
      have k23 := K23 h23 (l.map eVer) (by simp [lim]; omega)
      have fin : Wp (K' Pg) c3 (start [eChain l, .agg (eVer v)]) (fun ex S => (ex = .norm ∨ ex = .ret) ∧ finish F3 S = some (.tuple [eChain (addC l v).1, iz (addC l v).2])) := by
        have hap : (l.map eVer).length + 1 ≤ lim := by simp [lim]; omega
        rcases Nat.eq_zero_or_pos l.length with hz | hz
        · have hgt : decide ((0 : Int) < (l.length : Int)) = false := by simp [hz]
          have h64 : decide ((l.length : Int) = 64) = false := by simp [hz]
          have hl0 : l = [] := List.eq_nil_of_length_eq_zero hz
          have hadd : addC l v = (l ++ [v], 0) := by simp only [addC, hr, hv]; simp [hl0]
          simp only [List.length_map] at hap
          simp only [go_sem, eChain, k7, hr, Bool.not_true, k22, hv, hgt, h64, k23, hadd, List.map_append, hap]
        · have hgt : decide ((0 : Int) < (l.length : Int)) = true := by simp [hz]
          obtain ⟨x, hx, -⟩ := drop_at (l := l) (i := l.length - 1) (by omega)
          have hdec : IntKind.i64.wrap ((l.length : Int) - 1) = ((l.length - 1 : Nat) : Int) := by rw [wrap64 (by omega) (by omega)]; omega
          have hlast : l.getLast? = some x := by rw [List.getLast?_eq_getElem?]; exact hx
          simp only [List.length_map] at hap
          simp only [go_sem, eChain, k7, hr, Bool.not_true, k22, hv, hgt, hdec, hx, k15]
          refine wpc_i (fun hc => ?_) (fun hc => ?_)
          · simp only [go_sem, addC, hr, hv, hlast, Bool.not_true, hc]
          · simp only [go_sem, eChain]
            refine wpc_i (fun h64 => ?_) (fun h64 => ?_)
            · have h64' : l.length = 64 := by have := of_decide_eq_true h64; omega
              simp only [go_sem, addC, hr, hv, hlast, Bool.not_true, hc, h64']
            · have h64' : ¬ l.length = 64 := by have := of_decide_eq_false h64; omega
              have hadd : addC l v = (l ++ [v], 0) := by simp [addC, hr, hv, hlast, h64', hc]
              simp only [go_sem, eChain, k23, hadd, List.map_append, hap]
      exact fin
end Sg
namespace Sg
open _root_.Go
set_option linter.unusedSimpArgs false
set_option linter.unusedVariables false
abbrev tStamp : List CT := [.int .i64, .int .i64, .int .i64]
theorem row_stamp {xs : List V} (h : HasRow tStamp xs) : ∃ s, xs = eStamp s := by
  obtain ⟨hl, hj⟩ := h
  match xs, hl with
  | [a, b, c], _ =>
    obtain ⟨x, rfl, -⟩ := has_int (hj 0 (by simp))
    obtain ⟨y, rfl, -⟩ := has_int (hj 1 (by simp))
    obtain ⟨z, rfl, -⟩ := has_int (hj 2 (by simp))
    exact ⟨⟨x, y, z⟩, rfl⟩
theorem arg_stamp {x : V} (h : ArgV (true, tStamp) x) : ∃ s, x = .agg (eStamp s) := by
  obtain ⟨xs, rfl, h⟩ := h
  obtain ⟨s, rfl⟩ := row_stamp h
  exact ⟨s, rfl⟩
end Sg
namespace Sg
open _root_.Go (IntKind BinOp UnOp)
set_option linter.unusedSimpArgs false
set_option linter.unusedVariables false
set_option maxRecDepth 10000
variable {Pg : Nat → Option Fn}
theorem dN_le {l : List UInt8} (h : l ≠ []) : (dN l).2 ≤ l.length := by
  rcases dN_cases h with x | ⟨a0, t, rfl, q, x⟩ | ⟨a0, a1, t, rfl, q, q1, x⟩ | ⟨a0, a1, a2, t, rfl, q, q1, q2, q3, x⟩ | ⟨a0, a1, a2, a3, t, rfl, q, q1, q2, q3, q4, x⟩
  · rw [x]; have := List.length_pos_iff.2 h; simp only; omega
  all_goals rw [x]; simp
@[go_sem] def eIL (l : List Int) : V := .slice 1 (l.map fun x => [iz x])
def H192 (Pg : Nat → Option Fn) : Prop := Pg 192 = some (.code F192) ∧ H190 Pg
theorem K192 (h : H192 Pg) (a b : List UInt8) : K' Pg 192 [.str a, .str b] = some (iz (cmpL (lets a) (lets b))) := by
  obtain ⟨h, h190⟩ := h
  refine K'_code h rfl ?_
  simp only [go_sem]
  unfold l192_0
  refine wp_lp (fun (p : List UInt8 × List UInt8) S => S.ρ 0 = .str p.1 ∧ S.ρ 1 = .str p.2 ∧ cmpL (lets p.1) (lets p.2) = cmpL (lets a) (lets b)) (fun p => p.1.length) (a, b) ?_ ?_
  · simp [go_sem]
  · intro ⟨x, y⟩ S ⟨h0, h1, ho⟩
    simp only at h0 h1 ho
    have k := K190 h190 x
    have k' := K190 h190 y
    simp only [go_sem, h0, h1]
    by_cases hx : x = []
    · subst hx
      rw [lets_nil] at ho
      by_cases hy : y = []
      · subst hy
        have ho : (0 : Int) = cmpL (lets a) (lets b) := ho
        simp only [go_sem, h0, h1, ← ho]
      · rw [lets_cons hy] at ho
        have ho : (-1 : Int) = cmpL (lets a) (lets b) := ho
        simp only [go_sem, h0, h1, hy, ← ho]
    · by_cases hy : y = []
      · subst hy
        rw [lets_cons hx, lets_nil] at ho
        have ho : (1 : Int) = cmpL (lets a) (lets b) := ho
        simp only [go_sem, h0, h1, hx, ← ho]
      · rw [lets_cons hx, lets_cons hy] at ho
        have ex : decL x = dN x := by rw [decL, if_neg hx]
        have ey : decL y = dN y := by rw [decL, if_neg hy]
        rw [ex] at k
        rw [ey] at k'
        have lx := dN_le hx
        have ly := dN_le hy
        have hd := drop_lt hx
        simp only [go_sem, h0, h1, hx, hy, k, k']
        refine wpc_i (fun c => ?_) (fun c => ?_)
        · rw [cmpL_lt' (of_decide_eq_true c)] at ho
          simp only [go_sem, ← ho]
        · have c := of_decide_eq_false c
          simp only [go_sem, h0, h1, hx, hy]
          refine wpc_i (fun d => ?_) (fun d => ?_)
          · rw [cmpL_gt' (of_decide_eq_true d)] at ho
            simp only [go_sem, ← ho]
          · have d := of_decide_eq_false d
            have e : ((dN x).1 : Int) = ((dN y).1 : Int) := by omega
            rw [e, cmpL_eq'] at ho
            simp only [go_sem, h0, h1, lx, ly]
            exact ⟨(x.drop (dN x).2, y.drop (dN y).2), hd, rfl, rfl, ho⟩
end Sg
namespace Sg
open _root_.Go (IntKind BinOp UnOp)
set_option linter.unusedSimpArgs false
set_option linter.unusedVariables false
set_option maxRecDepth 10000
variable {Pg : Nat → Option Fn}
structure Span where
  lo : List UInt8
  hi : List UInt8
  deriving DecidableEq
@[go_sem] def eSpan (s : Span) : List V := [.str s.lo, .str s.hi]
def ltS (a b : List UInt8) : Bool := decide (cmpL (lets a) (lets b) < 0)
def leS (a b : List UInt8) : Bool := decide (cmpL (lets a) (lets b) ≤ 0)
def spanR (s : Span) : Bool := (decide (s.lo = []) || keyR s.lo) && (decide (s.hi = []) || (keyR s.hi && ltS s.lo s.hi))
theorem keyR_len {l : List UInt8} (h : keyR l = true) : l.length ≤ 16 ∧ l ≠ [] := by
  simp only [keyR, Bool.and_eq_true, decide_eq_true_eq] at h
  exact ⟨h.2.2, fun e => by rw [e] at h; simp at h⟩
def H186 (Pg : Nat → Option Fn) : Prop := Pg 186 = some (.code F186) ∧ H170 Pg ∧ H192 Pg
theorem K186 (h : H186 Pg) (s : Span) : K' Pg 186 [.agg (eSpan s)] = some (.bool (spanR s)) := by
  obtain ⟨h, h170, h192⟩ := h
  have k1 := K170 h170 s.lo
  have k2 := K170 h170 s.hi
  have k3 := K192 h192 s.lo s.hi
  refine K'_code h rfl ?_
  cases c1 : decide (s.lo = []) <;> cases c2 : keyR s.lo <;> cases c3 : decide (s.hi = []) <;> cases c4 : keyR s.hi <;>
    simp only [go_sem, c1, c2, c3, c4, k1, k2, k3, spanR, ltS]
def hasS (s : Span) (k : List UInt8) : Bool := spanR s && (keyR k && (leS s.lo k && (decide (s.hi = []) || ltS k s.hi)))
def H171 (Pg : Nat → Option Fn) : Prop := Pg 171 = some (.code F171) ∧ H186 Pg ∧ H170 Pg ∧ H192 Pg
theorem K171 (h : H171 Pg) (s : Span) (k : List UInt8) : K' Pg 171 [.agg (eSpan s), .str k] = some (.bool (hasS s k)) := by
  obtain ⟨h, h186, h170, h192⟩ := h
  have k1 := K186 h186 s
  have k2 := K170 h170 k
  have k3 := K192 h192 s.lo k
  have k4 := K192 h192 k s.hi
  simp only [eSpan] at k1
  refine K'_code h rfl ?_
  cases c1 : spanR s <;> cases c2 : keyR k <;> cases c3 : decide (cmpL (lets s.lo) (lets k) ≤ 0) <;> cases c4 : decide (s.hi = []) <;>
    simp only [go_sem, c1, c2, c3, c4, k1, k2, k3, k4, hasS, leS, ltS]
theorem ltS_iff {a b : List UInt8} : ltS a b = true ↔ cmpL (lets a) (lets b) < 0 := by simp [ltS]
theorem lt_tr {a b c : List UInt8} (h1 : cmpL (lets a) (lets b) ≤ 0) (h2 : cmpL (lets b) (lets c) < 0) : cmpL (lets a) (lets c) < 0 := (cmpL_tr _ _ _ h1 (by omega)).2 (.inr h2)
end Sg
namespace Sg
open _root_.Go (IntKind BinOp UnOp)
set_option linter.unusedSimpArgs false
set_option linter.unusedVariables false
set_option maxRecDepth 10000
variable {Pg : Nat → Option Fn}
@[go_sem] def eSSE (x : Span × Span × Int) : V := .tuple [.agg (eSpan x.1), .agg (eSpan x.2.1), iz x.2.2]
@[go_sem] def eSE (x : Span × Int) : V := .tuple [.agg (eSpan x.1), iz x.2]
end Sg
namespace Sg
open _root_.Go (IntKind BinOp UnOp)
set_option linter.unusedSimpArgs false
set_option linter.unusedVariables false
variable {Pg : Nat → Option Fn}
def before (a b : Stamp) : Bool := decide (stampCmp a b < 0)
def H8 (Pg : Nat → Option Fn) : Prop := Pg 8 = some (.code F8)
theorem K8 (h : H8 Pg) (a b : List Ver) (hl : a.length < 2 ^ 60) : K' Pg 8 [eChain a, eChain b] = some (.bool (decide (a = b))) := by
  refine K'_code h rfl ?_
  simp only [go_sem, eChain]
  refine wpc_i (fun hc => ?_) (fun hc => ?_)
  · have hc : ¬ a.length = b.length := by intro e; simp [e] at hc
    have : a ≠ b := fun e => hc (by rw [e])
    simp only [go_sem, this, decide_false]
  · have hc : a.length = b.length := by simp at hc; omega
    simp only [go_sem, eChain]
    unfold l8_0
    refine wp_lp (fun (i : Nat) S => i ≤ a.length ∧ S.ρ 0 = eChain a ∧ S.ρ 1 = eChain b ∧ S.ρ 5 = iz i ∧ a.take i = b.take i) (fun i => a.length - i) 0 ?_ ?_
    · simp [go_sem, eChain]
    · intro i S ⟨hi, h0, h1, h5, ho⟩
      simp only [go_sem, h0, h1, h5, eChain]
      refine wpc_i (fun h => ?_) (fun h => ?_)
      · simp only [decide_eq_true_eq, Int.ofNat_lt] at h
        obtain ⟨x, hx, hd⟩ := drop_at h
        obtain ⟨y, hy, hd'⟩ := drop_at (l := b) (i := i) (by omega)
        have hinc : IntKind.i64.wrap ((i : Int) + 1) = ((i + 1 : Nat) : Int) := wrap64 (by omega) (by omega)
        simp only [go_sem, h0, h1, h5, hx, hy, eChain]
        have heq : (decide (x.at_.wall = y.at_.wall) && (decide (x.at_.tick = y.at_.tick) && (decide (x.at_.node = y.at_.node) && ((x.gone == y.gone) && decide (x.val = y.val))))) = decide (x = y) := by
          cases x; cases y; rename_i a1 _ _ a2 _ _; cases a1; cases a2
          simp only [Ver.mk.injEq, Stamp.mk.injEq, Bool.decide_and]
          simp [and_assoc, Bool.and_assoc, Bool.beq_eq_decide_eq]
        simp only [heq]
        refine wpc_i (fun hc => ?_) (fun hc => ?_)
        · have hne : x ≠ y := by simpa using hc
          have : a ≠ b := fun e => hne (by subst e; rw [hx] at hy; simpa using hy)
          simp only [go_sem, this, decide_false]
        · have he : x = y := by simpa using hc
          simp only [go_sem, h0, h1, h5, eChain]
          refine ⟨i + 1, by omega, by omega, by rw [hinc], ?_⟩
          rw [List.take_add_one, List.take_add_one, hx, hy, ho, he]
      · simp only [decide_eq_false_iff_not, Int.ofNat_lt] at h
        have : i = a.length := by omega
        subst this
        have : a = b := by rw [List.take_length, hc, List.take_length] at ho; exact ho
        simp only [go_sem, this, decide_true]
end Sg
namespace Sg
open _root_.Go (IntKind BinOp UnOp)
set_option linter.unusedSimpArgs false
set_option linter.unusedVariables false
variable {Pg : Nat → Option Fn}
def later (a b : Stamp) : Stamp := if stampCmp a b < 0 then b else a
def H21 (Pg : Nat → Option Fn) : Prop := Pg 21 = some (.code F21) ∧ H15 Pg
theorem K21 (h : H21 Pg) (a b : Stamp) : K' Pg 21 [.agg (eStamp a), .agg (eStamp b)] = some (.agg (eStamp (later a b))) := by
  obtain ⟨h, h15⟩ := h
  refine K'_code h rfl ?_
  have k15 := K15 h15 a b
  simp only [eStamp] at k15
  simp only [go_sem, k15]
  refine wpc_i (fun hc => ?_) (fun hc => ?_)
  · have := of_decide_eq_true hc
    simp only [go_sem, later, this]
  · have := of_decide_eq_false hc
    simp only [go_sem, later, this]
end Sg
namespace Sg
open _root_.Go (IntKind BinOp UnOp)
set_option linter.unusedSimpArgs false
set_option linter.unusedVariables false
variable {Pg : Nat → Option Fn}
end Sg
namespace Sg
open _root_.Go (IntKind BinOp UnOp)
set_option linter.unusedSimpArgs false
set_option linter.unusedVariables false
variable {Pg : Nat → Option Fn}
theorem chR_mem : ∀ {l : List Ver} {p : Option Ver} {v : Ver}, chR p l = true → v ∈ l → verRight v = true
  | [], _, _, _, h => by simp at h
  | w :: l, p, v, h, hv => by
    simp only [chR, Bool.and_eq_true] at h
    rcases List.mem_cons.1 hv with rfl | hv
    · exact h.1.1
    · exact chR_mem h.2 hv
theorem gone_val {v : Ver} (h : verRight v = true) (hg : v.gone = true) : v.val = [] := by
  simp [verRight, hg] at h; exact h.2
theorem atC_right {s : Stamp} {l : List Ver} {v : Ver} (h : atC s l = some v) : verRight v = true := by
  simp only [atC] at h
  split at h
  · rename_i hr
    split at h
    · simp at h
    · exact chR_mem (right_chR hr).1 (List.mem_of_getElem? h)
  · simp at h
theorem valC_getD {s : Stamp} {l : List Ver} : (valC s l).getD [] = (match atC s l with | some v => v.val | none => []) := by
  simp only [valC]
  cases h : atC s l with
  | none => rfl
  | some v =>
    cases hg : v.gone with
    | true => simp [hg, gone_val (atC_right h) hg]
    | false => simp [hg]
theorem valC_isSome {s : Stamp} {l : List Ver} : (valC s l).isSome = (match atC s l with | some v => !v.gone | none => false) := by
  simp only [valC]
  cases h : atC s l with
  | none => rfl
  | some v => cases hg : v.gone <;> simp [hg]
theorem K12' (h : H12 Pg) (l : List Ver) (s : Stamp) (hl : l.length < 2 ^ 60) : K' Pg 12 [eChain l, .agg (eStamp s)] = some (.tuple [.str ((valC s l).getD []), .bool (valC s l).isSome]) := by
  rw [K12 h l s hl, valC_getD, valC_isSome] <;> (cases atC s l <;> rfl)
end Sg
namespace Sg
open _root_.Go (IntKind BinOp UnOp)
set_option linter.unusedSimpArgs false
set_option linter.unusedVariables false
set_option maxRecDepth 10000
variable {Pg : Nat → Option Fn}
structure Entr where
  key : List UInt8
  chain : List Ver
  deriving DecidableEq
@[go_sem] def eEnt (e : Entr) : List V := [.str e.key, eChain e.chain]
@[go_sem] def eEnts (l : List Entr) : V := .slice 2 (l.map eEnt)
def Sm (l : List Entr) : Prop := l.length ≤ 1000 ∧ ∀ e ∈ l, e.chain.length ≤ 1000 ∧ e.key.length ≤ 1000
theorem Sm.len {l : List Entr} (h : Sm l) : l.length ≤ 1000 := h.1
theorem Sm.at {l : List Entr} (h : Sm l) {i : Nat} {e : Entr} (he : l[i]? = some e) : e.chain.length ≤ 1000 ∧ e.key.length ≤ 1000 := h.2 e (List.mem_of_getElem? he)
def smallI (l : List Entr) : Bool := decide (l.length ≤ 80) && l.all fun e => decide (e.chain.length ≤ 80) && decide (e.key.length ≤ 100)
theorem small_sm {l : List Entr} (h : smallI l = true) : Sm l ∧ l.length ≤ 80 ∧ ∀ e ∈ l, e.chain.length ≤ 80 ∧ e.key.length ≤ 100 := by
  simp only [smallI, Bool.and_eq_true, decide_eq_true_eq, List.all_eq_true] at h
  exact ⟨⟨by omega, fun e he => by have := h.2 e he; omega⟩, h.1, h.2⟩
theorem gtd {a b : Nat} : decide ((a : Int) < (b : Int)) = !decide (b ≤ a) := by
  by_cases h : b ≤ a <;> simp [h] <;> omega
theorem gt80 {n : Nat} : decide ((80 : Int) < (n : Int)) = !decide (n ≤ 80) := gtd (a := 80)
theorem gt100n {n : Nat} : decide ((100 : Int) < (n : Int)) = !decide (n ≤ 100) := gtd (a := 100)
theorem le64 {n : Nat} : decide ((n : Int) ≤ 64) = decide (n ≤ 64) := led (b := 64)
def H198 (Pg : Nat → Option Fn) : Prop := Pg 198 = some (.code F198)
theorem K198 (h : H198 Pg) (l : List Entr) : K' Pg 198 [eEnts l] = some (.bool (smallI l)) := by
  refine K'_code h rfl ?_
  cases c0 : decide (l.length ≤ 80) with
  | false => simp only [go_sem, gt80, c0, smallI]
  | true =>
  have hl := of_decide_eq_true c0
  simp only [go_sem, gt80, c0, smallI]
  unfold l198_0
  refine wp_lp (fun (i : Nat) S => i ≤ l.length ∧ S.ρ 0 = eEnts l ∧ S.ρ 3 = iz i ∧ ((l.drop i).all fun e => decide (e.chain.length ≤ 80) && decide (e.key.length ≤ 100)) = l.all fun e => decide (e.chain.length ≤ 80) && decide (e.key.length ≤ 100)) (fun i => l.length - i) 0 ?_ ?_
  · simp [go_sem]
  · intro i S ⟨hi, h0, h3, ho⟩
    simp only [go_sem, h0, h3]
    refine wpc_i (fun h => ?_) (fun h => ?_)
    · have h := lt_of h
      obtain ⟨x, hx, hd⟩ := drop_at h
      rw [hd, List.all_cons] at ho
      simp only [go_sem, h0, h3, hx, eChain, gt80, gt100n]
      cases c1 : decide (x.chain.length ≤ 80) with
      | false => rw [c1] at ho; simp only [Bool.false_and] at ho; simp only [go_sem, h0, h3, hx, c1, ← ho]
      | true =>
      cases c2 : decide (x.key.length ≤ 100) with
      | false => rw [c1, c2] at ho; simp only [Bool.false_and, Bool.and_false] at ho; simp only [go_sem, h0, h3, hx, c1, c2, gt100n, ← ho]
      | true =>
        rw [c1, c2] at ho
        simp only [Bool.true_and] at ho
        simp only [go_sem, h0, h3, hx, c1, c2, gt100n]
        exact ⟨i + 1, by omega, by omega, by rw [inc64 h (by omega)], ho⟩
    · have h := eq_of hi h
      subst h
      rw [List.drop_length] at ho
      simp only [go_sem, ← ho, List.all_nil]
def entR (e : Entr) : Bool := keyR e.key && (!decide (e.chain = []) && chainRight e.chain)
def ixG : Option Entr → List Entr → Bool
  | _, [] => true
  | p, e :: l => entR e && ((match p with | none => true | some q => ltS q.key e.key) && ixG (some e) l)
def ixR (l : List Entr) : Bool := decide (l.length ≤ 64) && ixG none l
def prevE (l : List Entr) (i : Nat) : Option Entr := if i = 0 then none else l[i - 1]?
theorem prevE_s {l : List Entr} {i : Nat} {x : Entr} (h : l[i]? = some x) : prevE l (i + 1) = some x := by simp [prevE, h]
theorem ver_nil {l : List Ver} : decide ((l.length : Int) = 0) = decide (l = []) := by cases l <;> simp; omega
def H203 (Pg : Nat → Option Fn) : Prop := Pg 203 = some (.code F203) ∧ H7 Pg ∧ H170 Pg ∧ H192 Pg
theorem K203 (h : H203 Pg) (l : List Entr) (hl : Sm l) : K' Pg 203 [eEnts l] = some (.bool (ixR l)) := by
  obtain ⟨h, h7, h170, h192⟩ := h
  have k170 := fun x => K170 h170 x
  have k192 := fun x y => K192 h192 x y
  have hlen := hl.len
  refine K'_code h rfl ?_
  simp only [go_sem]
  unfold l203_0
  refine wp_lp (fun (i : Nat) S => i ≤ l.length ∧ S.ρ 0 = eEnts l ∧ S.ρ 5 = eEnts l ∧ S.ρ 6 = iz l.length ∧ S.ρ 7 = iz i ∧ S.μ 4 = none ∧ ixG (prevE l i) (l.drop i) = ixG none l) (fun i => l.length - i) 0 ?_ ?_
  · simp [go_sem, prevE]
  · intro i S ⟨hi, h0, h5, h6, h7', m4, ho⟩
    simp only [go_sem, h0, h5, h6, h7', m4]
    refine wpc_i (fun h => ?_) (fun h => ?_)
    · have h := lt_of h
      obtain ⟨x, hx, hd⟩ := drop_at h
      have k7 := K7 h7 x.chain (by have := hl.at hx; omega)
      simp only [eChain] at k7
      have hinc : IntKind.i64.wrap ((i : Int) + 1) = ((i + 1 : Nat) : Int) := inc64 h (by omega)
      rw [hd] at ho
      simp only [ixG] at ho
      simp only [go_sem, h0, h5, h6, h7', m4, hx, eChain, k170, k7, ver_nil]
      cases c1 : keyR x.key with
      | false =>
        simp only [entR, c1, Bool.false_and] at ho
        simp only [go_sem, h0, h5, h6, h7', m4, hx, c1, ixR, ← ho]
      | true =>
      cases c2 : chainRight x.chain with
      | false =>
        simp only [entR, c1, c2, Bool.false_and, Bool.and_false] at ho
        simp only [go_sem, h0, h5, h6, h7', m4, hx, c1, c2, k7, ixR, ← ho, eChain]
      | true =>
      cases c3 : decide (x.chain = []) with
      | true =>
        simp only [entR, c1, c2, c3, Bool.false_and, Bool.and_false, Bool.not_true] at ho
        simp only [go_sem, h0, h5, h6, h7', m4, hx, c1, c2, c3, k7, ver_nil, ixR, ← ho, eChain]
      | false =>
      simp only [entR, c1, c2, c3, Bool.true_and, Bool.and_true, Bool.not_false] at ho
      rcases Nat.eq_zero_or_pos i with hz | hz
      · have hgt : decide ((0 : Int) < (i : Int)) = false := decide_eq_false (by omega)
        simp only [go_sem, hgt, h0, h5, h6, h7', m4, hx, c1, c2, c3, k7, ver_nil, eChain]
        exact ⟨i + 1, by omega, by omega, by rw [hinc], by rw [prevE_s hx]; simpa [prevE, hz] using ho⟩
      · have hgt : decide ((0 : Int) < (i : Int)) = true := decide_eq_true (by omega)
        have hdec : IntKind.i64.wrap ((i : Int) - 1) = ((i - 1 : Nat) : Int) := dec64 hz (by omega)
        obtain ⟨y, hy, -⟩ := drop_at (l := l) (i := i - 1) (by omega)
        have hp : prevE l i = some y := by simp [prevE, Nat.ne_of_gt hz, hy]
        rw [hp] at ho
        simp only at ho
        simp only [go_sem, h0, h5, h6, h7', m4, hx, c1, c2, c3, k7, ver_nil, eChain, hgt, hdec, hy, k192]
        refine wpc_i (fun hc => ?_) (fun hc => ?_)
        · have : ltS y.key x.key = false := decide_eq_false (by have := of_decide_eq_true hc; omega)
          rw [this] at ho
          simp only [Bool.false_and] at ho
          simp only [go_sem, h0, h5, h6, h7', m4, hx, ixR, ← ho]
        · have : ltS y.key x.key = true := decide_eq_true (by have := of_decide_eq_false hc; omega)
          rw [this] at ho
          simp only [Bool.true_and] at ho
          simp only [go_sem, h0, h5, h6, h7', m4, hx]
          exact ⟨i + 1, by omega, by omega, by rw [hinc], by rw [prevE_s hx]; exact ho⟩
    · have h := eq_of hi h
      subst h
      rw [List.drop_length] at ho
      simp only [ixG] at ho
      simp only [go_sem, h0, le64, ixR, ← ho]
def H202 (Pg : Nat → Option Fn) : Prop := Pg 202 = some (.code F202) ∧ H8 Pg
theorem K202 (h : H202 Pg) (l : List Entr) (hl : Sm l) : K' Pg 202 [eEnts l, eEnts l] = some (.bool true) := by
  obtain ⟨h, h8⟩ := h
  have hlen := hl.len
  refine K'_code h rfl ?_
  simp only [go_sem]
  unfold l202_0
  refine wp_lp (fun (i : Nat) S => i ≤ l.length ∧ S.ρ 0 = eEnts l ∧ S.ρ 1 = eEnts l ∧ S.ρ 5 = iz i) (fun i => l.length - i) 0 ?_ ?_
  · simp [go_sem]
  · intro i S ⟨hi, h0, h1, h5⟩
    simp only [go_sem, h0, h1, h5]
    refine wpc_i (fun h => ?_) (fun h => ?_)
    · have h := lt_of h
      obtain ⟨x, hx, hd⟩ := drop_at h
      have k8 := K8 h8 x.chain x.chain (by have := hl.at hx; omega)
      simp only [eChain, decide_true] at k8
      simp only [go_sem, h0, h1, h5, hx, eChain, k8]
      exact ⟨i + 1, by omega, by omega, by rw [inc64 h (by omega)]⟩
    · simp only [go_sem]
def posI (k : List UInt8) : List Entr → Nat
  | [] => 0
  | e :: l => if ltS e.key k then posI k l + 1 else 0
theorem posI_le {k : List UInt8} : ∀ (l : List Entr), posI k l ≤ l.length
  | [] => Nat.le_refl _
  | e :: l => by
    have := posI_le (k := k) l
    simp only [posI, List.length_cons]; split <;> omega
theorem posI_lt {k : List UInt8} : ∀ {l : List Entr} {j : Nat} {e : Entr}, j < posI k l → l[j]? = some e → ltS e.key k = true
  | [], _, _, h, _ => by simp [posI] at h
  | a :: l, j, e, h, he => by
    simp only [posI] at h
    split at h
    · rename_i ha
      cases j with
      | zero => obtain rfl : a = e := by simpa using he
                exact ha
      | succ j => exact posI_lt (l := l) (j := j) (by omega) (by simpa using he)
    · omega
theorem ixG_pw : ∀ {l : List Entr} {p : Option Entr}, ixG p l = true → (∀ q, p = some q → ∀ e ∈ l, ltS q.key e.key = true) ∧ l.Pairwise (fun a b => ltS a.key b.key = true) ∧ ∀ e ∈ l, entR e = true
  | [], _, _ => ⟨fun _ _ => by simp, .nil, by simp⟩
  | e :: l, p, h => by
    simp only [ixG, Bool.and_eq_true] at h
    obtain ⟨h1, h2, h3⟩ := h
    obtain ⟨g1, g2, g3⟩ := ixG_pw h3
    have g1 := g1 e rfl
    refine ⟨?_, List.pairwise_cons.2 ⟨g1, g2⟩, fun x hx => ?_⟩
    · rintro q rfl x hx
      simp only at h2
      rcases List.mem_cons.1 hx with rfl | hx
      · exact h2
      · have := g1 x hx
        rw [ltS_iff] at h2 this ⊢
        exact lt_tr (by omega) this
    · rcases List.mem_cons.1 hx with rfl | hx
      · exact h1
      · exact g3 x hx
theorem ixG_iff : ∀ {l : List Entr}, ixG none l = true ↔ l.Pairwise (fun a b => ltS a.key b.key = true) ∧ ∀ e ∈ l, entR e = true := by
  intro l
  refine ⟨fun h => (ixG_pw h).2, fun ⟨h1, h2⟩ => ?_⟩
  suffices ∀ (l : List Entr) (p : Option Entr), l.Pairwise (fun a b => ltS a.key b.key = true) → (∀ e ∈ l, entR e = true) → (∀ q, p = some q → ∀ e ∈ l, ltS q.key e.key = true) → ixG p l = true from this l none h1 h2 (fun _ h => by simp at h)
  intro l
  induction l with
  | nil => intros; rfl
  | cons e l ih =>
    intro p h1 h2 h3
    obtain ⟨g1, g2⟩ := List.pairwise_cons.1 h1
    simp only [ixG, Bool.and_eq_true]
    refine ⟨h2 e (by simp), ?_, ih (some e) g2 (fun x hx => h2 x (by simp [hx])) (fun q hq x hx => by obtain rfl : e = q := by simpa using hq
                                                                                                      exact g1 x hx)⟩
    cases p with
    | none => rfl
    | some q => exact h3 q rfl e (by simp)
theorem ixR_iff {l : List Entr} : ixR l = true ↔ l.length ≤ 64 ∧ l.Pairwise (fun a b => ltS a.key b.key = true) ∧ ∀ e ∈ l, entR e = true := by
  simp only [ixR, Bool.and_eq_true, decide_eq_true_eq, ixG_iff]
theorem entR_iff {e : Entr} : entR e = true ↔ keyR e.key = true ∧ e.chain ≠ [] ∧ chainRight e.chain = true := by simp [entR]
theorem chain_len {c : List Ver} (h : chainRight c = true) : c.length ≤ 64 := by simp only [chainRight, Bool.and_eq_true, decide_eq_true_eq] at h; exact h.2
theorem ixR_sm {l : List Entr} (h : ixR l = true) : Sm l := by
  rw [ixR_iff] at h
  refine ⟨by omega, fun e he => ?_⟩
  obtain ⟨h1, -, h2⟩ := entR_iff.1 (h.2.2 e he)
  have := chain_len h2
  have := keyR_len h1
  omega
theorem posI_ge {k : List UInt8} : ∀ {l : List Entr} {p : Option Entr} {j : Nat} {e : Entr}, ixG p l = true → posI k l ≤ j → l[j]? = some e → ltS e.key k = false
  | [], _, _, _, _, _, he => by simp at he
  | a :: l, p, j, e, h, hj, he => by
    have hp := ixG_pw h
    simp only [ixG, Bool.and_eq_true] at h
    simp only [posI] at hj
    split at hj
    · rename_i ha
      cases j with
      | zero => omega
      | succ j => exact posI_ge (l := l) (j := j) h.2.2 (by omega) (by simpa using he)
    · rename_i ha
      have ha : ltS a.key k = false := by simpa using ha
      cases j with
      | zero => obtain rfl : a = e := by simpa using he
                exact ha
      | succ j =>
        have := (List.pairwise_cons.1 hp.2.1).1 e (List.mem_of_getElem? (by simpa using he))
        simp only [ltS, decide_eq_true_eq, decide_eq_false_iff_not] at this ha ⊢
        exact fun h => ha (lt_tr (by omega) h)
def H226 (Pg : Nat → Option Fn) : Prop := Pg 226 = some (.code F226) ∧ H192 Pg
theorem K226 (h : H226 Pg) (e : Entr) (k : List UInt8) : K' Pg 226 [.agg (eEnt e), .str k] = some (iz (cmpL (lets e.key) (lets k))) := by
  obtain ⟨h, h192⟩ := h
  have k192 := K192 h192 e.key k
  refine K'_code h rfl ?_
  simp only [go_sem, k192]
def H225 (Pg : Nat → Option Fn) : Prop := Pg 225 = some (.code F225)
theorem K225 (h : H225 Pg) (l : List Entr) (s : List UInt8) (g : Nat) (f : Nat → Int) (n : Nat) (hl : l.length < 2 ^ 60)
    (hg : ∀ i v, l[i]? = some v → K' Pg g [.agg (eEnt v), .str s] = some (iz (f i))) (hn : n ≤ l.length) (h1 : ∀ j, j < n → f j < 0) (h2 : ∀ j, n ≤ j → j < l.length → 0 ≤ f j) :
    K' Pg 225 [eEnts l, .str s, .func g []] = some (.tuple [iz n, .bool (decide (n < l.length) && decide (f n = 0))]) := by
  refine K'_code h rfl ?_
  simp only [eEnt, eChain] at hg
  simp only [go_sem]
  unfold l225_0
  refine wp_lp (fun (p : Nat × Nat) S => p.1 ≤ n ∧ n ≤ p.2 ∧ p.2 ≤ l.length ∧ S.ρ 0 = eEnts l ∧ S.ρ 1 = .str s ∧ S.ρ 2 = .func g [] ∧ S.ρ 8 = iz l.length ∧ S.ρ 9 = iz p.1 ∧ S.ρ 10 = iz p.2) (fun p => p.2 - p.1) (0, l.length) ?_ ?_
  · simp [go_sem, hn]
  · intro ⟨i, j⟩ S ⟨hi, hj, hjl, h0, hs, h2', h8, h9, h10⟩
    simp only at hi hj hjl h9 h10
    simp only [go_sem, h0, hs, h2', h8, h9, h10]
    refine wpc_i (fun h => ?_) (fun h => ?_)
    · simp only [decide_eq_true_eq, Int.ofNat_lt] at h
      have e1 : IntKind.i64.wrap ((i : Int) + j) = (i : Int) + j := wrap64 (by omega) (by omega)
      have e2 : IntKind.u64.wrap ((i : Int) + j) = (i : Int) + j := _root_.Go.IntWalk.u64_in _ ⟨by omega, by omega⟩
      have e3 : Int.fdiv ((i : Int) + j) 2 = (((i + j) / 2 : Nat) : Int) := by
        rw [Int.fdiv_eq_ediv_of_nonneg _ (by omega)]; omega
      have e4 : IntKind.i64.wrap ((((i + j) / 2 : Nat) : Int)) = (((i + j) / 2 : Nat) : Int) := wrap64 (by omega) (by omega)
      have e5 : IntKind.i64.wrap ((((i + j) / 2 : Nat) : Int) + 1) = (((i + j) / 2 + 1 : Nat) : Int) := wrap64 (by omega) (by omega)
      obtain ⟨x, hx, hd⟩ := drop_at (l := l) (i := (i + j) / 2) (by omega)
      have hgx := hg _ _ hx
      simp only [go_sem, h0, hs, h2', h8, h9, h10, e1, e2, e3, e4, hx, hgx, eChain]
      refine wpc_i (fun hc => ?_) (fun hc => ?_)
      · simp only [go_sem, h0, hs, h2', h8, h9, h10, e5]
        have hf : f ((i + j) / 2) < 0 := by simpa using hc
        refine ⟨((i + j) / 2 + 1, j), by simp only; omega, ?_, hj, hjl, rfl, rfl⟩
        simp only
        rcases Nat.lt_or_ge ((i + j) / 2) n with h' | h'
        · exact h'
        · have := h2 _ h' (by omega); omega
      · simp only [go_sem, h0, hs, h2', h8, h9, h10]
        have hf : ¬ f ((i + j) / 2) < 0 := by simpa using hc
        refine ⟨(i, (i + j) / 2), by simp only; omega, hi, ?_, by simp only; omega, rfl, rfl⟩
        simp only
        rcases Nat.lt_or_ge ((i + j) / 2) n with h' | h'
        · exact absurd (h1 _ h') hf
        · exact h'
    · simp only [decide_eq_false_iff_not, Int.ofNat_lt] at h
      have : i = n := by omega
      subst this
      simp only [go_sem, h0, hs, h2', h8, h9]
      refine wrg_it (fun hc => ?_) (fun hc => ?_)
      · simp only [decide_eq_true_eq, Int.ofNat_lt] at hc
        obtain ⟨x, hx, hd⟩ := drop_at hc
        have hgx := hg _ _ hx
        simp only [go_sem, h0, hs, h2', h8, h9, h10, hx, hgx, eChain, hc, decide_true, Int.ofNat_lt]
      · simp only [decide_eq_false_iff_not, Int.ofNat_lt] at hc
        simp only [go_sem, h0, hs, h2', h8, h9, h10, hc, decide_false, Int.ofNat_lt]
def thereI (k : List UInt8) (l : List Entr) : Bool := match l[posI k l]? with
  | none => false
  | some e => decide (cmpL (lets e.key) (lets k) = 0)
def H220 (Pg : Nat → Option Fn) : Prop := Pg 220 = some (.code F220) ∧ H225 Pg ∧ H226 Pg
theorem K220 (h : H220 Pg) (l : List Entr) (k : List UInt8) (hr : ixR l = true) : K' Pg 220 [eEnts l, .str k] = some (.tuple [iz (posI k l), .bool (thereI k l)]) := by
  obtain ⟨h, h225, h226⟩ := h
  have hl := (ixR_sm hr).len
  have hg : ixG none l = true := by simp only [ixR, Bool.and_eq_true] at hr; exact hr.2
  have k225 := K225 h225 l k 226 (fun i => match l[i]? with | none => 0 | some e => cmpL (lets e.key) (lets k)) (posI k l) (by omega) (fun i v hv => by
    simp only [hv]; exact K226 h226 v k) (posI_le l) (fun j hj => by
    obtain ⟨x, hx, -⟩ := drop_at (Nat.lt_of_lt_of_le hj (posI_le l))
    simp only [hx]; exact ltS_iff.1 (posI_lt hj hx)) (fun j hj hjl => by
    obtain ⟨x, hx, -⟩ := drop_at hjl
    simp only [hx]
    have := posI_ge hg hj hx
    simp only [ltS, decide_eq_false_iff_not] at this; omega)
  have e : (decide (posI k l < l.length) && decide ((match l[posI k l]? with | none => 0 | some e => cmpL (lets e.key) (lets k)) = 0)) = thereI k l := by
    unfold thereI
    cases hx : l[posI k l]? with
    | none =>
      have : ¬ posI k l < l.length := by have := List.getElem?_eq_none_iff.1 hx; omega
      simp [this]
    | some x => have := (List.getElem?_eq_some_iff.1 hx).1; simp [this]
  rw [e] at k225
  simp only [eEnts] at k225
  refine K'_code h rfl ?_
  simp only [go_sem, k225]
end Sg
