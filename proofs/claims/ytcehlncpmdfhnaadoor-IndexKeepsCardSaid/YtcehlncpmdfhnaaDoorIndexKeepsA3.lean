/- IndexKeeps, at every input: proved over a checked abstract run of the translated code; no condition. A part. -/
import Derived.Test.YtcehlncpmdfhnaaDoorChecked
import Derived.Lib.LaidU8
import Derived.Lib.OthersKept
import Derived.Laws.RangeAny
import Derived.WalkKit
import Derived.BigCall
import Derived.Test.YtcehlncpmdfhnaaDoorCards
import Derived.Test.YtcehlncpmdfhnaaDoorTie
import Derived.ProofKit
import Derived.OpenShut
import Derived.Lib.LaidIn
import Derived.Lib.LaidTab
import Derived.Deep.DeepHandedRow
import Derived.Deep.DeepWitnessRowRef
import Derived.Test.YtcehlncpmdfhnaaDoorRows
import Derived.Test.YtcehlncpmdfhnaaDoorG2
namespace Sg
def look {α : Type} : List (Nat × α) → Nat → Option α
  | [], _ => none
  | (k, a) :: l, n => if k = n then some a else look l n
def cxOf (l : List (Nat × Nat)) : Cx where
  fm := fun n => (look l n).getD 0
  tm := fun n => n
def okTab (P : Go.Program) (cx : Cx) (tab : List (Nat × Fn)) : List (Nat × Fn) → Bool
  | [] => true
  | (k, .code F) :: l => okF P cx (look tab) (cx.fm k) F && okTab P cx tab l
  | (_, .prim ..) :: l => okTab P cx tab l
theorem look_mem {α : Type} : ∀ {l : List (Nat × α)} {n : Nat} {a : α}, look l n = some a → (n, a) ∈ l
  | (k, b) :: l, n, a, h => by
    simp only [look] at h
    split at h
    · rename_i e; subst e; simp only [Option.some.injEq] at h; subst h; exact List.mem_cons_self
    · exact List.mem_cons_of_mem _ (look_mem h)
  | [], n, a, h => by simp [look] at h
theorem okTab_spec {P : Go.Program} {cx : Cx} {tab : List (Nat × Fn)} : ∀ {l : List (Nat × Fn)}, okTab P cx tab l = true → ∀ k F, (k, Fn.code F) ∈ l → okF P cx (look tab) (cx.fm k) F = true
  | (k', .code F') :: l, h, k, F, hm => by
    simp only [okTab, Bool.and_eq_true] at h
    simp only [List.mem_cons, Prod.mk.injEq, Fn.code.injEq] at hm
    rcases hm with ⟨rfl, rfl⟩ | hm
    · exact h.1
    · exact okTab_spec h.2 k F hm
  | (k', .prim o p) :: l, h, k, F, hm => by
    simp only [okTab] at h
    simp only [List.mem_cons, Prod.mk.injEq, reduceCtorEq, and_false, false_or] at hm
    exact okTab_spec h k F hm
  | [], h, k, F, hm => by simp at hm
theorem tab_code {P : Go.Program} {cx : Cx} {tab : List (Nat × Fn)} (h : okTab P cx tab tab = true) : ∀ f F, look tab f = some (.code F) → okF P cx (look tab) (cx.fm f) F = true :=
  fun f F hf => okTab_spec h f F (look_mem hf)
end Sg
namespace Sg
open _root_.Go (IntKind BinOp UnOp)
def r191_0 : List Op := [t_ 4 <|.mov (cb false)]
def r191_1 : List Op := [f_ 5 <|.mov (.g 0),f_ 6 <|.bin .geq (.l 0) (.c (.int .i32 33)),f_ 7 <|.mov (.l 1),y_ 8 2 <|.mov (.g 0),y_ 9 2 <|.bin .lss (.l 3) (.c (.int .i32 127)),y_ 10 2 <|.mov (.l 4),n_ 11 5 <|.mov (.g 0),n_ 12 5 <|.bin .gtr (.l 6) (.c (.int .i32 159)),y_ 13 2 <|.pick (.l 5) (cb true) (.l 7),f_ 14 <|.pick (.l 2) (.l 8) (cb false),f_ 15 <|.mov (.l 9),y_ 16 10 <|.mov (.g 0),y_ 17 10 <|.bin .neq (.l 11) (.c (.int .i32 65533)),y_ 18 10 <|.mov (.l 12),n_ 19 13 <|.mov (.g 1),n_ 20 13 <|.bin .eql (.l 14) (ci 3),y_ 21 10 <|.pick (.l 13) (cb true) (.l 15),f_ 22 <|.pick (.l 10) (.l 16) (cb false),t_ 4 <|.mov (.l 17)]
def c191 : C := .seq (.region false r191_0) (.seq (.region false r191_1) (.ret))
def F191 : F := ⟨2, [0, 1, 4], [.t 4], none, c191⟩
attribute [go_sem] r191_0 r191_1 c191 F191
def r192_0 : List Op := [t_ 4 <|.mov (ci 0)]
def r192_1 : List Op := [f_ 9 <|.mov (.g 0),f_ 10 <|.bin .neq (.l 0) (.c (.str [])),f_ 11 <|.mov (.l 1),y_ 12 2 <|.mov (.g 1),y_ 13 2 <|.bin .neq (.l 3) (.c (.str [])),t_ 14 <|.pick (.l 2) (.l 4) (cb false)]
def r192_2 : List Op := [f_ 16 <|.mov (.g 0),f_ 17 <|.call (.k 190) .no none [.l 0],f_ 15 <|.mov (.l 1),f_ 18 <|.ext (.l 2) 0,f_ 19 <|.ext (.l 2) 1,t_ 5 <|.mov (.l 3),t_ 6 <|.mov (.l 4)]
def r192_3 : List Op := [f_ 21 <|.mov (.g 1),f_ 22 <|.call (.k 190) .no none [.l 0],f_ 20 <|.mov (.l 1),f_ 23 <|.ext (.l 2) 0,f_ 24 <|.ext (.l 2) 1,t_ 7 <|.mov (.l 3),t_ 8 <|.mov (.l 4)]
def r192_4 : List Op := [f_ 26 <|.mov (.g 5),f_ 27 <|.mov (.g 7),f_ 28 <|.bin .lss (.l 0) (.l 1),t_ 25 <|.mov (.l 2)]
def r192_5 : List Op := [t_ 4 <|.mov (ci (-1))]
def r192_6 : List Op := [f_ 30 <|.mov (.g 5),f_ 31 <|.mov (.g 7),f_ 32 <|.bin .gtr (.l 0) (.l 1),t_ 29 <|.mov (.l 2)]
def r192_7 : List Op := [t_ 4 <|.mov (ci 1)]
def r192_8 : List Op := [f_ 33 <|.mov (.g 0),f_ 34 <|.mov (.g 6),f_ 35 <|.sl true 0 (.l 0) (some (.l 1)) none,f_ 36 <|.mov (.g 1),f_ 37 <|.mov (.g 8),f_ 38 <|.sl true 0 (.l 3) (some (.l 4)) none,t_ 0 <|.mov (.l 2),t_ 1 <|.mov (.l 5)]
def b192_0 : C := .seq (.seq (.region false r192_1) (.cond (.g 14) (.skip) (.exit 0))) (.block 1 (.seq (.region false r192_2) (.seq (.region false r192_3) (.seq (.block 2 (.seq (.region false r192_4) (.cond (.g 25) (.seq (.region false r192_5) (.ret)) (.seq (.region false r192_6) (.cond (.g 29) (.seq (.region false r192_7) (.ret)) (.skip)))))) (.region true r192_8)))))
def l192_0 : C := .loop [] [] [] [] b192_0
def r192_9 : List Op := [f_ 40 <|.mov (.g 0),f_ 41 <|.bin .neq (.l 0) (.c (.str [])),t_ 39 <|.mov (.l 1)]
def r192_10 : List Op := [t_ 4 <|.mov (ci 1)]
def r192_11 : List Op := [f_ 43 <|.mov (.g 1),f_ 44 <|.bin .neq (.l 0) (.c (.str [])),t_ 42 <|.mov (.l 1)]
def r192_12 : List Op := [t_ 4 <|.mov (ci (-1))]
def r192_13 : List Op := [t_ 4 <|.mov (ci 0)]
def c192 : C := .seq (.region false r192_0) (.seq (.block 0 (l192_0)) (.seq (.block 3 (.seq (.region false r192_9) (.cond (.g 39) (.seq (.region false r192_10) (.ret)) (.seq (.region false r192_11) (.cond (.g 42) (.seq (.region false r192_12) (.ret)) (.skip)))))) (.seq (.region false r192_13) (.ret))))
def F192 : F := ⟨2, [0, 1, 4, 5, 6, 7, 8, 14, 25, 29, 39, 42], [.t 4], none, c192⟩
attribute [go_sem] r192_0 r192_1 r192_2 r192_3 r192_4 r192_5 r192_6 r192_7 r192_8 b192_0 r192_9 r192_10 r192_11 r192_12 r192_13 c192 F192
end Sg
namespace Sg
open _root_.Go (IntKind BinOp UnOp)
def r3_0 : List Op := [t_ 3 <|.box (.g 1),t_ 4 <|.mov (.c (.slice 5 [])),t_ 5 <|.mov (ci 0)]
def r3_1 : List Op := [f_ 7 <|.mov (.g 0),f_ 8 <|.call (.k 7) .no none [.l 0],f_ 9 <|.un .not (.l 1),f_ 10 <|.mov (.l 2),n_ 11 3 <|.load (.v 3) (some 5) (.g 3),n_ 12 3 <|.call (.k 22) .no none [.l 4],n_ 13 3 <|.un .not (.l 5),f_ 14 <|.pick (.l 3) (cb true) (.l 6),t_ 6 <|.mov (.l 7)]
def r3_2 : List Op := [t_ 4 <|.mov (.c (.slice 5 [])),t_ 5 <|.mov (ci 1)]
def r3_3 : List Op := [f_ 16 <|.mov (.g 0),f_ 17 <|.len false (.l 0),f_ 18 <|.bin .gtr (.l 1) (ci 0),f_ 19 <|.mov (.l 2),y_ 20 3 <|.mov (.g 0),y_ 21 3 <|.mov (.g 0),y_ 22 3 <|.len false (.l 5),y_ 23 3 <|.bin .sub (.l 6) (ci 1),y_ 24 3 <|.iad 5 (.l 4) (.l 7),y_ 25 3 <|.fad (.l 8) 0,y_ 26 3 <|.load (.c) (some 3) (.l 9),y_ 27 3 <|.fad (.g 3) 0,y_ 28 3 <|.load (.v 3) (some 3) (.l 11),y_ 29 3 <|.call (.k 15) .no none [.l 10, .l 12],y_ 30 3 <|.bin .geq (.l 13) (ci 0),f_ 31 <|.pick (.l 3) (.l 14) (cb false),t_ 15 <|.mov (.l 15)]
def r3_4 : List Op := [t_ 4 <|.mov (.c (.slice 5 [])),t_ 5 <|.mov (ci 9)]
def r3_5 : List Op := [f_ 33 <|.mov (.g 0),f_ 34 <|.len false (.l 0),f_ 35 <|.bin .eql (.l 1) (ci 64),t_ 32 <|.mov (.l 2)]
def r3_6 : List Op := [t_ 4 <|.mov (.c (.slice 5 [])),t_ 5 <|.mov (ci 6)]
def r3_7 : List Op := [f_ 36 <|.mov (.g 0),f_ 37 <|.call (.k 23) .no (some 0) [.l 0],f_ 38 <|.load (.v 3) (some 5) (.g 3),f_ 39 <|.mks 5 1 [.int .i64 0, .int .i64 0, .int .i64 0, .bool false, .str []] [(0, .l 2)],f_ 40 <|.app 37 5 (.l 1) (.l 3),t_ 4 <|.mov (.l 4),t_ 5 <|.mov (ci 0)]
def c3 : C := .seq (.region false r3_0) (.seq (.block 0 (.seq (.region false r3_1) (.cond (.g 6) (.seq (.region false r3_2) (.ret)) (.seq (.region true r3_3) (.cond (.g 15) (.seq (.region false r3_4) (.ret)) (.seq (.region false r3_5) (.cond (.g 32) (.seq (.region false r3_6) (.ret)) (.skip)))))))) (.seq (.region true r3_7) (.ret)))
def F3 : F := ⟨2, [0, 1, 3, 4, 5, 6, 15, 32], [.t 4, .t 5], none, c3⟩
attribute [go_sem] r3_0 r3_1 r3_2 r3_3 r3_4 r3_5 r3_6 r3_7 c3 F3
def r7_0 : List Op := [t_ 2 <|.mov (cb false)]
def r7_1 : List Op := [t_ 5 <|.mov (.g 0),t_ 6 <|.len false (.l 0),t_ 7 <|.mov (ci 0)]
def r7_2 : List Op := [t_ 8 <|.bin .lss (.g 7) (.g 6)]
def r7_3 : List Op := [f_ 9 <|.mov (.g 7),f_ 10 <|.iad 5 (.g 5) (.g 7),f_ 11 <|.load (.c) (some 5) (.l 1),t_ 4 <|.alloc [.int .i64 0, .int .i64 0, .int .i64 0, .bool false, .str []],t_ 3 <|.mov (.l 0),u_ <|.store (.v 4) 5 (.l 3) (.l 2)]
def r7_4 : List Op := [f_ 12 <|.load (.v 4) (some 5) (.g 4),f_ 13 <|.call (.k 22) .no none [.l 0],f_ 14 <|.un .not (.l 1),f_ 15 <|.mov (.l 2),n_ 16 3 <|.mov (.g 3),n_ 17 3 <|.bin .gtr (.l 4) (ci 0),n_ 18 3 <|.mov (.l 5),y_ 19 6 <|.mov (.g 0),y_ 20 6 <|.mov (.g 3),y_ 21 6 <|.bin .sub (.l 8) (ci 1),y_ 22 6 <|.iad 5 (.l 7) (.l 9),y_ 23 6 <|.fad (.l 10) 0,y_ 24 6 <|.load (.c) (some 3) (.l 11),y_ 25 6 <|.fad (.g 4) 0,y_ 26 6 <|.load (.v 4) (some 3) (.l 13),y_ 27 6 <|.call (.k 15) .no none [.l 12, .l 14],y_ 28 6 <|.bin .geq (.l 15) (ci 0),n_ 29 3 <|.pick (.l 6) (.l 16) (cb false),t_ 30 <|.pick (.l 3) (cb true) (.l 17)]
def r7_5 : List Op := [t_ 2 <|.mov (cb false)]
def r7_6 : List Op := [f_ 31 <|.bin .add (.g 7) (ci 1),t_ 7 <|.mov (.l 0)]
def b7_0 : C := .seq (.region false r7_2) (.seq (.cond (.g 8) (.skip) (.exit 0)) (.seq (.block 1 (.seq (.region false r7_3) (.seq (.region true r7_4) (.cond (.g 30) (.seq (.region false r7_5) (.ret)) (.skip))))) (.region false r7_6)))
def l7_0 : C := .loop [] [] [4] [] b7_0
def r7_7 : List Op := [f_ 32 <|.mov (.g 0),f_ 33 <|.len false (.l 0),f_ 34 <|.bin .leq (.l 1) (ci 64),t_ 2 <|.mov (.l 2)]
def c7 : C := .seq (.region false r7_0) (.seq (.seq (.region false r7_1) (.block 0 (l7_0))) (.seq (.region false r7_7) (.ret)))
def F7 : F := ⟨1, [0, 2, 3, 4, 5, 6, 7, 8, 30], [.t 2], none, c7⟩
attribute [go_sem] r7_0 r7_1 r7_2 r7_3 r7_4 r7_5 r7_6 b7_0 r7_7 c7 F7
def r10_0 : List Op := [t_ 3 <|.box (.g 1),t_ 4 <|.alloc [.int .i64 0, .int .i64 0, .int .i64 0, .bool false, .str []],t_ 5 <|.mov (cb false)]
def r10_1 : List Op := [f_ 7 <|.mov (.g 0),f_ 8 <|.call (.k 7) .no none [.l 0],t_ 9 <|.un .not (.l 1)]
def r10_2 : List Op := [f_ 10 <|.build [.int .i64 0, .int .i64 0, .int .i64 0, .bool false, .str []] [],u_ <|.store (.v 4) 5 (.g 4) (.l 0),t_ 5 <|.mov (cb false)]
def r10_3 : List Op := [f_ 11 <|.mov (.g 0),f_ 12 <|.load (.v 3) (some 3) (.g 3),f_ 13 <|.call (.k 25) .no none [.l 0, .l 1],t_ 6 <|.mov (.l 2)]
def r10_4 : List Op := [f_ 14 <|.mov (.g 6),t_ 15 <|.bin .eql (.l 0) (ci 0)]
def r10_5 : List Op := [f_ 16 <|.build [.int .i64 0, .int .i64 0, .int .i64 0, .bool false, .str []] [],u_ <|.store (.v 4) 5 (.g 4) (.l 0),t_ 5 <|.mov (cb false)]
def r10_6 : List Op := [f_ 17 <|.mov (.g 0),f_ 18 <|.mov (.g 6),f_ 19 <|.bin .sub (.l 1) (ci 1),f_ 20 <|.iad 5 (.l 0) (.l 2),f_ 21 <|.load (.c) (some 5) (.l 3),u_ <|.store (.v 4) 5 (.g 4) (.l 4),t_ 5 <|.mov (cb true)]
def c10 : C := .seq (.region false r10_0) (.seq (.seq (.region false r10_1) (.cond (.g 9) (.seq (.region false r10_2) (.ret)) (.skip))) (.seq (.region false r10_3) (.seq (.seq (.region false r10_4) (.cond (.g 15) (.seq (.region false r10_5) (.ret)) (.skip))) (.seq (.region false r10_6) (.ret)))))
def F10 : F := ⟨2, [0, 1, 3, 4, 5, 6, 9, 15], [.cell 4 (some 5), .t 5], none, c10⟩
attribute [go_sem] r10_0 r10_1 r10_2 r10_3 r10_4 r10_5 r10_6 c10 F10
def r12_0 : List Op := [t_ 3 <|.box (.g 1),t_ 4 <|.mov (.c (.str [])),t_ 5 <|.mov (cb false)]
def r12_1 : List Op := [f_ 9 <|.mov (.g 0),f_ 10 <|.load (.v 3) (some 3) (.g 3),f_ 11 <|.call (.k 10) .no none [.l 0, .l 1],f_ 8 <|.mov (.l 2),f_ 12 <|.ext (.l 3) 0,f_ 13 <|.ext (.l 3) 1,t_ 6 <|.alloc [.int .i64 0, .int .i64 0, .int .i64 0, .bool false, .str []],u_ <|.store (.v 6) 5 (.l 6) (.l 4),t_ 7 <|.mov (.l 5)]
def r12_2 : List Op := [f_ 14 <|.fad (.g 6) 4,f_ 15 <|.load (.v 6) none (.l 0),f_ 16 <|.mov (.g 7),f_ 17 <|.mov (.l 2),y_ 18 3 <|.fad (.g 6) 3,y_ 19 3 <|.load (.v 6) none (.l 4),y_ 20 3 <|.un .not (.l 5),f_ 21 <|.pick (.l 3) (.l 6) (cb false),t_ 4 <|.mov (.l 1),t_ 5 <|.mov (.l 7)]
def c12 : C := .seq (.region false r12_0) (.seq (.region false r12_1) (.seq (.region true r12_2) (.ret)))
def F12 : F := ⟨2, [0, 1, 3, 4, 5, 6, 7], [.t 4, .t 5], none, c12⟩
attribute [go_sem] r12_0 r12_1 r12_2 c12 F12
def r15_0 : List Op := [t_ 2 <|.box (.g 0),t_ 3 <|.box (.g 1),t_ 4 <|.mov (ci 0)]
def r15_1 : List Op := [f_ 5 <|.fad (.g 2) 0,f_ 6 <|.load (.v 2) none (.l 0),f_ 7 <|.fad (.g 3) 0,f_ 8 <|.load (.v 3) none (.l 2),f_ 9 <|.call (.k 26) .no none [.l 1, .l 3],f_ 10 <|.fad (.g 2) 1,f_ 11 <|.load (.v 2) none (.l 5),f_ 12 <|.fad (.g 3) 1,f_ 13 <|.load (.v 3) none (.l 7),f_ 14 <|.call (.k 26) .no none [.l 6, .l 8],f_ 15 <|.fad (.g 2) 2,f_ 16 <|.load (.v 2) none (.l 10),f_ 17 <|.fad (.g 3) 2,f_ 18 <|.load (.v 3) none (.l 12),f_ 19 <|.call (.k 26) .no none [.l 11, .l 13],f_ 20 <|.mks 1 3 [.int .i64 0] [(0, .l 4), (1, .l 9), (2, .l 14)],f_ 21 <|.call (.k 27) .no none [.l 15],t_ 4 <|.mov (.l 16)]
def c15 : C := .seq (.region false r15_0) (.seq (.region true r15_1) (.ret))
def F15 : F := ⟨2, [0, 1, 2, 3, 4], [.t 4], none, c15⟩
attribute [go_sem] r15_0 r15_1 c15 F15
def r17_0 : List Op := [t_ 3 <|.box (.g 1),t_ 4 <|.mov (.c (.slice 5 []))]
def r17_1 : List Op := [f_ 6 <|.mov (.g 0),f_ 7 <|.call (.k 7) .no none [.l 0],t_ 8 <|.un .not (.l 1)]
def r17_2 : List Op := [t_ 4 <|.mov (.c (.slice 5 []))]
def r17_3 : List Op := [f_ 9 <|.mov (.g 0),f_ 10 <|.load (.v 3) (some 3) (.g 3),f_ 11 <|.call (.k 25) .no none [.l 0, .l 1],t_ 5 <|.mov (.l 2)]
def r17_4 : List Op := [f_ 12 <|.mov (.g 5),f_ 13 <|.bin .gtr (.l 0) (ci 0),f_ 14 <|.mov (.l 1),y_ 15 2 <|.mov (.g 0),y_ 16 2 <|.mov (.g 5),y_ 17 2 <|.bin .sub (.l 4) (ci 1),y_ 18 2 <|.iad 5 (.l 3) (.l 5),y_ 19 2 <|.fad (.l 6) 3,y_ 20 2 <|.load (.c) none (.l 7),y_ 21 2 <|.un .not (.l 8),t_ 22 <|.pick (.l 2) (.l 9) (cb false)]
def r17_5 : List Op := [f_ 23 <|.mov (.g 5),f_ 24 <|.bin .sub (.l 0) (ci 1),t_ 5 <|.mov (.l 1)]
def r17_6 : List Op := [f_ 25 <|.mov (.g 0),f_ 26 <|.mov (.g 5),f_ 27 <|.sl false 5 (.l 0) (some (.l 1)) none,f_ 28 <|.call (.k 23) .no none [.l 2],t_ 4 <|.mov (.l 3)]
def c17 : C := .seq (.region false r17_0) (.seq (.seq (.region false r17_1) (.cond (.g 8) (.seq (.region false r17_2) (.ret)) (.skip))) (.seq (.region false r17_3) (.seq (.seq (.region false r17_4) (.cond (.g 22) (.region false r17_5) (.skip))) (.seq (.region false r17_6) (.ret)))))
def F17 : F := ⟨2, [0, 1, 3, 4, 5, 8, 22], [.t 4], none, c17⟩
attribute [go_sem] r17_0 r17_1 r17_2 r17_3 r17_4 r17_5 r17_6 c17 F17
def r22_0 : List Op := [t_ 1 <|.box (.g 0),t_ 2 <|.mov (cb false)]
def r22_1 : List Op := [f_ 3 <|.fad (.g 1) 0,f_ 4 <|.load (.v 1) (some 3) (.l 0),f_ 5 <|.call (.k 28) .no none [.l 1],f_ 6 <|.mov (.l 2),y_ 7 3 <|.fad (.g 1) 4,y_ 8 3 <|.load (.v 1) none (.l 4),y_ 9 3 <|.len true (.l 5),y_ 10 3 <|.bin .leq (.l 6) (ci 16),f_ 11 <|.pick (.l 3) (.l 7) (cb false),f_ 12 <|.mov (.l 8),y_ 13 9 <|.fad (.g 1) 3,y_ 14 9 <|.load (.v 1) none (.l 10),y_ 15 9 <|.un .not (.l 11),y_ 16 9 <|.mov (.l 12),n_ 17 13 <|.fad (.g 1) 4,n_ 18 13 <|.load (.v 1) none (.l 14),n_ 19 13 <|.bin .eql (.l 15) (.c (.str [])),y_ 20 9 <|.pick (.l 13) (cb true) (.l 16),f_ 21 <|.pick (.l 9) (.l 17) (cb false),t_ 2 <|.mov (.l 18)]
def c22 : C := .seq (.region false r22_0) (.seq (.region false r22_1) (.ret))
def F22 : F := ⟨1, [0, 1, 2], [.t 2], none, c22⟩
attribute [go_sem] r22_0 r22_1 c22 F22
def r25_0 : List Op := [t_ 3 <|.box (.g 1),t_ 4 <|.mov (ci 0)]
def r25_1 : List Op := [f_ 8 <|.mov (.g 0),f_ 9 <|.load (.v 3) (some 3) (.g 3),f_ 10 <|.call (.k 29) .no none [.l 0, .l 1, .f 30],f_ 7 <|.mov (.l 2),f_ 11 <|.ext (.l 3) 0,f_ 12 <|.ext (.l 3) 1,t_ 5 <|.mov (.l 4),t_ 6 <|.mov (.l 5)]
def r25_2 : List Op := [t_ 13 <|.mov (.g 6)]
def r25_3 : List Op := [f_ 14 <|.mov (.g 5),f_ 15 <|.bin .add (.l 0) (ci 1),t_ 5 <|.mov (.l 1)]
def r25_4 : List Op := [f_ 16 <|.mov (.g 5),t_ 4 <|.mov (.l 0)]
def c25 : C := .seq (.region false r25_0) (.seq (.region false r25_1) (.seq (.seq (.region false r25_2) (.cond (.g 13) (.region false r25_3) (.skip))) (.seq (.region false r25_4) (.ret))))
def F25 : F := ⟨2, [0, 1, 3, 4, 5, 6, 13], [.t 4], none, c25⟩
attribute [go_sem] r25_0 r25_1 r25_2 r25_3 r25_4 c25 F25
def r26_0 : List Op := [t_ 4 <|.mov (ci 0)]
def r26_1 : List Op := [f_ 7 <|.mov (.g 0),f_ 8 <|.call (.k 31) .no none [.l 0],t_ 5 <|.mov (.l 1)]
def r26_2 : List Op := [f_ 9 <|.mov (.g 1),f_ 10 <|.call (.k 31) .no none [.l 0],t_ 6 <|.mov (.l 1)]
def r26_3 : List Op := [t_ 11 <|.mov (.g 5)]
def r26_4 : List Op := [t_ 12 <|.mov (.g 6)]
def r26_5 : List Op := [t_ 4 <|.mov (ci 0)]
def r26_6 : List Op := [t_ 4 <|.mov (ci (-1))]
def r26_7 : List Op := [t_ 13 <|.mov (.g 6)]
def r26_8 : List Op := [t_ 4 <|.mov (ci 1)]
def r26_9 : List Op := [f_ 14 <|.mov (.g 0),f_ 15 <|.mov (.g 1),t_ 16 <|.bin .lss (.l 0) (.l 1)]
def r26_10 : List Op := [t_ 4 <|.mov (ci (-1))]
def r26_11 : List Op := [f_ 17 <|.mov (.g 0),f_ 18 <|.mov (.g 1),t_ 19 <|.bin .gtr (.l 0) (.l 1)]
def r26_12 : List Op := [t_ 4 <|.mov (ci 1)]
def r26_13 : List Op := [t_ 4 <|.mov (ci 0)]
def c26 : C := .seq (.region false r26_0) (.seq (.region false r26_1) (.seq (.region false r26_2) (.seq (.seq (.region false r26_3) (.cond (.g 11) (.seq (.seq (.region false r26_4) (.cond (.g 12) (.seq (.region false r26_5) (.ret)) (.skip))) (.seq (.region false r26_6) (.ret))) (.skip))) (.seq (.seq (.region false r26_7) (.cond (.g 13) (.seq (.region false r26_8) (.ret)) (.skip))) (.seq (.seq (.region false r26_9) (.cond (.g 16) (.seq (.region false r26_10) (.ret)) (.skip))) (.seq (.seq (.region false r26_11) (.cond (.g 19) (.seq (.region false r26_12) (.ret)) (.skip))) (.seq (.region false r26_13) (.ret))))))))
def F26 : F := ⟨2, [0, 1, 4, 5, 6, 11, 12, 13, 16, 19], [.t 4], none, c26⟩
attribute [go_sem] r26_0 r26_1 r26_2 r26_3 r26_4 r26_5 r26_6 r26_7 r26_8 r26_9 r26_10 r26_11 r26_12 r26_13 c26 F26
def r27_0 : List Op := [t_ 2 <|.mov (ci 0)]
def r27_1 : List Op := [t_ 3 <|.mov (ci 0)]
def r27_2 : List Op := [t_ 6 <|.mov (.g 0),t_ 7 <|.len false (.l 0),t_ 8 <|.mov (ci 0)]
def r27_3 : List Op := [t_ 9 <|.bin .lss (.g 8) (.g 7)]
def r27_4 : List Op := [f_ 10 <|.iad 1 (.g 6) (.g 8),f_ 11 <|.load (.c) none (.l 0),t_ 5 <|.mov (.l 1)]
def r27_5 : List Op := [f_ 12 <|.mov (.g 5),f_ 13 <|.mov (.g 3),t_ 14 <|.bin .neq (.l 0) (.l 1)]
def r27_6 : List Op := [f_ 15 <|.mov (.g 5),t_ 2 <|.mov (.l 0)]
def r27_7 : List Op := [f_ 16 <|.bin .add (.g 8) (ci 1),t_ 8 <|.mov (.l 0)]
def b27_0 : C := .seq (.region false r27_3) (.seq (.cond (.g 9) (.skip) (.exit 0)) (.seq (.block 1 (.seq (.region false r27_4) (.seq (.region false r27_5) (.cond (.g 14) (.seq (.region false r27_6) (.ret)) (.skip))))) (.region false r27_7)))
def l27_0 : C := .loop [] [] [] [] b27_0
def r27_8 : List Op := [f_ 17 <|.mov (.g 3),t_ 2 <|.mov (.l 0)]
def c27 : C := .seq (.region false r27_0) (.seq (.region false r27_1) (.seq (.seq (.region false r27_2) (.block 0 (l27_0))) (.seq (.region false r27_8) (.ret))))
def F27 : F := ⟨1, [0, 2, 3, 5, 6, 7, 8, 9, 14], [.t 2], none, c27⟩
attribute [go_sem] r27_0 r27_1 r27_2 r27_3 r27_4 r27_5 r27_6 r27_7 b27_0 r27_8 c27 F27
def r28_0 : List Op := [t_ 1 <|.box (.g 0),t_ 2 <|.mov (cb false)]
def r28_1 : List Op := [f_ 3 <|.fad (.g 1) 0,f_ 4 <|.load (.v 1) none (.l 0),f_ 5 <|.call (.k 32) .no none [.l 1, .c (.int .i64 1099511627776)],f_ 6 <|.mov (.l 2),y_ 7 3 <|.fad (.g 1) 1,y_ 8 3 <|.load (.v 1) none (.l 4),y_ 9 3 <|.call (.k 32) .no none [.l 5, .c (.int .i64 1048576)],f_ 10 <|.pick (.l 3) (.l 6) (cb false),f_ 11 <|.mov (.l 7),y_ 12 8 <|.fad (.g 1) 2,y_ 13 8 <|.load (.v 1) none (.l 9),y_ 14 8 <|.call (.k 32) .no none [.l 10, .c (.int .i64 255)],f_ 15 <|.pick (.l 8) (.l 11) (cb false),t_ 2 <|.mov (.l 12)]
def c28 : C := .seq (.region false r28_0) (.seq (.region false r28_1) (.ret))
def F28 : F := ⟨1, [0, 1, 2], [.t 2], none, c28⟩
attribute [go_sem] r28_0 r28_1 c28 F28
def r29_0 : List Op := [t_ 4 <|.box (.g 1),t_ 6 <|.mov (ci 0),t_ 7 <|.mov (cb false)]
def r29_1 : List Op := [f_ 12 <|.mov (.g 0),f_ 13 <|.len false (.l 0),t_ 8 <|.mov (.l 1)]
def r29_2 : List Op := [f_ 14 <|.mov (.g 8),t_ 9 <|.mov (ci 0),t_ 10 <|.mov (.l 0)]
def r29_3 : List Op := [f_ 15 <|.mov (.g 9),f_ 16 <|.mov (.g 10),t_ 17 <|.bin .lss (.l 0) (.l 1)]
def r29_4 : List Op := [f_ 18 <|.mov (.g 9),f_ 19 <|.mov (.g 10),f_ 20 <|.bin .add (.l 0) (.l 1),f_ 21 <|.conv (.int .u64) (.l 2),f_ 22 <|.sh .shr (.l 3) (.c (.int .u64 1)),f_ 23 <|.conv (.int .i64) (.l 4),t_ 11 <|.mov (.l 5)]
def r29_5 : List Op := [f_ 24 <|.mov (.g 2),f_ 25 <|.mov (.g 0),f_ 26 <|.mov (.g 11),f_ 27 <|.iad 5 (.l 1) (.l 2),f_ 28 <|.load (.c) (some 5) (.l 3),f_ 29 <|.load (.v 4) (some 3) (.g 4),f_ 30 <|.call (.v (.l 0)) .no none [.l 4, .l 5],t_ 31 <|.bin .lss (.l 6) (ci 0)]
def r29_6 : List Op := [f_ 32 <|.mov (.g 11),f_ 33 <|.bin .add (.l 0) (ci 1),t_ 9 <|.mov (.l 1)]
def r29_7 : List Op := [f_ 34 <|.mov (.g 11),t_ 10 <|.mov (.l 0)]
def b29_0 : C := .seq (.seq (.region false r29_3) (.cond (.g 17) (.skip) (.exit 0))) (.block 1 (.seq (.region false r29_4) (.seq (.region true r29_5) (.cond (.g 31) (.region false r29_6) (.region false r29_7)))))
def l29_0 : C := .loop [] [] [] [] b29_0
def r29_8 : List Op := [f_ 35 <|.mov (.g 9),f_ 36 <|.mov (.g 9),f_ 37 <|.mov (.g 8),f_ 38 <|.bin .lss (.l 1) (.l 2),f_ 39 <|.mov (.l 3),y_ 40 4 <|.mov (.g 2),y_ 41 4 <|.mov (.g 0),y_ 42 4 <|.mov (.g 9),y_ 43 4 <|.iad 5 (.l 6) (.l 7),y_ 44 4 <|.load (.c) (some 5) (.l 8),y_ 45 4 <|.load (.v 4) (some 3) (.g 4),y_ 46 4 <|.call (.v (.l 5)) .no none [.l 9, .l 10],y_ 47 4 <|.bin .eql (.l 11) (ci 0),f_ 48 <|.pick (.l 4) (.l 12) (cb false),t_ 6 <|.mov (.l 0),t_ 7 <|.mov (.l 13)]
def c29 : C := .seq (.region false r29_0) (.seq (.region false r29_1) (.seq (.region false r29_2) (.seq (.block 0 (l29_0)) (.seq (.region true r29_8) (.ret)))))
def F29 : F := ⟨3, [0, 1, 2, 4, 6, 7, 8, 9, 10, 11, 17, 31], [.t 6, .t 7], none, c29⟩
attribute [go_sem] r29_0 r29_1 r29_2 r29_3 r29_4 r29_5 r29_6 r29_7 b29_0 r29_8 c29 F29
def r30_0 : List Op := [t_ 2 <|.box (.g 0),t_ 3 <|.box (.g 1),t_ 4 <|.mov (ci 0)]
def r30_1 : List Op := [f_ 5 <|.fad (.g 2) 0,f_ 6 <|.load (.v 2) (some 3) (.l 0),f_ 7 <|.load (.v 3) (some 3) (.g 3),f_ 8 <|.call (.k 15) .no none [.l 1, .l 2],t_ 4 <|.mov (.l 3)]
def c30 : C := .seq (.region false r30_0) (.seq (.region false r30_1) (.ret))
def F30 : F := ⟨2, [0, 1, 2, 3, 4], [.t 4], none, c30⟩
attribute [go_sem] r30_0 r30_1 c30 F30
def r31_0 : List Op := [t_ 2 <|.mov (cb false)]
def r31_1 : List Op := [f_ 3 <|.mov (.g 0),f_ 4 <|.mov (.g 0),f_ 5 <|.bin .neq (.l 0) (.l 1),t_ 2 <|.mov (.l 2)]
def c31 : C := .seq (.region false r31_0) (.seq (.region false r31_1) (.ret))
def F31 : F := ⟨1, [0, 2], [.t 2], none, c31⟩
attribute [go_sem] r31_0 r31_1 c31 F31
def r32_0 : List Op := [t_ 4 <|.mov (cb false)]
def r32_1 : List Op := [f_ 5 <|.mov (.g 0),f_ 6 <|.bin .geq (.l 0) (ci 0),f_ 7 <|.mov (.l 1),y_ 8 2 <|.mov (.g 0),y_ 9 2 <|.mov (.g 1),y_ 10 2 <|.bin .leq (.l 3) (.l 4),f_ 11 <|.pick (.l 2) (.l 5) (cb false),t_ 4 <|.mov (.l 6)]
def c32 : C := .seq (.region false r32_0) (.seq (.region false r32_1) (.ret))
def F32 : F := ⟨2, [0, 1, 4], [.t 4], none, c32⟩
attribute [go_sem] r32_0 r32_1 c32 F32
end Sg
namespace Sg
open _root_.Go (IntKind BinOp UnOp)
def r219_0 : List Op := [t_ 6 <|.box (.g 1),t_ 7 <|.box (.g 2),t_ 10 <|.mov (cb false)]
def r219_1 : List Op := [f_ 17 <|.mov (.g 0),f_ 18 <|.call (.k 198) .no none [.l 0],f_ 19 <|.un .not (.l 1),f_ 20 <|.mov (.l 2),n_ 21 3 <|.mov (.g 3),n_ 22 3 <|.len true (.l 4),n_ 23 3 <|.bin .gtr (.l 5) (ci 100),f_ 24 <|.pick (.l 3) (cb true) (.l 6),f_ 25 <|.mov (.l 7),n_ 26 8 <|.mov (.g 4),n_ 27 8 <|.len true (.l 9),n_ 28 8 <|.bin .gtr (.l 10) (ci 100),f_ 29 <|.pick (.l 8) (cb true) (.l 11),f_ 30 <|.mov (.l 12),n_ 31 13 <|.mov (.g 0),n_ 32 13 <|.call (.k 203) .no none [.l 14],n_ 33 13 <|.un .not (.l 15),f_ 34 <|.pick (.l 13) (cb true) (.l 16),f_ 35 <|.mov (.l 17),n_ 36 18 <|.load (.v 7) (some 3) (.g 7),n_ 37 18 <|.load (.v 6) (some 3) (.g 6),n_ 38 18 <|.call (.k 15) .no none [.l 19, .l 20],n_ 39 18 <|.bin .lss (.l 21) (ci 0),t_ 40 <|.pick (.l 18) (cb true) (.l 22)]
def r219_2 : List Op := [f_ 41 <|.call (.k 199) .no none [],t_ 10 <|.mov (.l 0)]
def r219_3 : List Op := [f_ 43 <|.mov (.g 0),f_ 44 <|.mov (.g 3),f_ 45 <|.mov (.g 4),f_ 46 <|.load (.v 7) (some 3) (.g 7),f_ 47 <|.call (.k 206) .no none [.l 0, .l 1, .l 2, .l 3, .c (.int .i64 1000)],f_ 42 <|.mov (.l 4),f_ 48 <|.ext (.l 5) 0,f_ 49 <|.ext (.l 5) 1,f_ 50 <|.ext (.l 5) 2,t_ 11 <|.mov (.l 6),f_ 12 <|.mov (.l 7),f_ 13 <|.mov (.l 8)]
def r219_4 : List Op := [f_ 52 <|.mov (.g 0),f_ 53 <|.load (.v 6) (some 3) (.g 6),f_ 54 <|.call (.k 217) .no none [.l 0, .l 1],f_ 55 <|.mov (.g 3),f_ 56 <|.mov (.g 4),f_ 57 <|.load (.v 7) (some 3) (.g 7),f_ 58 <|.call (.k 206) .no none [.l 2, .l 3, .l 4, .l 5, .c (.int .i64 1000)],f_ 51 <|.mov (.l 6),f_ 59 <|.ext (.l 7) 0,f_ 60 <|.ext (.l 7) 1,f_ 61 <|.ext (.l 7) 2,t_ 14 <|.mov (.l 8),f_ 15 <|.mov (.l 9),f_ 16 <|.mov (.l 10)]
def r219_5 : List Op := [f_ 62 <|.mov (.g 11),f_ 63 <|.mov (.g 14),f_ 64 <|.call (.k 208) .no none [.l 0, .l 1],f_ 65 <|.mov (.l 2),y_ 66 3 <|.call (.k 199) .no none [],f_ 67 <|.pick (.l 3) (.l 4) (cb false),t_ 10 <|.mov (.l 5)]
def c219 : C := .seq (.region false r219_0) (.seq (.seq (.region false r219_1) (.cond (.g 40) (.seq (.region false r219_2) (.ret)) (.skip))) (.seq (.region false r219_3) (.seq (.region true r219_4) (.seq (.region false r219_5) (.ret)))))
def F219 : F := ⟨5, [0, 1, 2, 3, 4, 6, 7, 10, 11, 14, 40], [.t 10], none, c219⟩
attribute [go_sem] r219_0 r219_1 r219_2 r219_3 r219_4 r219_5 c219 F219
def r198_0 : List Op := [t_ 2 <|.mov (cb false)]
def r198_1 : List Op := [f_ 4 <|.mov (.g 0),f_ 5 <|.len false (.l 0),t_ 6 <|.bin .gtr (.l 1) (ci 80)]
def r198_2 : List Op := [t_ 2 <|.mov (cb false)]
def r198_3 : List Op := [t_ 3 <|.mov (ci 0)]
def r198_4 : List Op := [f_ 7 <|.mov (.g 3),f_ 8 <|.mov (.g 0),f_ 9 <|.len false (.l 1),t_ 10 <|.bin .lss (.l 0) (.l 2)]
def r198_5 : List Op := [f_ 13 <|.mov (.g 0),f_ 14 <|.mov (.g 3),f_ 15 <|.iad 2 (.l 0) (.l 1),f_ 16 <|.fad (.l 2) 1,f_ 17 <|.load (.c) none (.l 3),f_ 18 <|.len false (.l 4),f_ 19 <|.bin .gtr (.l 5) (ci 80),f_ 20 <|.mov (.l 6),n_ 21 7 <|.mov (.g 0),n_ 22 7 <|.mov (.g 3),n_ 23 7 <|.iad 2 (.l 8) (.l 9),n_ 24 7 <|.fad (.l 10) 0,n_ 25 7 <|.load (.c) none (.l 11),n_ 26 7 <|.len true (.l 12),n_ 27 7 <|.bin .gtr (.l 13) (ci 100),t_ 28 <|.pick (.l 7) (cb true) (.l 14)]
def r198_6 : List Op := [t_ 2 <|.mov (cb false)]
def r198_7 : List Op := [f_ 11 <|.mov (.g 3),f_ 12 <|.bin .add (.l 0) (ci 1),t_ 3 <|.mov (.l 1)]
def b198_0 : C := .seq (.seq (.region false r198_4) (.cond (.g 10) (.skip) (.exit 0))) (.seq (.block 1 (.seq (.region false r198_5) (.cond (.g 28) (.seq (.region false r198_6) (.ret)) (.skip)))) (.region false r198_7))
def l198_0 : C := .loop [] [] [] [] b198_0
def r198_8 : List Op := [t_ 2 <|.mov (cb true)]
def c198 : C := .seq (.region false r198_0) (.seq (.seq (.region false r198_1) (.cond (.g 6) (.seq (.region false r198_2) (.ret)) (.skip))) (.seq (.seq (.region false r198_3) (.block 0 (l198_0))) (.seq (.region false r198_8) (.ret))))
def F198 : F := ⟨1, [0, 2, 3, 6, 10, 28], [.t 2], none, c198⟩
attribute [go_sem] r198_0 r198_1 r198_2 r198_3 r198_4 r198_5 r198_6 r198_7 b198_0 r198_8 c198 F198
def r199_0 : List Op := [t_ 0 <|.mov (cb false)]
def r199_1 : List Op := [f_ 7 <|.build [.int .i64 0, .int .i64 0, .int .i64 0] [(0, 1, .c (.int .i64 1))],f_ 8 <|.build [.int .i64 0, .int .i64 0, .int .i64 0, .bool false, .str []] [(0, 3, .l 0), (4, 1, .c (.str [120]))],f_ 9 <|.call (.k 200) .no none [.c (.slice 2 []), .c (.str [97]), .l 1],f_ 6 <|.mov (.l 2),f_ 10 <|.ext (.l 3) 0,f_ 11 <|.ext (.l 3) 1,t_ 1 <|.mov (.l 4),t_ 2 <|.mov (.l 5)]
def r199_2 : List Op := [f_ 13 <|.mov (.g 1),f_ 14 <|.build [.int .i64 0, .int .i64 0, .int .i64 0] [(0, 1, .c (.int .i64 2))],f_ 15 <|.call (.k 206) .no none [.l 0, .c (.str []), .c (.str []), .l 1, .c (.int .i64 5)],f_ 12 <|.mov (.l 2),f_ 16 <|.ext (.l 3) 0,f_ 17 <|.ext (.l 3) 1,f_ 18 <|.ext (.l 3) 2,t_ 3 <|.mov (.l 4),t_ 4 <|.mov (.l 5),t_ 5 <|.mov (.l 6)]
def r199_3 : List Op := [f_ 19 <|.mov (.g 1),f_ 20 <|.len false (.l 0),f_ 21 <|.bin .eql (.l 1) (ci 1),f_ 22 <|.mov (.l 2),y_ 23 3 <|.mov (.g 2),y_ 24 3 <|.bin .eql (.l 4) (ci 0),f_ 25 <|.pick (.l 3) (.l 5) (cb false),f_ 26 <|.mov (.l 6),y_ 27 7 <|.mov (.g 3),y_ 28 7 <|.len false (.l 8),y_ 29 7 <|.bin .eql (.l 9) (ci 1),f_ 30 <|.pick (.l 7) (.l 10) (cb false),f_ 31 <|.mov (.l 11),y_ 32 12 <|.mov (.g 3),y_ 33 12 <|.iad 2 (.l 13) (ci 0),y_ 34 12 <|.load (.c) (some 2) (.l 14),y_ 35 12 <|.build [.str [], .str []] [(0, 1, .c (.str [97])), (1, 1, .c (.str [120]))],y_ 36 12 <|.eqa false [.s, .s] (.l 15) (.l 16),f_ 37 <|.pick (.l 12) (.l 17) (cb false),f_ 38 <|.mov (.l 18),y_ 39 19 <|.mov (.g 4),y_ 40 19 <|.bin .eql (.l 20) (.c (.str [])),f_ 41 <|.pick (.l 19) (.l 21) (cb false),f_ 42 <|.mov (.l 22),y_ 43 23 <|.mov (.g 5),y_ 44 23 <|.un .not (.l 24),f_ 45 <|.pick (.l 23) (.l 25) (cb false),t_ 0 <|.mov (.l 26)]
def c199 : C := .seq (.region false r199_0) (.seq (.region false r199_1) (.seq (.region false r199_2) (.seq (.region false r199_3) (.ret))))
def F199 : F := ⟨0, [0, 1, 2, 3, 4, 5], [.t 0], none, c199⟩
attribute [go_sem] r199_0 r199_1 r199_2 r199_3 c199 F199
def r200_0 : List Op := [t_ 5 <|.box (.g 2),t_ 6 <|.mov (.c (.slice 2 [])),t_ 7 <|.mov (ci 0)]
def r200_1 : List Op := [f_ 14 <|.mov (.g 0),f_ 15 <|.call (.k 203) .no none [.l 0],f_ 16 <|.un .not (.l 1),f_ 17 <|.mov (.l 2),n_ 18 3 <|.mov (.g 1),n_ 19 3 <|.call (.k 170) .no none [.l 4],n_ 20 3 <|.un .not (.l 5),t_ 21 <|.pick (.l 3) (cb true) (.l 6)]
def r200_2 : List Op := [t_ 6 <|.mov (.c (.slice 2 [])),t_ 7 <|.mov (ci 1)]
def r200_3 : List Op := [f_ 23 <|.mov (.g 0),f_ 24 <|.mov (.g 1),f_ 25 <|.call (.k 220) .no none [.l 0, .l 1],f_ 22 <|.mov (.l 2),f_ 26 <|.ext (.l 3) 0,f_ 27 <|.ext (.l 3) 1,t_ 8 <|.mov (.l 4),t_ 9 <|.mov (.l 5)]
def r200_4 : List Op := [t_ 10 <|.mov (.c (.slice 5 []))]
def r200_5 : List Op := [t_ 28 <|.mov (.g 9)]
def r200_6 : List Op := [f_ 29 <|.mov (.g 0),f_ 30 <|.mov (.g 8),f_ 31 <|.iad 2 (.l 0) (.l 1),f_ 32 <|.fad (.l 2) 1,f_ 33 <|.load (.c) none (.l 3),t_ 10 <|.mov (.l 4)]
def r200_7 : List Op := [f_ 35 <|.mov (.g 10),f_ 36 <|.load (.v 5) (some 5) (.g 5),f_ 37 <|.call (.k 3) .no none [.l 0, .l 1],f_ 34 <|.mov (.l 2),f_ 38 <|.ext (.l 3) 0,f_ 39 <|.ext (.l 3) 1,t_ 11 <|.mov (.l 4),t_ 12 <|.mov (.l 5)]
def r200_8 : List Op := [f_ 41 <|.mov (.g 12),f_ 42 <|.bin .neq (.l 0) (ci 0),t_ 40 <|.mov (.l 1)]
def r200_9 : List Op := [f_ 43 <|.mov (.g 12),t_ 6 <|.mov (.c (.slice 2 [])),t_ 7 <|.mov (.l 0)]
def r200_10 : List Op := [f_ 45 <|.mov (.g 9),f_ 46 <|.un .not (.l 0),f_ 47 <|.mov (.l 1),y_ 48 2 <|.mov (.g 0),y_ 49 2 <|.len false (.l 3),y_ 50 2 <|.bin .eql (.l 4) (ci 64),f_ 51 <|.pick (.l 2) (.l 5) (cb false),t_ 44 <|.mov (.l 6)]
def r200_11 : List Op := [t_ 6 <|.mov (.c (.slice 2 [])),t_ 7 <|.mov (ci 6)]
def r200_12 : List Op := [f_ 52 <|.mov (.g 0),f_ 53 <|.call (.k 221) .no (some 0) [.l 0],t_ 13 <|.mov (.l 1)]
def r200_13 : List Op := [f_ 54 <|.mov (.g 9),t_ 55 <|.un .not (.l 0)]
def r200_14 : List Op := [f_ 56 <|.mov (.g 13),f_ 57 <|.mov (.g 8),f_ 58 <|.mov (.g 1),f_ 59 <|.build [.str [], .slice 5 []] [(0, 1, .l 2)],f_ 60 <|.mks 2 1 [.str [], .slice 5 []] [(0, .l 3)],f_ 61 <|.ins 222 53 2 (.l 0) (.l 1) (.l 4),t_ 13 <|.mov (.l 5)]
def r200_15 : List Op := [f_ 62 <|.mov (.g 13),f_ 63 <|.mov (.g 8),f_ 64 <|.mov (.g 11),f_ 65 <|.iad 2 (.l 0) (.l 1),f_ 66 <|.fad (.l 3) 1,u_ <|.store (.e 53) 1 (.l 4) (.l 2)]
def r200_16 : List Op := [f_ 67 <|.mov (.g 13),t_ 6 <|.mov (.l 0),t_ 7 <|.mov (ci 0)]
def c200 : C := .seq (.region false r200_0) (.seq (.seq (.region false r200_1) (.cond (.g 21) (.seq (.region false r200_2) (.ret)) (.skip))) (.seq (.region false r200_3) (.seq (.region false r200_4) (.seq (.seq (.region false r200_5) (.cond (.g 28) (.region false r200_6) (.skip))) (.seq (.region false r200_7) (.seq (.block 0 (.seq (.region false r200_8) (.cond (.g 40) (.seq (.region false r200_9) (.ret)) (.seq (.region false r200_10) (.cond (.g 44) (.seq (.region false r200_11) (.ret)) (.skip)))))) (.seq (.region false r200_12) (.seq (.seq (.region false r200_13) (.cond (.g 55) (.region false r200_14) (.skip))) (.seq (.region false r200_15) (.seq (.region false r200_16) (.ret)))))))))))
def F200 : F := ⟨3, [0, 1, 2, 5, 6, 7, 8, 9, 10, 11, 12, 13, 21, 28, 40, 44, 55], [.t 6, .t 7], none, c200⟩
attribute [go_sem] r200_0 r200_1 r200_2 r200_3 r200_4 r200_5 r200_6 r200_7 r200_8 r200_9 r200_10 r200_11 r200_12 r200_13 r200_14 r200_15 r200_16 c200 F200
def r203_0 : List Op := [t_ 2 <|.mov (cb false)]
def r203_1 : List Op := [t_ 5 <|.mov (.g 0),t_ 6 <|.len false (.l 0),t_ 7 <|.mov (ci 0)]
def r203_2 : List Op := [t_ 8 <|.bin .lss (.g 7) (.g 6)]
def r203_3 : List Op := [f_ 9 <|.mov (.g 7),f_ 10 <|.iad 2 (.g 5) (.g 7),f_ 11 <|.load (.c) (some 2) (.l 1),t_ 4 <|.alloc [.str [], .slice 5 []],t_ 3 <|.mov (.l 0),u_ <|.store (.v 4) 2 (.l 3) (.l 2)]
def r203_4 : List Op := [f_ 12 <|.fad (.g 4) 0,f_ 13 <|.load (.v 4) none (.l 0),f_ 14 <|.call (.k 170) .no none [.l 1],f_ 15 <|.un .not (.l 2),f_ 16 <|.mov (.l 3),n_ 17 4 <|.fad (.g 4) 1,n_ 18 4 <|.load (.v 4) none (.l 5),n_ 19 4 <|.call (.k 7) .no none [.l 6],n_ 20 4 <|.un .not (.l 7),f_ 21 <|.pick (.l 4) (cb true) (.l 8),f_ 22 <|.mov (.l 9),n_ 23 10 <|.fad (.g 4) 1,n_ 24 10 <|.load (.v 4) none (.l 11),n_ 25 10 <|.len false (.l 12),n_ 26 10 <|.bin .eql (.l 13) (ci 0),f_ 27 <|.pick (.l 10) (cb true) (.l 14),f_ 28 <|.mov (.l 15),n_ 29 16 <|.mov (.g 3),n_ 30 16 <|.bin .gtr (.l 17) (ci 0),n_ 31 16 <|.mov (.l 18),y_ 32 19 <|.mov (.g 0),y_ 33 19 <|.mov (.g 3),y_ 34 19 <|.bin .sub (.l 21) (ci 1),y_ 35 19 <|.iad 2 (.l 20) (.l 22),y_ 36 19 <|.fad (.l 23) 0,y_ 37 19 <|.load (.c) none (.l 24),y_ 38 19 <|.fad (.g 4) 0,y_ 39 19 <|.load (.v 4) none (.l 26),y_ 40 19 <|.call (.k 192) .no none [.l 25, .l 27],y_ 41 19 <|.bin .geq (.l 28) (ci 0),n_ 42 16 <|.pick (.l 19) (.l 29) (cb false),t_ 43 <|.pick (.l 16) (cb true) (.l 30)]
def r203_5 : List Op := [t_ 2 <|.mov (cb false)]
def r203_6 : List Op := [f_ 44 <|.bin .add (.g 7) (ci 1),t_ 7 <|.mov (.l 0)]
def b203_0 : C := .seq (.region false r203_2) (.seq (.cond (.g 8) (.skip) (.exit 0)) (.seq (.block 1 (.seq (.region false r203_3) (.seq (.region true r203_4) (.cond (.g 43) (.seq (.region false r203_5) (.ret)) (.skip))))) (.region false r203_6)))
def l203_0 : C := .loop [] [] [4] [] b203_0
def r203_7 : List Op := [f_ 45 <|.mov (.g 0),f_ 46 <|.len false (.l 0),f_ 47 <|.bin .leq (.l 1) (ci 64),t_ 2 <|.mov (.l 2)]
def c203 : C := .seq (.region false r203_0) (.seq (.seq (.region false r203_1) (.block 0 (l203_0))) (.seq (.region false r203_7) (.ret)))
def F203 : F := ⟨1, [0, 2, 3, 4, 5, 6, 7, 8, 43], [.t 2], none, c203⟩
attribute [go_sem] r203_0 r203_1 r203_2 r203_3 r203_4 r203_5 r203_6 b203_0 r203_7 c203 F203
def r206_0 : List Op := [t_ 8 <|.box (.g 3),t_ 10 <|.mov (.c (.slice 2 [])),t_ 11 <|.mov (.c (.str [])),t_ 12 <|.mov (cb false)]
def r206_1 : List Op := [f_ 20 <|.mov (.g 0),f_ 21 <|.call (.k 203) .no none [.l 0],t_ 22 <|.un .not (.l 1)]
def r206_2 : List Op := [t_ 10 <|.mov (.c (.slice 2 [])),t_ 11 <|.mov (.c (.str [])),t_ 12 <|.mov (cb false)]
def r206_3 : List Op := [t_ 13 <|.mko 2]
def r206_4 : List Op := [f_ 24 <|.mov (.g 0),f_ 25 <|.mov (.g 1),f_ 26 <|.call (.k 220) .no none [.l 0, .l 1],f_ 23 <|.mov (.l 2),f_ 27 <|.ext (.l 3) 0,f_ 28 <|.ext (.l 3) 1,t_ 14 <|.mov (.l 4),f_ 15 <|.mov (.l 5)]
def r206_5 : List Op := [f_ 29 <|.mov (.g 0),f_ 30 <|.mov (.g 14),t_ 31 <|.sl false 2 (.l 0) (some (.l 1)) none,t_ 32 <|.len false (.l 2),t_ 33 <|.mov (ci 0)]
def r206_6 : List Op := [t_ 34 <|.bin .lss (.g 33) (.g 32)]
def r206_7 : List Op := [f_ 35 <|.iad 2 (.g 31) (.g 33),f_ 36 <|.load (.c) (some 2) (.l 0),t_ 17 <|.alloc [.str [], .slice 5 []],u_ <|.store (.v 17) 2 (.l 2) (.l 1)]
def r206_8 : List Op := [f_ 37 <|.mov (.g 2),f_ 38 <|.bin .neq (.l 0) (.c (.str [])),f_ 39 <|.mov (.l 1),y_ 40 2 <|.fad (.g 17) 0,y_ 41 2 <|.load (.v 17) none (.l 3),y_ 42 2 <|.mov (.g 2),y_ 43 2 <|.call (.k 192) .no none [.l 4, .l 5],y_ 44 2 <|.bin .geq (.l 6) (ci 0),t_ 45 <|.pick (.l 2) (.l 7) (cb false)]
def r206_9 : List Op := [f_ 47 <|.fad (.g 17) 1,f_ 48 <|.load (.v 17) none (.l 0),f_ 49 <|.load (.v 8) (some 3) (.g 8),f_ 50 <|.call (.k 12) .no none [.l 1, .l 2],f_ 46 <|.mov (.l 3),f_ 51 <|.ext (.l 4) 0,f_ 52 <|.ext (.l 4) 1,t_ 18 <|.mov (.l 5),t_ 19 <|.mov (.l 6)]
def r206_10 : List Op := [f_ 53 <|.mov (.g 19),t_ 54 <|.un .not (.l 0)]
def r206_11 : List Op := [f_ 55 <|.mov (.g 13),f_ 56 <|.len false (.l 0),f_ 57 <|.mov (.g 4),t_ 58 <|.bin .geq (.l 1) (.l 2)]
def r206_12 : List Op := [f_ 59 <|.mov (.g 13),f_ 60 <|.fad (.g 17) 0,f_ 61 <|.load (.v 17) none (.l 1),t_ 10 <|.mov (.l 0),t_ 11 <|.mov (.l 2),t_ 12 <|.mov (cb true)]
def r206_13 : List Op := [f_ 62 <|.mov (.g 13),f_ 63 <|.fad (.g 17) 0,f_ 64 <|.load (.v 17) none (.l 1),f_ 65 <|.mov (.g 18),f_ 66 <|.build [.str [], .str []] [(0, 1, .l 2), (1, 1, .l 3)],f_ 67 <|.mks 2 1 [.str [], .str []] [(0, .l 4)],f_ 68 <|.app 13 2 (.l 0) (.l 5),t_ 13 <|.mov (.l 6)]
def r206_14 : List Op := [f_ 69 <|.bin .add (.g 33) (ci 1),t_ 33 <|.mov (.l 0)]
def b206_0 : C := .seq (.region false r206_6) (.seq (.cond (.g 34) (.skip) (.exit 0)) (.seq (.block 1 (.seq (.region false r206_7) (.seq (.seq (.region false r206_8) (.cond (.g 45) (.exit 0) (.skip))) (.seq (.region false r206_9) (.seq (.seq (.region false r206_10) (.cond (.g 54) (.exit 1) (.skip))) (.seq (.seq (.region false r206_11) (.cond (.g 58) (.seq (.region true r206_12) (.ret)) (.skip))) (.region false r206_13))))))) (.region false r206_14)))
def l206_0 : C := .loop [] [] [17] [] b206_0
def r206_15 : List Op := [f_ 70 <|.mov (.g 13),t_ 10 <|.mov (.l 0),t_ 11 <|.mov (.c (.str [])),t_ 12 <|.mov (cb false)]
def c206 : C := .seq (.region false r206_0) (.seq (.seq (.region false r206_1) (.cond (.g 22) (.seq (.region false r206_2) (.ret)) (.skip))) (.seq (.region false r206_3) (.seq (.region false r206_4) (.seq (.seq (.region false r206_5) (.block 0 (l206_0))) (.seq (.region false r206_15) (.ret))))))
def F206 : F := ⟨5, [0, 1, 2, 3, 4, 8, 10, 11, 12, 13, 14, 17, 18, 19, 22, 31, 32, 33, 34, 45, 54, 58], [.t 10, .t 11, .t 12], none, c206⟩
attribute [go_sem] r206_0 r206_1 r206_2 r206_3 r206_4 r206_5 r206_6 r206_7 r206_8 r206_9 r206_10 r206_11 r206_12 r206_13 r206_14 b206_0 r206_15 c206 F206
def r208_0 : List Op := [t_ 4 <|.mov (cb false)]
def r208_1 : List Op := [f_ 6 <|.mov (.g 0),f_ 7 <|.len false (.l 0),f_ 8 <|.mov (.g 1),f_ 9 <|.len false (.l 2),t_ 10 <|.bin .neq (.l 1) (.l 3)]
def r208_2 : List Op := [t_ 4 <|.mov (cb false)]
def r208_3 : List Op := [t_ 5 <|.mov (ci 0)]
def r208_4 : List Op := [f_ 11 <|.mov (.g 5),f_ 12 <|.mov (.g 0),f_ 13 <|.len false (.l 1),t_ 14 <|.bin .lss (.l 0) (.l 2)]
def r208_5 : List Op := [f_ 17 <|.mov (.g 0),f_ 18 <|.mov (.g 5),f_ 19 <|.iad 2 (.l 0) (.l 1),f_ 20 <|.load (.c) (some 2) (.l 2),f_ 21 <|.mov (.g 1),f_ 22 <|.mov (.g 5),f_ 23 <|.iad 2 (.l 4) (.l 5),f_ 24 <|.load (.c) (some 2) (.l 6),t_ 25 <|.eqa true [.s, .s] (.l 3) (.l 7)]
def r208_6 : List Op := [t_ 4 <|.mov (cb false)]
def r208_7 : List Op := [f_ 15 <|.mov (.g 5),f_ 16 <|.bin .add (.l 0) (ci 1),t_ 5 <|.mov (.l 1)]
def b208_0 : C := .seq (.seq (.region false r208_4) (.cond (.g 14) (.skip) (.exit 0))) (.seq (.block 1 (.seq (.region true r208_5) (.cond (.g 25) (.seq (.region false r208_6) (.ret)) (.skip)))) (.region false r208_7))
def l208_0 : C := .loop [] [] [] [] b208_0
def r208_8 : List Op := [t_ 4 <|.mov (cb true)]
def c208 : C := .seq (.region false r208_0) (.seq (.seq (.region false r208_1) (.cond (.g 10) (.seq (.region false r208_2) (.ret)) (.skip))) (.seq (.seq (.region false r208_3) (.block 0 (l208_0))) (.seq (.region false r208_8) (.ret))))
def F208 : F := ⟨2, [0, 1, 4, 5, 10, 14, 25], [.t 4], none, c208⟩
attribute [go_sem] r208_0 r208_1 r208_2 r208_3 r208_4 r208_5 r208_6 r208_7 b208_0 r208_8 c208 F208
def r217_0 : List Op := [t_ 3 <|.box (.g 1),t_ 4 <|.mov (.c (.slice 2 []))]
def r217_1 : List Op := [f_ 9 <|.mov (.g 0),f_ 10 <|.call (.k 203) .no none [.l 0],t_ 11 <|.un .not (.l 1)]
def r217_2 : List Op := [t_ 4 <|.mov (.c (.slice 2 []))]
def r217_3 : List Op := [t_ 5 <|.mko 2]
def r217_4 : List Op := [t_ 12 <|.mov (.g 0),t_ 13 <|.len false (.l 0),t_ 14 <|.mov (ci 0)]
def r217_5 : List Op := [t_ 15 <|.bin .lss (.g 14) (.g 13)]
def r217_6 : List Op := [f_ 16 <|.iad 2 (.g 12) (.g 14),f_ 17 <|.load (.c) (some 2) (.l 0),t_ 7 <|.alloc [.str [], .slice 5 []],u_ <|.store (.v 7) 2 (.l 2) (.l 1)]
def r217_7 : List Op := [f_ 18 <|.fad (.g 7) 1,f_ 19 <|.load (.v 7) none (.l 0),f_ 20 <|.load (.v 3) (some 3) (.g 3),f_ 21 <|.call (.k 17) .no none [.l 1, .l 2],t_ 8 <|.mov (.l 3)]
def r217_8 : List Op := [f_ 22 <|.mov (.g 8),f_ 23 <|.len false (.l 0),t_ 24 <|.bin .gtr (.l 1) (ci 0)]
def r217_9 : List Op := [f_ 25 <|.mov (.g 5),f_ 26 <|.fad (.g 7) 0,f_ 27 <|.load (.v 7) none (.l 1),f_ 28 <|.mov (.g 8),f_ 29 <|.build [.str [], .slice 5 []] [(0, 1, .l 2), (1, 1, .l 3)],f_ 30 <|.mks 2 1 [.str [], .slice 5 []] [(0, .l 4)],f_ 31 <|.app 5 2 (.l 0) (.l 5),t_ 5 <|.mov (.l 6)]
def r217_10 : List Op := [f_ 32 <|.bin .add (.g 14) (ci 1),t_ 14 <|.mov (.l 0)]
def b217_0 : C := .seq (.region false r217_5) (.seq (.cond (.g 15) (.skip) (.exit 0)) (.seq (.block 1 (.seq (.region false r217_6) (.seq (.region false r217_7) (.seq (.region false r217_8) (.cond (.g 24) (.region false r217_9) (.skip)))))) (.region false r217_10)))
def l217_0 : C := .loop [] [] [7] [] b217_0
def r217_11 : List Op := [f_ 33 <|.mov (.g 5),t_ 4 <|.mov (.l 0)]
def c217 : C := .seq (.region false r217_0) (.seq (.seq (.region false r217_1) (.cond (.g 11) (.seq (.region false r217_2) (.ret)) (.skip))) (.seq (.region false r217_3) (.seq (.seq (.region false r217_4) (.block 0 (l217_0))) (.seq (.region false r217_11) (.ret)))))
def F217 : F := ⟨2, [0, 1, 3, 4, 5, 7, 8, 11, 12, 13, 14, 15, 24], [.t 4], none, c217⟩
attribute [go_sem] r217_0 r217_1 r217_2 r217_3 r217_4 r217_5 r217_6 r217_7 r217_8 r217_9 r217_10 b217_0 r217_11 c217 F217
def r220_0 : List Op := [t_ 4 <|.mov (ci 0),t_ 5 <|.mov (cb false)]
def r220_1 : List Op := [f_ 6 <|.mov (.g 0),f_ 7 <|.mov (.g 1),f_ 8 <|.call (.k 225) .no none [.l 0, .l 1, .f 226],f_ 9 <|.ext (.l 2) 0,f_ 10 <|.ext (.l 2) 1,t_ 4 <|.mov (.l 3),t_ 5 <|.mov (.l 4)]
def c220 : C := .seq (.region false r220_0) (.seq (.region false r220_1) (.ret))
def F220 : F := ⟨2, [0, 1, 4, 5], [.t 4, .t 5], none, c220⟩
attribute [go_sem] r220_0 r220_1 c220 F220
def r221_0 : List Op := [t_ 2 <|.mov (.c (.slice 2 []))]
def r221_1 : List Op := [f_ 5 <|.mov (.g 0),f_ 6 <|.call (.k 227) .no (some 0) [.l 0],t_ 3 <|.mov (.l 1)]
def r221_2 : List Op := [f_ 7 <|.mov (.g 3),t_ 8 <|.len false (.l 0),t_ 9 <|.mov (ci 0)]
def r221_3 : List Op := [t_ 10 <|.bin .lss (.g 9) (.g 8)]
def r221_4 : List Op := [f_ 11 <|.mov (.g 9),t_ 4 <|.mov (.l 0)]
def r221_5 : List Op := [f_ 12 <|.mov (.g 3),f_ 13 <|.mov (.g 4),f_ 14 <|.mov (.g 3),f_ 15 <|.mov (.g 4),f_ 16 <|.iad 2 (.l 2) (.l 3),f_ 17 <|.fad (.l 4) 1,f_ 18 <|.load (.e 6) none (.l 5),f_ 19 <|.call (.k 23) .no none [.l 6],f_ 20 <|.iad 2 (.l 0) (.l 1),f_ 21 <|.fad (.l 8) 1,u_ <|.store (.e 6) 1 (.l 9) (.l 7)]
def r221_6 : List Op := [f_ 22 <|.bin .add (.g 9) (ci 1),t_ 9 <|.mov (.l 0)]
def b221_0 : C := .seq (.region false r221_3) (.seq (.cond (.g 10) (.skip) (.exit 0)) (.seq (.block 1 (.seq (.region false r221_4) (.region false r221_5))) (.region false r221_6)))
def l221_0 : C := .loop [] [] [] [] b221_0
def r221_7 : List Op := [f_ 23 <|.mov (.g 3),t_ 2 <|.mov (.l 0)]
def c221 : C := .seq (.region false r221_0) (.seq (.region false r221_1) (.seq (.seq (.region false r221_2) (.block 0 (l221_0))) (.seq (.region false r221_7) (.ret))))
def F221 : F := ⟨1, [0, 2, 3, 4, 8, 9, 10], [.t 2], some 0, c221⟩
attribute [go_sem] r221_0 r221_1 r221_2 r221_3 r221_4 r221_5 r221_6 b221_0 r221_7 c221 F221
def r225_0 : List Op := [t_ 6 <|.mov (ci 0),t_ 7 <|.mov (cb false)]
def r225_1 : List Op := [f_ 12 <|.mov (.g 0),f_ 13 <|.len false (.l 0),t_ 8 <|.mov (.l 1)]
def r225_2 : List Op := [f_ 14 <|.mov (.g 8),t_ 9 <|.mov (ci 0),t_ 10 <|.mov (.l 0)]
def r225_3 : List Op := [f_ 15 <|.mov (.g 9),f_ 16 <|.mov (.g 10),t_ 17 <|.bin .lss (.l 0) (.l 1)]
def r225_4 : List Op := [f_ 18 <|.mov (.g 9),f_ 19 <|.mov (.g 10),f_ 20 <|.bin .add (.l 0) (.l 1),f_ 21 <|.conv (.int .u64) (.l 2),f_ 22 <|.sh .shr (.l 3) (.c (.int .u64 1)),f_ 23 <|.conv (.int .i64) (.l 4),t_ 11 <|.mov (.l 5)]
def r225_5 : List Op := [f_ 24 <|.mov (.g 2),f_ 25 <|.mov (.g 0),f_ 26 <|.mov (.g 11),f_ 27 <|.iad 2 (.l 1) (.l 2),f_ 28 <|.load (.c) (some 2) (.l 3),f_ 29 <|.mov (.g 1),f_ 30 <|.call (.v (.l 0)) .no none [.l 4, .l 5],t_ 31 <|.bin .lss (.l 6) (ci 0)]
def r225_6 : List Op := [f_ 32 <|.mov (.g 11),f_ 33 <|.bin .add (.l 0) (ci 1),t_ 9 <|.mov (.l 1)]
def r225_7 : List Op := [f_ 34 <|.mov (.g 11),t_ 10 <|.mov (.l 0)]
def b225_0 : C := .seq (.seq (.region false r225_3) (.cond (.g 17) (.skip) (.exit 0))) (.block 1 (.seq (.region false r225_4) (.seq (.region false r225_5) (.cond (.g 31) (.region false r225_6) (.region false r225_7)))))
def l225_0 : C := .loop [] [] [] [] b225_0
def r225_8 : List Op := [f_ 35 <|.mov (.g 9),f_ 36 <|.mov (.g 9),f_ 37 <|.mov (.g 8),f_ 38 <|.bin .lss (.l 1) (.l 2),f_ 39 <|.mov (.l 3),y_ 40 4 <|.mov (.g 2),y_ 41 4 <|.mov (.g 0),y_ 42 4 <|.mov (.g 9),y_ 43 4 <|.iad 2 (.l 6) (.l 7),y_ 44 4 <|.load (.c) (some 2) (.l 8),y_ 45 4 <|.mov (.g 1),y_ 46 4 <|.call (.v (.l 5)) .no none [.l 9, .l 10],y_ 47 4 <|.bin .eql (.l 11) (ci 0),f_ 48 <|.pick (.l 4) (.l 12) (cb false),t_ 6 <|.mov (.l 0),t_ 7 <|.mov (.l 13)]
def c225 : C := .seq (.region false r225_0) (.seq (.region false r225_1) (.seq (.region false r225_2) (.seq (.block 0 (l225_0)) (.seq (.region false r225_8) (.ret)))))
def F225 : F := ⟨3, [0, 1, 2, 6, 7, 8, 9, 10, 11, 17, 31], [.t 6, .t 7], none, c225⟩
attribute [go_sem] r225_0 r225_1 r225_2 r225_3 r225_4 r225_5 r225_6 r225_7 b225_0 r225_8 c225 F225
def r226_0 : List Op := [t_ 2 <|.box (.g 0),t_ 4 <|.mov (ci 0)]
def r226_1 : List Op := [f_ 5 <|.fad (.g 2) 0,f_ 6 <|.load (.v 2) none (.l 0),f_ 7 <|.mov (.g 1),f_ 8 <|.call (.k 192) .no none [.l 1, .l 2],t_ 4 <|.mov (.l 3)]
def c226 : C := .seq (.region false r226_0) (.seq (.region false r226_1) (.ret))
def F226 : F := ⟨2, [0, 1, 2, 4], [.t 4], none, c226⟩
attribute [go_sem] r226_0 r226_1 c226 F226
end Sg
namespace Sg
open _root_.Go _root_.Go.RowKit _root_.Go.Proofs _root_.Go.Shelf
set_option linter.unusedSimpArgs false
set_option linter.unusedVariables false
def renU : Shelf.Ren := ⟨fun | 197 => 47 | 260 => 66 | n => n, fun | 0 => 0 | 3 => 3 | 4 => 4 | 5 => 5 | 9 => 9 | 21 => 21 | 46 => 94 | 105 => 77 | 119 => 97 | 138 => 99 | 139 => 100 | n => n, fun | 3 => 0 | 4 => 1 | n => n⟩
set_option maxRecDepth 1000000 in
theorem lays197 : Lays.n197 Tryd.prog renU where
  mixed := by kernel_rfl
  f197 := Tryd.func47.trans (congrArg some (by kernel_rfl))
  f260 := Tryd.func66.trans (congrArg some (by kernel_rfl))
  t0 := Tryd.underlying0
  a0 := Tryd.isAgg0
  z0 := Tryd.sizeOf0
  v0 := Tryd.zeroValue0
  t3 := Tryd.underlying3
  a3 := Tryd.isAgg3
  z3 := Tryd.sizeOf3
  v3 := Tryd.zeroValue3
  t4 := Tryd.underlying4
  a4 := Tryd.isAgg4
  z4 := Tryd.sizeOf4
  v4 := Tryd.zeroValue4
  t5 := Tryd.underlying5
  a5 := Tryd.isAgg5
  z5 := Tryd.sizeOf5
  v5 := Tryd.zeroValue5
  t9 := Tryd.underlying9
  a9 := Tryd.isAgg9
  z9 := Tryd.sizeOf9
  v9 := Tryd.zeroValue9
  t21 := Tryd.underlying21
  a21 := Tryd.isAgg21
  z21 := Tryd.sizeOf21
  v21 := Tryd.zeroValue21
  t46 := Tryd.underlying94
  a46 := Tryd.isAgg94
  z46 := Tryd.sizeOf94
  v46 := Tryd.zeroValue94
  t105 := Tryd.underlying77
  a105 := Tryd.isAgg77
  z105 := Tryd.sizeOf77
  v105 := Tryd.zeroValue77
  t119 := Tryd.underlying97
  a119 := Tryd.isAgg97
  z119 := Tryd.sizeOf97
  t138 := Tryd.underlying99
  a138 := Tryd.isAgg99
  z138 := Tryd.sizeOf99
  v138 := Tryd.zeroValue99
  t139 := Tryd.underlying100
  a139 := Tryd.isAgg100
  z139 := Tryd.sizeOf100
  v139 := Tryd.zeroValue100
  g3 := by kernel_rfl
  g4 := by kernel_rfl
theorem dec_walk (s : ByteArray) (w : World) (hT : Lib.Utf8Tabs 0 1 w) :
    Calls Tryd.prog 47 #[.string s] w fun e w' => e = .returned (.tuple #[.int .i32 (Lib.decodeGo s).1, .int .i64 (Lib.decodeGo s).2]) ∧ Below w.heap.size w w' :=
  Any.utf8_DecodeRuneInString lays197 s w hT
theorem tabs_st (w w' : World) (h : Lib.Utf8Tabs 0 1 w) (hb : ∀ b, b < 2 → w'.heap[b]? = w.heap[b]?) : Lib.Utf8Tabs 0 1 w' := by
  have e : ∀ b o, b < 2 → w'.cell? ⟨b, o, none⟩ = w.cell? ⟨b, o, none⟩ := fun b o hlt => by
    simp only [World.cell?, hb b hlt]
  exact ⟨fun c hc => by rw [e _ _ (by decide)]; exact h.1 c hc, fun i hi => by rw [e _ _ (by decide), e _ _ (by decide)]; exact h.2 i hi⟩
def cxU (l : List (Nat × Nat)) : Cx where
  fm := fun n => (look l n).getD 0
  tm := fun n => n
  gn := 2
  G := Lib.Utf8Tabs 0 1
  Gst := tabs_st
set_option maxHeartbeats 4000000 in
set_option maxRecDepth 1000000 in
theorem key_walk (s : ByteArray) (w : World) (hgn : 2 ≤ w.heap.size) (hT : Lib.Utf8Tabs 0 1 w)
    (hplain : ∀ (r n : Int) (w : World), 2 ≤ w.heap.size → Lib.Utf8Tabs 0 1 w → Calls Tryd.prog 48 #[.int .i32 r, .int .i64 n] w fun e w' => e = .returned (.bool (plainR r n)) ∧ Below w.heap.size w w') :
    Calls Tryd.prog 27 #[.string s] w fun e w' => e = .returned (.bool (keyR s.data.toList)) ∧ Below w.heap.size w w' := by
  have t0 := Tryd.underlying0; have t3 := Tryd.underlying3; have t4 := Tryd.underlying4; have t9 := Tryd.underlying9; have t21 := Tryd.underlying21
  have hu0 := run_underlying t0; have hu3 := run_underlying t3; have hu4 := run_underlying t4; have hu9 := run_underlying t9; have hu21 := run_underlying t21
  have mixed : Tryd.prog.follows .mixedOrders = true := by kernel_rfl
  have a0 := Tryd.isAgg0; have z0 := Tryd.sizeOf0; have v0 := Tryd.zeroValue0
  have a3 := Tryd.isAgg3; have z3 := Tryd.sizeOf3; have v3 := Tryd.zeroValue3
  have a4 := Tryd.isAgg4; have z4 := Tryd.sizeOf4; have v4 := Tryd.zeroValue4
  have a9 := Tryd.isAgg9; have z9 := Tryd.sizeOf9; have v9 := Tryd.zeroValue9
  have a21 := Tryd.isAgg21; have z21 := Tryd.sizeOf21; have v21 := Tryd.zeroValue21
  go_enter Tryd.func27, Tryd.ntmps27
  go_wp2
  go_loopw [3] (fun _ wr => ∃ (pos fuel : Nat), wr.heap[w.heap.size]? = some (.stringIter s pos) ∧ Below w.heap.size w wr ∧ keyAll fuel (s.data.toList.drop pos) = keyAll s.size s.data.toList ∧ s.size ≤ pos + fuel) (fun _ wr => s.size - wr.iterPos w.heap.size)
  case atStart =>
    refine ⟨0, s.size, ?_, (Below.refl _ w).alloc (Nat.le_refl _) _, by simp, by omega⟩
    have := World.iter_heap w s 0
    simpa using this
  case round =>
    obtain ⟨pos, fuel, hit, hbw, hacc, hfu⟩ := hrel
    have hsz : w.heap.size < wr.heap.size := (Array.getElem?_eq_some_iff.1 hit).1
    have hbT : ∀ W : World, Below w.heap.size w W → Lib.Utf8Tabs 0 1 W := fun W h => tabs_st w W hT fun b hb => h.block b (by omega)
    by_cases hp : pos < s.size
    · have hnx : ∀ ty, (Instr.next (.pointer (some ⟨w.heap.size, 0, none⟩)) true ty).run Tryd.prog wr = _ := fun ty => Lib.run_next_any_at wr w.heap.size s pos ty hit hp
      have hbw2 := Lib.below_iterAt hbw (k := w.heap.size) (by omega) s (pos + (Utf8.decode s pos).2)
      have hit2 := Lib.iterAt_heap wr w.heap.size s pos (pos + (Utf8.decode s pos).2) hit
      have hsz2 : w.heap.size + 1 ≤ (wr.iterAt w.heap.size s (pos + (Utf8.decode s pos).2)).heap.size := by rw [Lib.iterAt_size]; omega
      have hde : ∀ n, n = s.size → Lib.decodeGo (s.extract pos n) = Utf8.decode s pos := fun n hn => decode_extract s pos n hn hp
      have hw1 := width_pos s pos
      obtain ⟨f, rfl⟩ : ∃ f, fuel = f + 1 := ⟨fuel - 1, by omega⟩
      have hnil : s.data.toList.drop pos ≠ [] := fun e => by
        exact drop_ne s pos hp e
      have hdN := decode_drop s pos
      simp only [keyAll, hnil, if_false, ← hdN] at hacc
      generalize Utf8.decode s pos = D at *
      clear hdN hnil
      obtain ⟨D1, D2⟩ := D
      simp only at hw1 hacc hbw2 hit2 hsz2 hde hnx
      have hsl := size_list s
      have hfin : ∀ W : World, plainR D1 D2 = false → keyR s.data.toList = false := fun W hpl => by
        rw [hpl, Bool.false_and] at hacc
        rw [keyR, hsl, ← hacc, Bool.false_and]
      clear hsl
      go_wp2_with (go_at_call 47; refine (dec_walk _ _ (hbT _ hbw2)).mono ?_; rintro e W1 ⟨rfl, b1⟩)
      have hb3 := hbw2.trans (b1.mono (by omega))
      have hs3 : W1.heap.size ≥ w.heap.size + 1 := Nat.le_trans hsz2 b1.size
      have hit3 : W1.heap[w.heap.size]? = some (.stringIter s (pos + D2)) := (b1.block _ (by omega)).trans hit2
      have hpl := hplain D1 D2 W1 (by omega) (hbT _ hb3)
      cases hP : plainR D1 D2 with
      | false =>
        rw [hP] at hpl
        have hke := hfin w hP
        clear hacc hfin
        go_wp2_with (go_at_call 48; refine hpl.mono ?_; rintro e W2 ⟨rfl, b2⟩)
        have hb4 := hb3.trans (b2.mono (by omega))
        go_wp2
        go_ret
        rw [hke]
        exact ⟨rfl, hb4⟩
      | true =>
        rw [hP, Bool.true_and, List.drop_drop] at hacc
        rw [hP] at hpl
        clear hfin
        obtain ⟨kk, hkk⟩ : ∃ kk, kk = keyAll s.size s.data.toList := ⟨_, rfl⟩
        go_wp2_with (go_at_call 48; refine hpl.mono ?_; rintro e W2 ⟨rfl, b2⟩)
        have hb4 := hb3.trans (b2.mono (by omega))
        have hit4 : W2.heap[w.heap.size]? = some (.stringIter s (pos + D2)) := (b2.block _ (by omega)).trans hit3
        go_wp2
        go_roundw
        case rel => exact ⟨pos + D2, f, hit4, hb4, hacc, by omega⟩
        case measure =>
          simp only [World.iterPos, hit4, hit]
          omega
    · have hnx : ∀ ty, (Instr.next (.pointer (some ⟨w.heap.size, 0, none⟩)) true ty).run Tryd.prog wr = _ := fun ty => Lib.run_next_end_at wr w.heap.size s pos ty hit hp
      have hall : keyAll s.size s.data.toList = true := by
        rw [← hacc, List.drop_eq_nil_of_le (by rw [size_list]; omega)]
        cases fuel <;> simp [keyAll]
      have hkey : keyR s.data.toList = (decide ((1 : Int) ≤ s.size) && decide ((s.size : Int) ≤ 16)) := by
        rw [keyR, size_list, hall, Bool.true_and]
        congr 1 <;> exact decide_eq_decide.2 (by omega)
      clear hacc hall
      by_cases h1 : (1 : Int) ≤ s.size
      · rw [decide_eq_true h1, Bool.true_and] at hkey
        go_wp2
        go_ret
        exact ⟨by first | rfl | (rw [hkey]; rfl), hbw⟩
      · rw [decide_eq_false h1, Bool.false_and] at hkey
        go_wp2
        go_ret
        exact ⟨by first | rfl | (rw [hkey]; rfl), hbw⟩
end Sg
namespace Sg
open Go.Proofs
open _root_.Go
def noQ : List V → Option V := fun _ => none
def indexFm : List (Nat × Nat) := [(219, 9), (198, 10), (203, 15), (15, 26), (199, 11), (206, 17), (217, 24), (208, 19), (7, 38), (192, 39), (26, 46), (27, 45), (200, 12), (220, 28), (12, 41), (17, 43), (191, 48), (22, 51), (31, 65), (3, 29), (221, 30), (225, 49), (226, 50), (10, 60), (25, 63), (28, 67), (29, 69), (30, 70), (32, 71), (170, 27), (190, 47), (222, 31), (23, 52), (227, 53)]
def indexTab : List (Nat × Fn) := [(219, .code F219), (198, .code F198), (203, .code F203), (15, .code F15), (199, .code F199), (206, .code F206), (217, .code F217), (208, .code F208), (7, .code F7), (192, .code F192), (26, .code F26), (27, .code F27), (200, .code F200), (220, .code F220), (12, .code F12), (17, .code F17), (191, .code F191), (22, .code F22), (31, .code F31), (3, .code F3), (221, .code F221), (225, .code F225), (226, .code F226), (10, .code F10), (25, .code F25), (28, .code F28), (29, .code F29), (30, .code F30), (32, .code F32), (170, .prim none keyQ), (190, .prim none decQ), (222, .prim (some 1002) noQ), (23, .prim (some 0) (cloneQ 5)), (227, .prim (some 0) (cloneQ 2))]
set_option maxRecDepth 100000
theorem okc {P : Go.Program} {cx : Cx} {tab : List (Nat × Fn)} {k : Nat} {F : F} {l : List (Nat × Fn)} (h : okF P cx (look tab) (cx.fm k) F = true) (t : okTab P cx tab l = true) : okTab P cx tab ((k, .code F) :: l) = true := by simp [okTab, h, t]
theorem okp {P : Go.Program} {cx : Cx} {tab : List (Nat × Fn)} {k : Nat} {o : Option Nat} {p} {l : List (Nat × Fn)} (t : okTab P cx tab l = true) : okTab P cx tab ((k, .prim o p) :: l) = true := t
theorem ok219 : okF Tryd.prog (cxU indexFm) (look indexTab) ((cxU indexFm).fm 219) F219 = true := by kernel_rfl
theorem ok198 : okF Tryd.prog (cxU indexFm) (look indexTab) ((cxU indexFm).fm 198) F198 = true := by kernel_rfl
theorem ok203 : okF Tryd.prog (cxU indexFm) (look indexTab) ((cxU indexFm).fm 203) F203 = true := by kernel_rfl
theorem ok15 : okF Tryd.prog (cxU indexFm) (look indexTab) ((cxU indexFm).fm 15) F15 = true := by kernel_rfl
theorem ok199 : okF Tryd.prog (cxU indexFm) (look indexTab) ((cxU indexFm).fm 199) F199 = true := by kernel_rfl
theorem ok206 : okF Tryd.prog (cxU indexFm) (look indexTab) ((cxU indexFm).fm 206) F206 = true := by kernel_rfl
theorem ok217 : okF Tryd.prog (cxU indexFm) (look indexTab) ((cxU indexFm).fm 217) F217 = true := by kernel_rfl
theorem ok208 : okF Tryd.prog (cxU indexFm) (look indexTab) ((cxU indexFm).fm 208) F208 = true := by kernel_rfl
theorem ok7 : okF Tryd.prog (cxU indexFm) (look indexTab) ((cxU indexFm).fm 7) F7 = true := by kernel_rfl
theorem ok192 : okF Tryd.prog (cxU indexFm) (look indexTab) ((cxU indexFm).fm 192) F192 = true := by kernel_rfl
theorem ok26 : okF Tryd.prog (cxU indexFm) (look indexTab) ((cxU indexFm).fm 26) F26 = true := by kernel_rfl
theorem ok27 : okF Tryd.prog (cxU indexFm) (look indexTab) ((cxU indexFm).fm 27) F27 = true := by kernel_rfl
theorem ok200 : okF Tryd.prog (cxU indexFm) (look indexTab) ((cxU indexFm).fm 200) F200 = true := by kernel_rfl
theorem ok220 : okF Tryd.prog (cxU indexFm) (look indexTab) ((cxU indexFm).fm 220) F220 = true := by kernel_rfl
theorem ok12 : okF Tryd.prog (cxU indexFm) (look indexTab) ((cxU indexFm).fm 12) F12 = true := by kernel_rfl
theorem ok17 : okF Tryd.prog (cxU indexFm) (look indexTab) ((cxU indexFm).fm 17) F17 = true := by kernel_rfl
theorem ok191 : okF Tryd.prog (cxU indexFm) (look indexTab) ((cxU indexFm).fm 191) F191 = true := by kernel_rfl
theorem ok22 : okF Tryd.prog (cxU indexFm) (look indexTab) ((cxU indexFm).fm 22) F22 = true := by kernel_rfl
theorem ok31 : okF Tryd.prog (cxU indexFm) (look indexTab) ((cxU indexFm).fm 31) F31 = true := by kernel_rfl
theorem ok3 : okF Tryd.prog (cxU indexFm) (look indexTab) ((cxU indexFm).fm 3) F3 = true := by kernel_rfl
theorem ok221 : okF Tryd.prog (cxU indexFm) (look indexTab) ((cxU indexFm).fm 221) F221 = true := by kernel_rfl
theorem ok225 : okF Tryd.prog (cxU indexFm) (look indexTab) ((cxU indexFm).fm 225) F225 = true := by kernel_rfl
theorem ok226 : okF Tryd.prog (cxU indexFm) (look indexTab) ((cxU indexFm).fm 226) F226 = true := by kernel_rfl
theorem ok10 : okF Tryd.prog (cxU indexFm) (look indexTab) ((cxU indexFm).fm 10) F10 = true := by kernel_rfl
theorem ok25 : okF Tryd.prog (cxU indexFm) (look indexTab) ((cxU indexFm).fm 25) F25 = true := by kernel_rfl
theorem ok28 : okF Tryd.prog (cxU indexFm) (look indexTab) ((cxU indexFm).fm 28) F28 = true := by kernel_rfl
theorem ok29 : okF Tryd.prog (cxU indexFm) (look indexTab) ((cxU indexFm).fm 29) F29 = true := by kernel_rfl
theorem ok30 : okF Tryd.prog (cxU indexFm) (look indexTab) ((cxU indexFm).fm 30) F30 = true := by kernel_rfl
theorem ok32 : okF Tryd.prog (cxU indexFm) (look indexTab) ((cxU indexFm).fm 32) F32 = true := by kernel_rfl
theorem okAll : okTab Tryd.prog (cxU indexFm) indexTab indexTab = true := okc ok219 (okc ok198 (okc ok203 (okc ok15 (okc ok199 (okc ok206 (okc ok217 (okc ok208 (okc ok7 (okc ok192 (okc ok26 (okc ok27 (okc ok200 (okc ok220 (okc ok12 (okc ok17 (okc ok191 (okc ok22 (okc ok31 (okc ok3 (okc ok221 (okc ok225 (okc ok226 (okc ok10 (okc ok25 (okc ok28 (okc ok29 (okc ok30 (okc ok32 (okp (okp (okp (okp (okp (rfl))))))))))))))))))))))))))))))))))
theorem okClone23 : okF Tryd.prog (cxU indexFm) (onePg 23 (cloneF 5 [.int .i64 0, .int .i64 0, .int .i64 0, .bool false, .str []])) 52 (cloneF 5 [.int .i64 0, .int .i64 0, .int .i64 0, .bool false, .str []]) = true := by kernel_rfl
theorem okClone227 : okF Tryd.prog (cxU indexFm) (onePg 227 (cloneF 2 [.str [], .slice 5 []])) 53 (cloneF 2 [.str [], .slice 5 []]) = true := by kernel_rfl
#print axioms okAll
end Sg
namespace Sg
open Go Go.RowKit Go.Lib Go.Proofs
set_option linter.unusedVariables false
set_option linter.unusedSimpArgs false
set_option maxRecDepth 100000
set_option maxHeartbeats 4000000 in
set_option maxRecDepth 100000 in
theorem ins31_shift (b off n c i vb voff m vc : Nat) (cs vs : List Value) (w : World) (hi : i < n) (hm : 0 < m) (hroom : n + m ≤ c) (hlim : n + m ≤ 1073741824) (hvb : vb ≠ b)
    (hcl : cs.length = n * 2) (hvl : vs.length = m * 2)
    (hcs : ∀ j v, cs[j]? = some v → w.cell? ⟨b, off + j, none⟩ = some v) (hsp : ∀ j, j < (n + m) * 2 → (w.cell? ⟨b, off + j, none⟩).isSome = true) (hfz : ∀ j, w.frozen? ⟨b, j, none⟩ = false)
    (hvs : ∀ j v, vs[j]? = some v → w.cell? ⟨vb, voff + j, none⟩ = some v) (h1c : ∀ v ∈ cs, v.oneCell' = true) (h1v : ∀ v ∈ vs, v.oneCell' = true)
    (tA tB : TypeId) (kA kB : Nat) (hsa : w.shape? vb = some (tA, kA)) (hsb : w.shape? b = some (tB, kB)) (hkA : kA ≠ 0) :
    Calls Tryd.prog 31 #[.slice (some ⟨b, off, none⟩) n c, .int .i64 i, .slice (some ⟨vb, voff, none⟩) m vc] w fun e w' =>
      e = .returned (.slice (some ⟨b, off, none⟩) (n + m) c) ∧ w' = (w.drew.setCells b (off + (i + m) * 2) (cs.drop (i * 2))).setCells b (off + i * 2) vs := by
  have t0 := Tryd.underlying0; have t3 := Tryd.underlying3; have t4 := Tryd.underlying4; have t9 := Tryd.underlying55; have t24 := Tryd.underlying22
  have a0 := Tryd.isAgg0; have a3 := Tryd.isAgg3; have a4 := Tryd.isAgg4; have a9 := Tryd.isAgg55; have a24 := Tryd.isAgg22
  have z0 := Tryd.sizeOf0; have z3 := Tryd.sizeOf3; have z4 := Tryd.sizeOf4; have z9 := Tryd.sizeOf55; have z24 := Tryd.sizeOf22
  have v0 := Tryd.zeroValue0; have v3 := Tryd.zeroValue3; have v4 := Tryd.zeroValue4; have v24 := Tryd.zeroValue22
  have u0 := run_underlying t0; have u3 := run_underlying t3; have u4 := run_underlying t4; have u24 := run_underlying t24
  have hz1 : ¬ ((m : Int) = 0) := by omega
  have hz2 : ¬ ((i : Int) = (n : Int)) := by omega
  have hsz : (Tryd.prog.info? 55).map (·.size) = some 2 := by kernel_rfl
  have hov : ∀ lb cb, (callFunc 54 #[.slice (some ⟨vb, voff, none⟩) m vc, .slice (some ⟨b, off + (i + m) * 2, none⟩) lb cb]).run Tryd.prog w = .ok (.value (.bool false)) w := fun lb cb => by
    rw [run_callFunc_extern Tryd.func54 (by kernel_rfl) (by kernel_rfl) (by kernel_rfl) (e := Extern.SlicesOverlaps.overlaps #[22, 22] #[4]) (by kernel_rfl),
      run_overlaps_k w 22 4 55 t24 2 z9 ⟨vb, voff, none⟩ ⟨b, off + (i + m) * 2, none⟩ m vc lb cb hvb tA tB kA kB hsa hsb hkA (hfz _) (hfz _)]
    rfl
  have hdl : (cs.drop (i * 2)).length = (n - i) * 2 := by rw [List.length_drop, hcl]; omega
  have mixed : Tryd.prog.follows .mixedOrders = true := by kernel_rfl
  have hw1 : IntKind.i64.wrap ((i : Int) + (m : Int)) = (i : Int) + (m : Int) := by rw [IntKind.wrap_i64]; omega
  have hb1 : (0 : Int) ≤ (i : Int) + (m : Int) := by omega
  have hin : i ≤ n := by omega
  have htn : ((i : Int) + (m : Int)).toNat = i + m := by omega
  have hb2 : ¬ (c = i + m) := by omega
  have hb3 : (i : Int) ≤ (n : Int) + (m : Int) := by omega
  have hb4 : ¬ (c = i) := by omega
  have hcp1 : ∀ ty dc sc, (Builtin.copy_ #[22, 22] ty #[.slice (some ⟨b, off + (i + m) * 2, none⟩) (n + m - (i + m)) dc, .slice (some ⟨b, off + i * 2, none⟩) (n + m - i) sc]).run Tryd.prog w.drew = .ok (goInt (n - i : Nat)) (w.drew.setCells b (off + (i + m) * 2) (cs.drop (i * 2))) := fun ty dc sc =>
    run_copy_k 2 w.drew _ _ ty 55 b (off + (i + m) * 2) (n + m - (i + m)) dc ⟨b, off + i * 2, none⟩ (n + m - i) sc (cs.drop (i * 2)) (n - i) t24 hsz (by simp only [Nat.min_def]; split <;> omega) (by rw [hdl])
      (fun j v hj => by rw [Addr.add_lit, Nat.add_assoc]; exact hcs (i * 2 + j) v (by rwa [List.getElem?_drop] at hj))
      (fun j hj => by rw [Nat.add_assoc]; exact hsp _ (by omega)) (fun j hj => hfz _) (fun v hv => h1c v (List.mem_of_mem_drop hv))
  obtain ⟨W1, hW1⟩ : ∃ W1, W1 = w.drew.setCells b (off + (i + m) * 2) (cs.drop (i * 2)) := ⟨_, rfl⟩
  have hsp1 : ∀ k, k < (n + m) * 2 → (W1.cell? ⟨b, off + k, none⟩).isSome = true := fun k hk => by
    rw [hW1]
    exact isSome_setK b _ _ _ (fun j hj => by rw [Nat.add_assoc]; exact hsp _ (by omega)) _ (hsp k hk)
  have hcp2 : ∀ (W : World), (∀ x, W.cell? x = W1.cell? x) → (∀ x, W.frozen? x = W1.frozen? x) → ∀ ty dc, (Builtin.copy_ #[22, 22] ty #[.slice (some ⟨b, off + i * 2, none⟩) (n + m - i) dc, .slice (some ⟨vb, voff, none⟩) m vc]).run Tryd.prog W = .ok (goInt (m : Nat)) (W.setCells b (off + i * 2) vs) := fun W hWc hWf ty dc =>
    run_copy_k 2 W _ _ ty 55 b (off + i * 2) (n + m - i) dc ⟨vb, voff, none⟩ m vc vs m t24 hsz (by simp only [Nat.min_def]; split <;> omega) hvl
      (fun j v hj => by
        rw [Addr.add_lit, hWc, hW1, World.cell?_setCells_out b _ _ _ _ (fun h _ => absurd h hvb)]
        exact hvs j v hj)
      (fun j hj => by rw [hWc, Nat.add_assoc]; exact hsp1 _ (by omega)) (fun j hj => by rw [hWf, hW1, World.frozen?_setCells]; exact hfz _) h1v
  rw [← hW1] at hcp1
  go_enter Tryd.func31, Tryd.ntmps31
  go_wp2_with (simp only [hov])
  go_region_law_o (refine step_copy_k rfl _ _ 22 22 rfl _ _ (by simp [Act.eval, Act.put]) (by simp [Act.eval, Act.put]) (hcp1 _ _ _) ?_)
  go_wp2_with (at_builtin; refine wpList_copy_k _ rfl _ _ 22 22 rfl _ _ rfl rfl (hcp2 _ (fun _ => rfl) (fun _ => rfl) _ _) ?_)
  go_ret
  first | exact ⟨rfl, rfl⟩ | exact ⟨rfl, by rw [hW1]⟩
set_option maxHeartbeats 4000000 in
set_option maxRecDepth 100000 in
theorem ins31_end (base : Option Addr) (n c m vc : Nat) (vb : Option Addr) (w w' : World) (q : Value) (hm : 0 < m) (hnc : n ≤ c) (hlim : n + m ≤ 1073741824) (hnil : base = none → n = 0)
    (hrun : (Builtin.append_ #[22, 22] 22 #[.slice base n c, .slice vb m vc]).run Tryd.prog w = .ok q w') :
    Calls Tryd.prog 31 #[.slice base n c, .int .i64 n, .slice vb m vc] w fun e w1 => e = .returned q ∧ w1 = w' := by
  have t0 := Tryd.underlying0; have t3 := Tryd.underlying3; have t4 := Tryd.underlying4; have t9 := Tryd.underlying55; have t24 := Tryd.underlying22
  have a0 := Tryd.isAgg0; have a3 := Tryd.isAgg3; have a4 := Tryd.isAgg4; have a9 := Tryd.isAgg55; have a24 := Tryd.isAgg22
  have z0 := Tryd.sizeOf0; have z3 := Tryd.sizeOf3; have z4 := Tryd.sizeOf4; have z9 := Tryd.sizeOf55; have z24 := Tryd.sizeOf22
  have v0 := Tryd.zeroValue0; have v3 := Tryd.zeroValue3; have v4 := Tryd.zeroValue4; have v24 := Tryd.zeroValue22
  have u0 := run_underlying t0; have u3 := run_underlying t3; have u4 := run_underlying t4; have u24 := run_underlying t24
  have mixed : Tryd.prog.follows .mixedOrders = true := by kernel_rfl
  have hz1 : ¬ ((m : Int) = 0) := by omega
  go_enter Tryd.func31, Tryd.ntmps31
  cases base with
  | none =>
    have h0 := hnil rfl
    subst h0
    go_wp2_with (at_builtin; refine Lib.wpList_append_run _ rfl _ _ _ _ rfl _ _ rfl rfl _ _ hrun ?_)
    all_goals (go_ret; exact ⟨rfl, rfl⟩)
  | some a =>
    obtain ⟨ab, ao, asp⟩ := a
    go_wp2_with (at_builtin; refine Lib.wpList_append_run _ rfl _ _ _ _ rfl _ _ rfl rfl _ _ hrun ?_)
    all_goals (go_ret; exact ⟨rfl, rfl⟩)
set_option maxHeartbeats 4000000 in
set_option maxRecDepth 100000 in
theorem ins31_none (base : Option Addr) (n c i vc : Nat) (vb : Option Addr) (w : World) (hnc : n ≤ c) (hi : i ≤ n) (hnil : base = none → n = 0) :
    Calls Tryd.prog 31 #[.slice base n c, .int .i64 i, .slice vb 0 vc] w fun e w1 => e = .returned (.slice base n c) ∧ w1 = w := by
  have t0 := Tryd.underlying0; have t3 := Tryd.underlying3; have t4 := Tryd.underlying4; have t9 := Tryd.underlying55; have t24 := Tryd.underlying22
  have a0 := Tryd.isAgg0; have a3 := Tryd.isAgg3; have a4 := Tryd.isAgg4; have a9 := Tryd.isAgg55; have a24 := Tryd.isAgg22
  have z0 := Tryd.sizeOf0; have z3 := Tryd.sizeOf3; have z4 := Tryd.sizeOf4; have z9 := Tryd.sizeOf55; have z24 := Tryd.sizeOf22
  have v0 := Tryd.zeroValue0; have v3 := Tryd.zeroValue3; have v4 := Tryd.zeroValue4; have v24 := Tryd.zeroValue22
  have u0 := run_underlying t0; have u3 := run_underlying t3; have u4 := run_underlying t4; have u24 := run_underlying t24
  have mixed : Tryd.prog.follows .mixedOrders = true := by kernel_rfl
  go_enter Tryd.func31, Tryd.ntmps31
  cases base with
  | none =>
    have h0 := hnil rfl
    subst h0
    have hi0 : i = 0 := by omega
    subst hi0
    go_wp2
    all_goals (go_ret; exact ⟨rfl, rfl⟩)
  | some a =>
    obtain ⟨ab, ao, asp⟩ := a
    go_wp2
    all_goals (go_ret; exact ⟨rfl, rfl⟩)
set_option maxHeartbeats 4000000 in
set_option maxRecDepth 100000 in
theorem ins31_grow (b off n c i vb voff m vc : Nat) (cs vs : List Value) (w : World) (hi : i < n) (hm : 0 < m) (hnc : n ≤ c) (hroom : c < n + m) (hlim : n + m ≤ 1073741824)
    (hcl : cs.length = n * 2) (hvl : vs.length = m * 2) (hbw : b < w.heap.size) (hvw : vb < w.heap.size)
    (hcs : ∀ j v, cs[j]? = some v → w.cell? ⟨b, off + j, none⟩ = some v)
    (hvs : ∀ j v, vs[j]? = some v → w.cell? ⟨vb, voff + j, none⟩ = some v) (h1c : ∀ v ∈ cs, v.oneCell' = true) (h1v : ∀ v ∈ vs, v.oneCell' = true) :
    Calls Tryd.prog 31 #[.slice (some ⟨b, off, none⟩) n c, .int .i64 i, .slice (some ⟨vb, voff, none⟩) m vc] w fun e w' =>
      ∃ (G : Nat) (ROW : Array Value) (d1 : Nat), n + m ≤ G ∧ (n + m) * 2 ≤ ROW.size ∧ ROW.size = G * 2 ∧ (∀ (j : Nat) (v : Value), (cs.take (i * 2))[j]? = some v → ROW[j]? = some v) ∧ e = .returned (.slice (some ⟨w.heap.size, 0, none⟩) (n + m) G) ∧
      w' = ((({ w with drawn := d1 } : World).alloc (.cells ROW 55)).setCells w.heap.size (i * 2) vs).setCells w.heap.size ((i + m) * 2) (cs.drop (i * 2)) := by
  have t0 := Tryd.underlying0; have t3 := Tryd.underlying3; have t4 := Tryd.underlying4; have t9 := Tryd.underlying55; have t24 := Tryd.underlying22
  have a0 := Tryd.isAgg0; have a3 := Tryd.isAgg3; have a4 := Tryd.isAgg4; have a9 := Tryd.isAgg55; have a24 := Tryd.isAgg22
  have z0 := Tryd.sizeOf0; have z3 := Tryd.sizeOf3; have z4 := Tryd.sizeOf4; have z9 := Tryd.sizeOf55; have z24 := Tryd.sizeOf22
  have v0 := Tryd.zeroValue0; have v3 := Tryd.zeroValue3; have v4 := Tryd.zeroValue4; have v24 := Tryd.zeroValue22
  have u0 := run_underlying t0; have u3 := run_underlying t3; have u4 := run_underlying t4; have u24 := run_underlying t24
  have mixed : Tryd.prog.follows .mixedOrders = true := by kernel_rfl
  obtain ⟨i0, hi0, hz0, hzs, hzb⟩ : ∃ i0, Tryd.prog.info? 55 = some i0 ∧ i0.zero = some (Value.agg #[.string ⟨#[]⟩, .slice none 0 0]) ∧ i0.size = 2 ∧ i0.bytes = 40 := ⟨_, rfl, rfl, rfl, rfl⟩
  have hz1 : ¬ ((m : Int) = 0) := by omega
  have hz2 : ¬ ((i : Int) = (n : Int)) := by omega
  have hz3 : (c : Int) < (n : Int) + (m : Int) := by omega
  have hsz : (Tryd.prog.info? 55).map (·.size) = some 2 := by rw [hi0]; simp [hzs]
  have hkk : (n : Int) + (m : Int) - (i : Int) = ((n + m - i : Nat) : Int) := by omega
  have hik : i + (n + m - i) = n + m := by omega
  have hold : (Builtin.firstCells i0.size i (.slice (some ⟨b, off, none⟩) i c)).run Tryd.prog w.drew = .ok (cs.take (i * 2)).toArray w.drew := by
    rw [hzs]
    exact run_firstCells_some w.drew 2 i ⟨b, off, none⟩ i c (cs.take (i * 2)) (by rw [List.length_take]; omega) (fun j v hj => by
      rw [Addr.add_lit]
      rw [List.getElem?_take] at hj
      split at hj
      · exact hcs j v hj
      · cases hj)
  have hrz : ∀ ty, (Builtin.append_ #[22, 3] ty #[.slice (some ⟨b, off, none⟩) i c, .int .i64 ((n : Int) + (m : Int) - (i : Int))]).run Tryd.prog w =
      .ok (.slice (some ⟨w.heap.size, 0, none⟩) (n + m) (grownCap w (n + m) c 55)) (w.drew.alloc (.cells ((cs.take (i * 2)).toArray ++ Builtin.zeroCells (Value.agg #[.string ⟨#[]⟩, .slice none 0 0]).cells (n + m - i) ++ Builtin.zeroCells (Value.agg #[.string ⟨#[]⟩, .slice none 0 0]).cells (grownCap w (n + m) c 55 - (n + m))) 55)) := fun ty => by
    have h := Lib.run_append_grow_zeros w 22 3 ty 55 i0 _ .i64 .i64 t24 t3 hi0 hz0 (some ⟨b, off, none⟩) i c (cs.take (i * 2)) hold (n + m - i) (by omega) (by omega) (by omega) (by omega) (by rw [hzb]; omega) (by rw [hzb, hik]; exact growslice_fits hroom (by omega))
    rw [hik] at h
    rw [hkk]
    exact h
  obtain ⟨G, hG⟩ : ∃ G, G = grownCap w (n + m) c 55 := ⟨_, rfl⟩
  obtain ⟨ROW, hROW⟩ : ∃ ROW : Array Value, ROW = (cs.take (i * 2)).toArray ++ Builtin.zeroCells (Value.agg #[.string ⟨#[]⟩, .slice none 0 0]).cells (n + m - i) ++ Builtin.zeroCells (Value.agg #[.string ⟨#[]⟩, .slice none 0 0]).cells (G - (n + m)) := ⟨_, rfl⟩
  rw [← hG] at hrz
  rw [← hROW] at hrz
  have hGn : n + m ≤ G := by rw [hG]; exact grownCap_ge w _ _ _
  have hzc : ∀ k, (Builtin.zeroCells (Value.agg #[.string ⟨#[]⟩, .slice none 0 0]).cells k).size = k * 2 := fun k => by
    simp [Builtin.zeroCells, Value.cells]
  have hRs : ROW.size = G * 2 := by
    rw [hROW, Array.size_append, Array.size_append, hzc, hzc, List.size_toArray, List.length_take]
    omega
  have hRl : (n + m) * 2 ≤ ROW.size := by rw [hRs]; omega
  have hRt : ∀ j v, (cs.take (i * 2))[j]? = some v → ROW[j]? = some v := fun j v hj => by
    have hjl : j < (cs.take (i * 2)).length := by
      rcases Nat.lt_or_ge j (cs.take (i * 2)).length with h | h
      · exact h
      · rw [List.getElem?_eq_none h] at hj; simp at hj
    rw [hROW, Array.append_assoc, Array.getElem?_append_left (by simpa using hjl)]
    simpa using hj
  obtain ⟨W1, hW1⟩ : ∃ W1, W1 = w.drew.alloc (.cells ROW 55) := ⟨_, rfl⟩
  rw [← hW1] at hrz
  have hN : ∀ j, j < (n + m) * 2 → (W1.cell? ⟨w.heap.size, j, none⟩).isSome = true := fun j hj => by
    rw [hW1, World.cell?_alloc_at (w := w.drew) ROW _ w.heap.size j rfl, Array.getElem?_eq_getElem (by omega)]; rfl
  have hNf : ∀ j, W1.frozen? ⟨w.heap.size, j, none⟩ = false := fun j => by rw [hW1]; exact World.frozen?_alloc_at (w := w.drew) ROW _ w.heap.size j rfl
  have hOb : ∀ j v, w.cell? ⟨b, j, none⟩ = some v → W1.cell? ⟨b, j, none⟩ = some v := fun j v h => by rw [hW1, World.cell?_alloc_past (w := w.drew) _ b j hbw]; exact h
  have hOv : ∀ j v, w.cell? ⟨vb, j, none⟩ = some v → W1.cell? ⟨vb, j, none⟩ = some v := fun j v h => by rw [hW1, World.cell?_alloc_past (w := w.drew) _ vb j hvw]; exact h
  have hcpA : ∀ (W : World), (∀ x, W.cell? x = W1.cell? x) → (∀ x, W.frozen? x = W1.frozen? x) → ∀ ty dc, (Builtin.copy_ #[22, 22] ty #[.slice (some ⟨w.heap.size, i * 2, none⟩) (n + m - i) dc, .slice (some ⟨vb, voff, none⟩) m vc]).run Tryd.prog W = .ok (goInt (m : Nat)) (W.setCells w.heap.size (i * 2) vs) := fun W hWc hWf ty dc =>
    run_copy_k 2 W _ _ ty 55 w.heap.size (i * 2) (n + m - i) dc ⟨vb, voff, none⟩ m vc vs m t24 hsz (by simp only [Nat.min_def]; split <;> omega) hvl
      (fun j v hj => by rw [Addr.add_lit, hWc]; exact hOv _ v (hvs j v hj))
      (fun j hj => by rw [hWc]; exact hN _ (by omega)) (fun j hj => by rw [hWf]; exact hNf _) h1v
  have hG63 : G ≤ 9223372036854775807 := by
    have := grownCap_le_maxLen w (n + m) c 55 (by unfold maxLen; omega)
    rw [← hG] at this
    unfold maxLen at this
    omega
  have hGi : ¬ (G = i) := by omega
  have hGim : ¬ (G = i + m) := by omega
  have hci : ¬ (c = i) := by omega
  have hbN : b ≠ w.heap.size := by omega
  have hdl : (cs.drop (i * 2)).length = (n - i) * 2 := by rw [List.length_drop, hcl]; omega
  have hcpB : ∀ (W : World), (∀ x, W.cell? x = (W1.setCells w.heap.size (i * 2) vs).cell? x) → (∀ x, W.frozen? x = (W1.setCells w.heap.size (i * 2) vs).frozen? x) → ∀ ty dc sc, (Builtin.copy_ #[22, 22] ty #[.slice (some ⟨w.heap.size, (i + m) * 2, none⟩) (n + m - (i + m)) dc, .slice (some ⟨b, off + i * 2, none⟩) (n - i) sc]).run Tryd.prog W = .ok (goInt (n - i : Nat)) (W.setCells w.heap.size ((i + m) * 2) (cs.drop (i * 2))) := fun W hWc hWf ty dc sc =>
    run_copy_k 2 W _ _ ty 55 w.heap.size ((i + m) * 2) (n + m - (i + m)) dc ⟨b, off + i * 2, none⟩ (n - i) sc (cs.drop (i * 2)) (n - i) t24 hsz (by simp only [Nat.min_def]; split <;> omega) hdl
      (fun j v hj => by
        rw [Addr.add_lit, hWc, World.cell?_setCells_out _ _ _ _ _ (fun h _ => absurd h hbN), Nat.add_assoc]
        exact hOb _ v (hcs (i * 2 + j) v (by rwa [List.getElem?_drop] at hj)))
      (fun j hj => by rw [hWc]; exact isSome_setK _ _ _ _ (fun t ht => hN _ (by omega)) _ (hN _ (by omega)))
      (fun j hj => by rw [hWf, World.frozen?_setCells]; exact hNf _) (fun v hv => h1c v (List.mem_of_mem_drop hv))
  subst hW1
  have hE1 : ∀ x, ((w.alloc (.cells ROW 55)).drew).cell? x = (w.drew.alloc (.cells ROW 55)).cell? x := fun x => rfl
  have hE2 : ∀ x, ((w.alloc (.cells ROW 55)).drew).frozen? x = (w.drew.alloc (.cells ROW 55)).frozen? x := fun x => rfl
  have hF1 : ∀ x, (((w.alloc (.cells ROW 55)).drew.setCells w.heap.size (i * 2) vs).drew).cell? x = ((w.drew.alloc (.cells ROW 55)).setCells w.heap.size (i * 2) vs).cell? x := fun x => rfl
  have hF2 : ∀ x, (((w.alloc (.cells ROW 55)).drew.setCells w.heap.size (i * 2) vs).drew).frozen? x = ((w.drew.alloc (.cells ROW 55)).setCells w.heap.size (i * 2) vs).frozen? x := fun x => rfl
  have hw1 : IntKind.i64.wrap ((i : Int) + (m : Int)) = (i : Int) + (m : Int) := by rw [IntKind.wrap_i64]; omega
  have hb1 : (0 : Int) ≤ (i : Int) + (m : Int) := by omega
  have hin : i ≤ n := by omega
  have htn : ((i : Int) + (m : Int)).toNat = i + m := by omega
  have hb3 : (i : Int) ≤ (n : Int) := by omega
  clear hkk hik hold hROW hG
  go_enter Tryd.func31, Tryd.ntmps31
  go_wp2_with (first
    | (at_builtin; refine Lib.wpList_append_run _ rfl _ _ _ _ rfl _ _ rfl rfl _ _ (hrz _) ?_)
    | (at_builtin; refine wpList_copy_k _ rfl _ _ 22 22 rfl _ _ rfl rfl (hcpA _ hE1 hE2 _ _) ?_)
    | (at_builtin; refine wpList_copy_k _ rfl _ _ 22 22 rfl _ _ rfl rfl (hcpB _ (fun _ => rfl) (fun _ => rfl) _ _ _) ?_))
  go_region_law_o (refine step_copy_k rfl _ _ 22 22 rfl (.slice (some ⟨w.heap.size, (i + m) * 2, none⟩) (n + m - (i + m)) (G - (i + m))) (.slice (some ⟨b, off + i * 2, none⟩) (n - i) (c - i)) (by simp [Act.eval, Act.put]) (by simp [Act.eval, Act.put]) (hcpB _ hF1 hF2 3 (G - (i + m)) (c - i)) ?_)
  go_wp2
  go_ret
  exact ⟨G, ROW, w.drew.drew.drawn, hGn, hRl, hRs, hRt, rfl, by first | rfl | (rw [drew_setK]; rfl) | (simp only [drew_setK]; rfl)⟩
theorem insC31 : InsC Tryd.prog 31 2 22 55 where
  ent := ⟨Tryd.f31, Tryd.func31, by kernel_rfl, by kernel_rfl⟩
  hS := Tryd.underlying22
  hz := by kernel_rfl
  pos := by decide
  info := ⟨_, (Value.agg #[.string ⟨#[]⟩, .slice none 0 0]), rfl, by decide, rfl, rfl⟩
  nothing := fun base n c i vc vb w h1 h2 h3 => ins31_none base n c i vc vb w h1 h2 h3
  end_ := fun base n c m vc vb w w' q h1 h2 h3 h4 h5 => ins31_end base n c m vc vb w w' q h1 h2 h3 h4 h5
  shift := fun b off n c i vb voff m vc cs vs w h1 h2 h3 h4 h5 h6 h7 h8 h9 h10 h11 h12 h13 tA tB kA kB h14 h15 h16 => ins31_shift b off n c i vb voff m vc cs vs w h1 h2 h3 h4 h5 h6 h7 h8 h9 h10 h11 h12 h13 tA tB kA kB h14 h15 h16
  grow := fun b off n c i vb voff m vc cs vs w h1 h2 h3 h4 h5 h6 h7 h8 h9 h10 h11 h12 h13 => ins31_grow b off n c i vb voff m vc cs vs w h1 h2 h3 h4 h5 h6 h7 h8 h9 h10 h11 h12 h13
end Sg
namespace Sg
open _root_.Go (IntKind BinOp UnOp)
set_option linter.unusedSimpArgs false
set_option linter.unusedVariables false
theorem lt_of {i n : Nat} (h : decide ((i : Int) < (n : Int)) = true) : i < n := by simpa using h
theorem eq_of {i n : Nat} (hi : i ≤ n) (h : decide ((i : Int) < (n : Int)) = false) : i = n := by
  have : ¬ i < n := by simpa using h
  omega
theorem inc64 {i n : Nat} (h : i < n) (hn : n < 2 ^ 60) : IntKind.i64.wrap ((i : Int) + 1) = ((i + 1 : Nat) : Int) := wrap64 (by omega) (by omega)
theorem dec64 {n : Nat} (h : 0 < n) (hn : n < 2 ^ 60) : IntKind.i64.wrap ((n : Int) - 1) = ((n - 1 : Nat) : Int) := by rw [wrap64 (by omega) (by omega)]; omega
theorem take_s {α : Type} {l : List α} {i : Nat} {x : α} (h : l[i]? = some x) : l.take (i + 1) = l.take i ++ [x] := by rw [List.take_add_one, h]; rfl
theorem led {a b : Nat} : decide ((a : Int) ≤ (b : Int)) = decide (a ≤ b) := decide_eq_decide.2 (by omega)
end Sg
namespace Sg
open _root_.Go
set_option linter.unusedSimpArgs false
set_option linter.unusedVariables false
theorem decodeN_w (n a b c d : Nat) : 1 ≤ (Lib.decodeN n a b c d).2 ∧ (Lib.decodeN n a b c d).2 ≤ 4 := by
  unfold Lib.decodeN
  repeat' split
  all_goals simp
theorem dN_pos (l : List UInt8) : 1 ≤ (dN l).2 := (decodeN_w ..).1
def bad (l : List UInt8) : Bool := decide (dN l = (65533, 1))
def letsF : Nat → List UInt8 → List Int
  | 0, _ => []
  | f + 1, l => if l = [] then [] else ((dN l).1 : Int) :: letsF f (l.drop (dN l).2)
def lets (l : List UInt8) : List Int := letsF l.length l
theorem drop_lt {l : List UInt8} (h : l ≠ []) : (l.drop (dN l).2).length < l.length := by
  have := dN_pos l
  have : 0 < l.length := List.length_pos_iff.2 h
  rw [List.length_drop]; omega
theorem letsF_eq : ∀ (f : Nat) (l : List UInt8), l.length ≤ f → letsF f l = lets l
  | 0, l, h => by
    obtain rfl : l = [] := List.eq_nil_of_length_eq_zero (by omega)
    rfl
  | f + 1, l, h => by
    by_cases hl : l = []
    · subst hl; simp [letsF, lets]
    · have hd := drop_lt hl
      have h1 := letsF_eq f (l.drop (dN l).2) (by omega)
      obtain ⟨n, hn⟩ : ∃ n, l.length = n + 1 := ⟨l.length - 1, by omega⟩
      have h2 : letsF n (l.drop (dN l).2) = lets (l.drop (dN l).2) := letsF_eq n _ (by omega)
      have e : lets l = ((dN l).1 : Int) :: letsF n (l.drop (dN l).2) := by
        rw [lets, hn]; simp only [letsF, hl, if_false]
      rw [e, h2]
      simp only [letsF, hl, if_false, h1]
  termination_by f => f
theorem lets_nil : lets [] = [] := rfl
theorem lets_cons {l : List UInt8} (h : l ≠ []) : lets l = ((dN l).1 : Int) :: lets (l.drop (dN l).2) := by
  have hd := drop_lt h
  obtain ⟨n, hn⟩ : ∃ n, l.length = n + 1 := ⟨l.length - 1, by omega⟩
  rw [lets, hn]
  simp only [letsF, h, if_false]
  rw [letsF_eq n _ (by omega)]
theorem keyAll_eq : ∀ (f : Nat) (l : List UInt8), l.length ≤ f → keyAll f l = keyAll l.length l
  | 0, l, h => by
    obtain rfl : l = [] := List.eq_nil_of_length_eq_zero (by omega)
    rfl
  | f + 1, l, h => by
    by_cases hl : l = []
    · subst hl; simp [keyAll]
    · have hd := drop_lt hl
      have h1 := keyAll_eq f (l.drop (dN l).2) (by omega)
      obtain ⟨n, hn⟩ : ∃ n, l.length = n + 1 := ⟨l.length - 1, by omega⟩
      have h2 := keyAll_eq n (l.drop (dN l).2) (by omega)
      have e : keyAll l.length l = (plainR (dN l).1 (dN l).2 && keyAll n (l.drop (dN l).2)) := by
        rw [hn]; simp only [keyAll, hl, if_false]
      rw [e, h2]
      simp only [keyAll, hl, if_false, h1]
  termination_by f => f
theorem keyAll_cons {l : List UInt8} (h : l ≠ []) : keyAll l.length l = (plainR (dN l).1 (dN l).2 && keyAll (l.drop (dN l).2).length (l.drop (dN l).2)) := by
  have hd := drop_lt h
  obtain ⟨n, hn⟩ : ∃ n, l.length = n + 1 := ⟨l.length - 1, by omega⟩
  rw [hn]
  simp only [keyAll, h, if_false]
  rw [keyAll_eq n _ (by omega)]
theorem dec0 {n a b c d : Nat} (h : (128 ≤ a ∧ a < 194) ∨ (245 ≤ a ∧ a < 256)) : Lib.decodeN n a b c d = (65533, 1) := by
  unfold Lib.decodeN
  repeat' split
  all_goals first | (exfalso; omega) | rfl
theorem dec2 {n a b c d : Nat} (h : 194 ≤ a ∧ a < 224) : Lib.decodeN n a b c d = if 1 < n ∧ b / 64 = 2 then (a % 32 * 64 + b % 64, 2) else (65533, 1) := by
  unfold Lib.decodeN
  repeat' split
  all_goals first | (exfalso; omega) | rfl
theorem dec3 {n a b c d : Nat} (h : 224 ≤ a ∧ a < 240) : Lib.decodeN n a b c d = if (1 < n ∧ b / 64 = 2) ∧ (2 < n ∧ c / 64 = 2) ∧ 2048 ≤ a % 16 * 4096 + b % 64 * 64 + c % 64 ∧ (a % 16 * 4096 + b % 64 * 64 + c % 64 < 55296 ∨ 57344 ≤ a % 16 * 4096 + b % 64 * 64 + c % 64) then (a % 16 * 4096 + b % 64 * 64 + c % 64, 3) else (65533, 1) := by
  unfold Lib.decodeN
  repeat' split
  all_goals first | (exfalso; omega) | rfl
theorem dec4 {n a b c d : Nat} (h : 240 ≤ a ∧ a < 245) : Lib.decodeN n a b c d = if (1 < n ∧ b / 64 = 2) ∧ (2 < n ∧ c / 64 = 2) ∧ (3 < n ∧ d / 64 = 2) ∧ 65536 ≤ a % 8 * 262144 + b % 64 * 4096 + c % 64 * 64 + d % 64 ∧ a % 8 * 262144 + b % 64 * 4096 + c % 64 * 64 + d % 64 ≤ 1114111 then (a % 8 * 262144 + b % 64 * 4096 + c % 64 * 64 + d % 64, 4) else (65533, 1) := by
  unfold Lib.decodeN
  repeat' split
  all_goals first | (exfalso; omega) | rfl
theorem dec1 {n a b c d : Nat} (h : a < 128) : Lib.decodeN n a b c d = (a, 1) := by
  unfold Lib.decodeN; rw [if_pos h]
theorem dN_cases {l : List UInt8} (h : l ≠ []) : dN l = (65533, 1) ∨ (∃ b0 t, l = b0 :: t ∧ b0.toNat < 128 ∧ dN l = (b0.toNat, 1)) ∨
    (∃ b0 b1 t, l = b0 :: b1 :: t ∧ (194 ≤ b0.toNat ∧ b0.toNat < 224) ∧ b1.toNat / 64 = 2 ∧ dN l = (b0.toNat % 32 * 64 + b1.toNat % 64, 2)) ∨
    (∃ b0 b1 b2 t, l = b0 :: b1 :: b2 :: t ∧ (224 ≤ b0.toNat ∧ b0.toNat < 240) ∧ b1.toNat / 64 = 2 ∧ b2.toNat / 64 = 2 ∧ 2048 ≤ b0.toNat % 16 * 4096 + b1.toNat % 64 * 64 + b2.toNat % 64 ∧ dN l = (b0.toNat % 16 * 4096 + b1.toNat % 64 * 64 + b2.toNat % 64, 3)) ∨
    (∃ b0 b1 b2 b3 t, l = b0 :: b1 :: b2 :: b3 :: t ∧ (240 ≤ b0.toNat ∧ b0.toNat < 245) ∧ b1.toNat / 64 = 2 ∧ b2.toNat / 64 = 2 ∧ b3.toNat / 64 = 2 ∧ 65536 ≤ b0.toNat % 8 * 262144 + b1.toNat % 64 * 4096 + b2.toNat % 64 * 64 + b3.toNat % 64 ∧ dN l = (b0.toNat % 8 * 262144 + b1.toNat % 64 * 4096 + b2.toNat % 64 * 64 + b3.toNat % 64, 4)) := by
  obtain ⟨b0, t, rfl⟩ := List.exists_cons_of_ne_nil h
  have l0 := b0.toNat_lt
  have e0 : (b0 :: t).getD 0 0 = b0 := rfl
  have e1 : (b0 :: t).getD 1 0 = t.getD 0 0 := rfl
  have e2 : (b0 :: t).getD 2 0 = t.getD 1 0 := rfl
  have e3 : (b0 :: t).getD 3 0 = t.getD 2 0 := rfl
  by_cases c1 : b0.toNat < 128
  · exact .inr (.inl ⟨b0, t, rfl, c1, by rw [dN, e0, dec1 c1]⟩)
  by_cases c2 : 194 ≤ b0.toNat ∧ b0.toNat < 224
  · match t with
    | [] => left; rw [dN, e0, dec2 c2]; simp
    | b1 :: t =>
      by_cases d : b1.toNat / 64 = 2
      · exact .inr (.inr (.inl ⟨b0, b1, t, rfl, c2, d, by rw [dN, e0, dec2 c2, if_pos ⟨by simp, by simpa [e1] using d⟩]; rfl⟩))
      · left; rw [dN, e0, dec2 c2, if_neg (fun e => d (by simpa [e1] using e.2))]
  by_cases c3 : 224 ≤ b0.toNat ∧ b0.toNat < 240
  · match t with
    | [] => left; rw [dN, e0, dec3 c3]; simp
    | [b1] => left; rw [dN, e0, dec3 c3]; simp
    | b1 :: b2 :: t =>
      have g1 : (b0 :: b1 :: b2 :: t).getD 1 0 = b1 := rfl
      have g2 : (b0 :: b1 :: b2 :: t).getD 2 0 = b2 := rfl
      rw [dN, e0, g1, g2, dec3 c3]
      split
      · rename_i hc
        exact .inr (.inr (.inr (.inl ⟨b0, b1, b2, t, rfl, c3, hc.1.2, hc.2.1.2, hc.2.2.1, rfl⟩)))
      · exact .inl rfl
  by_cases c4 : 240 ≤ b0.toNat ∧ b0.toNat < 245
  · match t with
    | [] => left; rw [dN, e0, dec4 c4]; simp
    | [b1] => left; rw [dN, e0, dec4 c4]; simp
    | [b1, b2] => left; rw [dN, e0, dec4 c4]; simp
    | b1 :: b2 :: b3 :: t =>
      have g1 : (b0 :: b1 :: b2 :: b3 :: t).getD 1 0 = b1 := rfl
      have g2 : (b0 :: b1 :: b2 :: b3 :: t).getD 2 0 = b2 := rfl
      have g3 : (b0 :: b1 :: b2 :: b3 :: t).getD 3 0 = b3 := rfl
      rw [dN, e0, g1, g2, g3, dec4 c4]
      split
      · rename_i hc
        exact .inr (.inr (.inr (.inr ⟨b0, b1, b2, b3, t, rfl, c4, hc.1.2, hc.2.1.2, hc.2.2.1.2, hc.2.2.2.1, rfl⟩)))
      · exact .inl rfl
  · left; rw [dN, e0, dec0 (by omega)]
theorem u8_eq {a b : UInt8} (h : a.toNat = b.toNat) : a = b := UInt8.toNat_inj.1 h
theorem dN_inj {l l' : List UInt8} (h : l ≠ []) (h' : l' ≠ []) (n : dN l ≠ (65533, 1)) (n' : dN l' ≠ (65533, 1)) (e : (dN l).1 = (dN l').1) : (dN l).2 = (dN l').2 ∧ l.take (dN l).2 = l'.take (dN l').2 := by
  rcases dN_cases h with c | ⟨a0, t, rfl, q, c⟩ | ⟨a0, a1, t, rfl, q, q1, c⟩ | ⟨a0, a1, a2, t, rfl, q, q1, q2, q3, c⟩ | ⟨a0, a1, a2, a3, t, rfl, q, q1, q2, q3, q4, c⟩
  · exact absurd c n
  all_goals
    rcases dN_cases h' with c' | ⟨b0, t', rfl, p, c'⟩ | ⟨b0, b1, t', rfl, p, p1, c'⟩ | ⟨b0, b1, b2, t', rfl, p, p1, p2, p3, c'⟩ | ⟨b0, b1, b2, b3, t', rfl, p, p1, p2, p3, p4, c'⟩
    · exact absurd c' n'
    all_goals
      rw [c, c'] at e
      simp only at e
      first
        | (exfalso; omega)
        | (rw [c, c']; refine ⟨rfl, ?_⟩; simp only [List.take_succ_cons, List.take_zero, List.cons.injEq, and_true])
  · exact u8_eq e
  · exact ⟨u8_eq (by omega), u8_eq (by omega)⟩
  · exact ⟨u8_eq (by omega), u8_eq (by omega), u8_eq (by omega)⟩
  · exact ⟨u8_eq (by omega), u8_eq (by omega), u8_eq (by omega), u8_eq (by omega)⟩
theorem plain_ok {l : List UInt8} (h : plainR (dN l).1 (dN l).2 = true) : dN l ≠ (65533, 1) := fun e => by
  rw [e] at h; simp [plainR] at h
theorem lets_inj : ∀ (n : Nat) (l l' : List UInt8), l.length ≤ n → keyAll l.length l = true → keyAll l'.length l' = true → lets l = lets l' → l = l'
  | n, l, l', hn, k, k', e => by
    by_cases h : l = []
    · by_cases h' : l' = []
      · rw [h, h']
      · rw [h, lets_nil, lets_cons h'] at e; simp at e
    · by_cases h' : l' = []
      · rw [h', lets_nil, lets_cons h] at e; simp at e
      · rw [lets_cons h, lets_cons h', List.cons.injEq] at e
        rw [keyAll_cons h, Bool.and_eq_true] at k
        rw [keyAll_cons h', Bool.and_eq_true] at k'
        obtain ⟨e1, e2⟩ := dN_inj h h' (plain_ok k.1) (plain_ok k'.1) (by omega)
        have hd := drop_lt h
        have hl : 0 < l.length := List.length_pos_iff.2 h
        have e3 := lets_inj (n - 1) _ _ (by omega) k.2 k'.2 e.2
        rw [← List.take_append_drop (dN l).2 l, ← List.take_append_drop (dN l').2 l', e2, e3]
  termination_by n => n
def cmpL : List Int → List Int → Int
  | [], [] => 0
  | [], _ :: _ => -1
  | _ :: _, [] => 1
  | a :: l, b :: k => if a < b then -1 else if b < a then 1 else cmpL l k
theorem cmpL_neg : ∀ (a b : List Int), cmpL b a = - cmpL a b
  | [], [] => by simp [cmpL]
  | [], _ :: _ => by simp [cmpL]
  | _ :: _, [] => by simp [cmpL]
  | a :: l, b :: k => by
    simp only [cmpL]
    have := cmpL_neg l k
    repeat' split
    all_goals omega
theorem cmpL_eq : ∀ (a b : List Int), cmpL a b = 0 → a = b
  | [], [], _ => rfl
  | [], _ :: _, h => by simp [cmpL] at h
  | _ :: _, [], h => by simp [cmpL] at h
  | a :: l, b :: k, h => by
    simp only [cmpL] at h
    split at h
    · simp at h
    · split at h
      · simp at h
      · have := cmpL_eq l k h
        have : a = b := by omega
        simp_all
theorem cmpL_lt' {a b : Int} {l k : List Int} (h : a < b) : cmpL (a :: l) (b :: k) = -1 := by simp [cmpL, h]
theorem cmpL_gt' {a b : Int} {l k : List Int} (h : b < a) : cmpL (a :: l) (b :: k) = 1 := by
  have : ¬ a < b := by omega
  simp [cmpL, h, this]
theorem cmpL_eq' {a : Int} {l k : List Int} : cmpL (a :: l) (a :: k) = cmpL l k := by simp [cmpL]
theorem cmpL_tr : ∀ (a b c : List Int), cmpL a b ≤ 0 → cmpL b c ≤ 0 → cmpL a c ≤ 0 ∧ (cmpL a b < 0 ∨ cmpL b c < 0 → cmpL a c < 0)
  | [], [], c, h1, h2 => by
    have : cmpL [] [] = 0 := rfl
    omega
  | [], _ :: _, [], h1, h2 => by simp [cmpL] at h2
  | [], _ :: _, _ :: _, h1, h2 => by simp [cmpL]
  | _ :: _, [], _, h1, h2 => by simp [cmpL] at h1
  | a :: l, b :: k, [], h1, h2 => by simp [cmpL] at h2
  | a :: l, b :: k, c :: m, h1, h2 => by
    have ih := cmpL_tr l k m
    rcases Int.lt_trichotomy a b with p | p | p
    · rw [cmpL_lt' p] at h1 ⊢
      rcases Int.lt_trichotomy b c with q | q | q
      · rw [cmpL_lt' (show a < c by omega)]; omega
      · rw [cmpL_lt' (show a < c by omega)]; omega
      · rw [cmpL_gt' q] at h2; omega
    · subst p
      rw [cmpL_eq'] at h1 ⊢
      rcases Int.lt_trichotomy a c with q | q | q
      · rw [cmpL_lt' q]; omega
      · subst q
        rw [cmpL_eq'] at h2 ⊢
        rw [cmpL_eq']
        exact ih h1 h2
      · rw [cmpL_gt' q] at h2; omega
    · rw [cmpL_gt' p] at h1; omega
end Sg
namespace Sg
open _root_.Go (IntKind BinOp UnOp)
set_option linter.unusedSimpArgs false
set_option linter.unusedVariables false
set_option maxRecDepth 10000
variable {Pg : Nat → Option Fn}
@[go_sem] theorem idx_0 {b : UInt8} {t : List UInt8} {k : IntKind} : idxV (.str (b :: t)) (.int k 0) = some (.int .u8 b.toNat) := rfl
@[go_sem high] theorem sl_str {s : List UInt8} {z : Nat} {k : IntKind} {n : Nat} (h : n ≤ s.length) : slV true z (.str s) (some (.int k (n : Int))) none = some (.str (s.drop n)) := by
  simp [slV, bound, h]
def H191 (Pg : Nat → Option Fn) : Prop := Pg 191 = some (.code F191)
theorem K191 (h : H191 Pg) (r n : Int) : K' Pg 191 [.int .i32 r, .int .i64 n] = some (.bool (plainR r n)) := by
  refine K'_code h rfl ?_
  simp only [go_sem]
  cases c1 : decide (33 ≤ r) <;> cases c2 : decide (r < 127) <;> cases c3 : decide (159 < r) <;> cases c4 : decide (r = 65533) <;> cases c5 : decide (n = 3) <;>
    simp only [go_sem, plainR, c1, c2, c3, c4, c5]
def H190 (Pg : Nat → Option Fn) : Prop := Pg 190 = some (.prim none decQ)
theorem K190 (h : H190 Pg) (s : List UInt8) : K' Pg 190 [.str s] = some (.tuple [.int .i32 (decL s).1, .int .i64 (decL s).2]) := by
  rw [K'_prim h]; rfl
def H170 (Pg : Nat → Option Fn) : Prop := Pg 170 = some (.prim none keyQ)
theorem K170 (h : H170 Pg) (s : List UInt8) : K' Pg 170 [.str s] = some (.bool (keyR s)) := by
  rw [K'_prim h]; rfl
@[go_sem] def eLN (x : Int × Int) : V := .tuple [iz x.1, iz x.2]
end Sg
namespace Sg
open _root_.Go _root_.Go.RowKit _root_.Go.Proofs
set_option linter.unusedSimpArgs false
set_option linter.unusedVariables false
def plainFm : List (Nat × Nat) := [(191, 48)]
theorem okPlain : okF Tryd.prog (cxU plainFm) (onePg 191 F191) 48 F191 = true := by kernel_rfl
theorem plain_walk (r n : Int) (w : World) (hgn : 2 ≤ w.heap.size) (hT : Lib.Utf8Tabs 0 1 w) :
    Calls Tryd.prog 48 #[.int .i32 r, .int .i64 n] w fun e w' => e = .returned (.bool (plainR r n)) ∧ Below w.heap.size w w' := by
  have hk : K' (onePg 191 F191) 191 [.int .i32 r, .int .i64 n] = some (.bool (plainR r n)) := K191 (by simp [H191, onePg]) r n
  obtain ⟨m, hm⟩ := K'_iff.1 hk
  have hc := callN_sound (P := Tryd.prog) (cx := cxU plainFm) (Pg := onePg 191 F191) (by kernel_rfl) (fun f F hF => by
      unfold onePg at hF
      split at hF <;> simp only [Option.some.injEq, Fn.code.injEq, reduceCtorEq] at hF
      rename_i e; subst e; subst hF; exact okPlain) (fun f own p hp => by
      unfold onePg at hp
      split at hp <;> simp at hp) (fun f z p _ hp => by
      unfold onePg at hp
      split at hp <;> simp at hp) (fun f z p hp => by
      unfold onePg at hp
      split at hp <;> simp at hp) m 191 _ _ hm
  refine (hc.2 w (fun _ => False) #[.int .i32 r, .int .i64 n] (fun b hb => hb.elim) hgn hT rfl (fun i hi => by
    match i, hi with
    | 0, _ => exact ⟨_, rfl, .int _ _⟩
    | 1, _ => exact ⟨_, rfl, .int _ _⟩
    | k + 2, hi => exact absurd hi (by simp))).mono fun e w' ⟨v, he, hb, hr⟩ => ?_
  have hr := hr.data (fun b hb => hb.elim)
  cases hr
  exact ⟨he, hb⟩
theorem decCt (l : List (Nat × Nat)) (id : Nat) (h : (cxU l).fm id = 47) : ∀ args r, decQ args = some r → Ctr Tryd.prog (cxU l) none id args r :=
  dec_ctr (by rw [h]; exact ⟨_, Tryd.func47, by kernel_rfl, by kernel_rfl⟩) fun s w hG => by rw [h]; exact dec_walk s w hG
theorem keyCt (l : List (Nat × Nat)) (id : Nat) (h : (cxU l).fm id = 27) : ∀ args r, keyQ args = some r → Ctr Tryd.prog (cxU l) none id args r :=
  key_ctr (by rw [h]; exact ⟨_, Tryd.func27, by kernel_rfl, by kernel_rfl⟩) fun s w hgn hG => by rw [h]; exact key_walk s w hgn hG plain_walk
end Sg
namespace Sg
open _root_.Go
set_option linter.unusedSimpArgs false
set_option linter.unusedVariables false
theorem has_int {k : IntKind} {x : V} (h : Has (.int k) x) : ∃ n, x = .int k n ∧ (Lit.int k n).wf = true := by cases h; exact ⟨_, rfl, by assumption⟩
theorem has_bool {x : V} (h : Has .bool x) : ∃ b, x = .bool b := by cases h; exact ⟨_, rfl⟩
theorem has_str {x : V} (h : Has .str x) : ∃ s, x = .str s ∧ s.length ≤ maxLen := by cases h; exact ⟨_, rfl, by assumption⟩
theorem has_slice {r : List CT} {x : V} (h : Has (.slice r) x) : ∃ rows : List (List V), x = .slice r.length rows ∧ rows.length ≤ maxLen ∧ ∀ row ∈ rows, HasRow r row := by
  cases h with
  | slice r rows hl hz h =>
    refine ⟨rows, rfl, hl, fun row hrow => ?_⟩
    obtain ⟨i, hi, rfl⟩ := List.getElem_of_mem hrow
    have hg : gr rows i = rows[i] := by simp [gr, hi]
    exact ⟨by rw [← hg]; exact hz i hi, fun j hj => by rw [← hg]; exact h i j hi hj⟩
theorem rows_enc {α : Type} {enc : α → List V} {Q : α → Prop} : ∀ {rows : List (List V)}, (∀ row ∈ rows, ∃ a, row = enc a ∧ Q a) → ∃ l : List α, rows = l.map enc ∧ ∀ a ∈ l, Q a
  | [], _ => ⟨[], rfl, fun a ha => by simp at ha⟩
  | row :: rows, h => by
    obtain ⟨a, rfl, ha⟩ := h row (by simp)
    obtain ⟨l, rfl, hl⟩ := rows_enc (rows := rows) (fun r hr => h r (by simp [hr]))
    exact ⟨a :: l, rfl, fun b hb => by
      rcases List.mem_cons.1 hb with rfl | hb
      · exact ha
      · exact hl b hb⟩
theorem arg_str {x : V} (h : ArgV (false, [.str]) x) : ∃ s, x = .str s ∧ s.length ≤ maxLen := by
  obtain ⟨c, hc, h⟩ := h
  simp only [List.cons.injEq, and_true] at hc; subst hc
  exact has_str h
end Sg
namespace Sg
open _root_.Go (IntKind BinOp UnOp)
set_option linter.unusedSimpArgs false
set_option linter.unusedVariables false
variable {Pg : Nat → Option Fn}
structure Stamp where
  wall : Int
  tick : Int
  node : Int
  deriving DecidableEq
structure Ver where
  at_ : Stamp
  gone : Bool
  val : List UInt8
  deriving DecidableEq
@[go_sem] def eStamp (s : Stamp) : List V := [iz s.wall, iz s.tick, iz s.node]
@[go_sem] def eVer (v : Ver) : List V := [iz v.at_.wall, iz v.at_.tick, iz v.at_.node, .bool v.gone, .str v.val]
def eChain (c : List Ver) : V := .slice 5 (c.map eVer)
def within (a b : Int) : Bool := decide (0 ≤ a) && decide (a ≤ b)
def cmpI (a b : Int) : Int := if a < b then -1 else if b < a then 1 else 0
def orI : List Int → Int
  | [] => 0
  | a :: l => if a = 0 then orI l else a
def stampRight (s : Stamp) : Bool := within s.wall 1099511627776 && within s.tick 1048576 && within s.node 255
def stampCmp (a b : Stamp) : Int := orI [cmpI a.wall b.wall, cmpI a.tick b.tick, cmpI a.node b.node]
def verRight (v : Ver) : Bool := stampRight v.at_ && decide (v.val.length ≤ 16) && (!v.gone || decide (v.val = []))
def H32 (Pg : Nat → Option Fn) : Prop := Pg 32 = some (.code F32)
theorem K32 (h : H32 Pg) (a b : Int) : K' Pg 32 [iz a, iz b] = some (.bool (within a b)) := by
  refine K'_code h rfl ?_
  simp only [go_sem]
  refine wrg_it (fun h => ?_) (fun h => ?_) <;> simp only [go_sem, h, within]
def H31 (Pg : Nat → Option Fn) : Prop := Pg 31 = some (.code F31)
theorem K31 (h : H31 Pg) (a : Int) : K' Pg 31 [iz a] = some (.bool false) := by
  refine K'_code h rfl ?_
  simp only [go_sem]
def H26 (Pg : Nat → Option Fn) : Prop := Pg 26 = some (.code F26) ∧ H31 Pg
theorem K26 (h : H26 Pg) (a b : Int) : K' Pg 26 [iz a, iz b] = some (iz (cmpI a b)) := by
  obtain ⟨h, h31⟩ := h
  refine K'_code h rfl ?_
  have k31 := fun x => K31 h31 x
  simp only [go_sem, k31]
  repeat' (refine wpc_i (fun h => ?_) (fun h => ?_) <;> simp only [go_sem])
  all_goals simp_all [cmpI]
  omega
def H27 (Pg : Nat → Option Fn) : Prop := Pg 27 = some (.code F27)
theorem K27 (h : H27 Pg) (l : List Int) (hl : l.length < 2 ^ 60) : K' Pg 27 [.slice 1 (l.map fun a => [iz a])] = some (iz (orI l)) := by
  refine K'_code h rfl ?_
  simp only [go_sem]
  unfold l27_0
  refine wp_lp (fun (i : Nat) S => i ≤ l.length ∧ S.ρ 3 = iz 0 ∧ S.ρ 6 = .slice 1 (l.map fun a => [iz a]) ∧ S.ρ 7 = iz l.length ∧ S.ρ 8 = iz i ∧ orI (l.drop i) = orI l) (fun i => l.length - i) 0 ?_ ?_
  · simp [go_sem]
  · intro i S ⟨hi, h3, h6, h7, h8, ho⟩
    simp only [go_sem, h3, h6, h7, h8]
    refine wpc_i (fun h => ?_) (fun h => ?_)
    · simp only [decide_eq_true_eq, Int.ofNat_lt] at h
      obtain ⟨x, hx, hd⟩ := drop_at h
      simp only [go_sem, h3, h6, h7, h8, hx]
      refine wpc_i (fun h => ?_) (fun h => ?_)
      · simp only [go_sem]
        simp only [Bool.not_eq_true', decide_eq_false_iff_not] at h
        rw [← ho, hd]; simp [orI, h]
      · simp only [go_sem, h3, h6, h7, h8]
        simp only [Bool.not_eq_false', decide_eq_true_eq] at h
        refine ⟨i + 1, by omega, by omega, ?_, by rw [← ho, hd]; simp [orI, h]⟩
        rw [wrap64 (by omega) (by omega)]; rfl
    · simp only [decide_eq_false_iff_not, Int.ofNat_lt] at h
      simp only [go_sem, h3]
      have : i = l.length := by omega
      rw [← ho, this]; simp [orI]
def H15 (Pg : Nat → Option Fn) : Prop := Pg 15 = some (.code F15) ∧ H26 Pg ∧ H27 Pg
theorem K15 (h : H15 Pg) (a b : Stamp) : K' Pg 15 [.agg (eStamp a), .agg (eStamp b)] = some (iz (stampCmp a b)) := by
  obtain ⟨h, h26, h27⟩ := h
  refine K'_code h rfl ?_
  have k26 := fun x y => K26 h26 x y
  have k27 := K27 h27 [cmpI a.wall b.wall, cmpI a.tick b.tick, cmpI a.node b.node] (by simp)
  simp only [List.map_cons, List.map_nil] at k27
  simp only [go_sem, k26, k27, stampCmp]
def H28 (Pg : Nat → Option Fn) : Prop := Pg 28 = some (.code F28) ∧ H32 Pg
theorem K28 (h : H28 Pg) (a : Stamp) : K' Pg 28 [.agg (eStamp a)] = some (.bool (stampRight a)) := by
  obtain ⟨h, h32⟩ := h
  refine K'_code h rfl ?_
  have k := fun x y => K32 h32 x y
  simp only [go_sem, k]
  repeat' (refine wrg_it (fun h => ?_) (fun h => ?_) <;> simp only [go_sem, h, k, stampRight])
def H22 (Pg : Nat → Option Fn) : Prop := Pg 22 = some (.code F22) ∧ H28 Pg
theorem K22 (h : H22 Pg) (a : Ver) : K' Pg 22 [.agg (eVer a)] = some (.bool (verRight a)) := by
  obtain ⟨h, h28⟩ := h
  refine K'_code h rfl ?_
  have k := K28 h28 a.at_
  simp only [eStamp] at k
  simp only [go_sem, k]
  repeat' (first | refine wrg_it (fun h => ?_) (fun h => ?_) <;> simp only [go_sem, h, k] | refine wrg_if (fun h => ?_) (fun h => ?_) <;> simp only [go_sem, h, k])
  all_goals simp_all [verRight]
  all_goals omega
def chR : Option Ver → List Ver → Bool
  | _, [] => true
  | p, v :: l => verRight v && (match p with | none => true | some q => decide (stampCmp q.at_ v.at_ < 0)) && chR (some v) l
def chainRight (c : List Ver) : Bool := chR none c && decide (c.length ≤ 64)
def prevAt (c : List Ver) (i : Nat) : Option Ver := if i = 0 then none else c[i - 1]?
def H7 (Pg : Nat → Option Fn) : Prop := Pg 7 = some (.code F7) ∧ H22 Pg ∧ H15 Pg
theorem K7 (h : H7 Pg) (l : List Ver) (hl : l.length < 2 ^ 60) : K' Pg 7 [eChain l] = some (.bool (chainRight l)) := by
  obtain ⟨h, h22, h15⟩ := h
  refine K'_code h rfl ?_
  have k22 := fun x => K22 h22 x
  have k15 := fun x y => K15 h15 x y
  simp only [go_sem, eChain]
  unfold l7_0
  refine wp_lp (fun (i : Nat) S => i ≤ l.length ∧ S.ρ 0 = eChain l ∧ S.ρ 5 = eChain l ∧ S.ρ 6 = iz l.length ∧ S.ρ 7 = iz i ∧ S.μ 4 = none ∧ chR (prevAt l i) (l.drop i) = chR none l) (fun i => l.length - i) 0 ?_ ?_
  · simp [go_sem, eChain, prevAt]
  · intro i S ⟨hi, h0, h5, h6, h7, hm, ho⟩
    simp only [go_sem, h5, h6, h7, h0]
    refine wpc_i (fun h => ?_) (fun h => ?_)
    · simp only [decide_eq_true_eq, Int.ofNat_lt] at h
      obtain ⟨x, hx, hd⟩ := drop_at h
      simp only [eStamp, eVer] at k22 k15
      have hstep : (verRight x = true → chR (prevAt l i) (x :: l.drop (i + 1)) = ((match prevAt l i with | none => true | some q => decide (stampCmp q.at_ x.at_ < 0)) && chR (some x) (l.drop (i + 1)))) := fun h => by simp [chR, h]
      have hnext : prevAt l (i + 1) = some x := by simp [prevAt, hx]
      have hinc : IntKind.i64.wrap ((i : Int) + 1) = ((i + 1 : Nat) : Int) := wrap64 (by omega) (by omega)
      have hbad : verRight x = false → chR none l = false := fun h => by rw [← ho, hd]; simp [chR, h]
      cases hv : verRight x with
      | false => simp only [go_sem, h0, h5, h6, h7, hx, eChain, hm, k22, hv, Bool.not_false, chainRight, hbad hv]
      | true =>
        rcases Nat.eq_zero_or_pos i with hz | hz
        · have hgt : decide ((0 : Int) < (i : Int)) = false := by simp [hz]
          simp only [go_sem, h0, h5, h6, h7, hx, eChain, hm, k22, hv, Bool.not_true, hgt]
          refine ⟨i + 1, by omega, by omega, by rw [hinc], ?_⟩
          rw [hnext, ← ho, hd, hstep hv]; simp [prevAt, hz]
        · have hgt : decide ((0 : Int) < (i : Int)) = true := by simp [hz]
          have hdec : IntKind.i64.wrap ((i : Int) - 1) = ((i - 1 : Nat) : Int) := by rw [wrap64 (by omega) (by omega)]; omega
          have hy : l[i - 1]? = some l[i - 1] := by simp
          have hp : prevAt l i = some l[i - 1] := by simp [prevAt, Nat.ne_of_gt hz]
          simp only [go_sem, h0, h5, h6, h7, hx, eChain, hm, k22, hv, Bool.not_true, hgt, hdec, hy, k15]
          refine wpc_i (fun hc => ?_) (fun hc => ?_)
          · simp only [go_sem]
            have : ¬ stampCmp l[i - 1].at_ x.at_ < 0 := by simpa using hc
            have : chR none l = false := by rw [← ho, hd, hstep hv, hp]; simp [this]
            simp [chainRight, this]
          · simp only [go_sem, h0, h5, h6, h7, hm, eChain]
            have : stampCmp l[i - 1].at_ x.at_ < 0 := by simpa using hc
            refine ⟨i + 1, by omega, by omega, by rw [hinc], ?_⟩
            rw [hnext, ← ho, hd, hstep hv, hp]; simp [this]
    · simp only [decide_eq_false_iff_not, Int.ofNat_lt] at h
      simp only [go_sem, h0, eChain]
      have : i = l.length := by omega
      subst this
      simp [chR] at ho
      have : (decide ((l.length : Int) ≤ 64)) = decide (l.length ≤ 64) := decide_eq_decide.2 (by omega)
      simp [chainRight, ← ho, this]
def H30 (Pg : Nat → Option Fn) : Prop := Pg 30 = some (.code F30) ∧ H15 Pg
theorem K30 (h : H30 Pg) (v : Ver) (s : Stamp) : K' Pg 30 [.agg (eVer v), .agg (eStamp s)] = some (iz (stampCmp v.at_ s)) := by
  obtain ⟨h, h15⟩ := h
  refine K'_code h rfl ?_
  have k15 := fun x y => K15 h15 x y
  simp only [eStamp] at k15
  simp only [go_sem, k15]
def H29 (Pg : Nat → Option Fn) : Prop := Pg 29 = some (.code F29)
theorem K29 (h : H29 Pg) (l : List Ver) (s : Stamp) (g : Nat) (f : Nat → Int) (n : Nat) (hl : l.length < 2 ^ 60)
    (hg : ∀ i v, l[i]? = some v → K' Pg g [.agg (eVer v), .agg (eStamp s)] = some (iz (f i))) (hn : n ≤ l.length) (h1 : ∀ j, j < n → f j < 0) (h2 : ∀ j, n ≤ j → j < l.length → 0 ≤ f j) :
    K' Pg 29 [eChain l, .agg (eStamp s), .func g []] = some (.tuple [iz n, .bool (decide (n < l.length) && decide (f n = 0))]) := by
  refine K'_code h rfl ?_
  simp only [eStamp, eVer] at hg
  simp only [go_sem, eChain]
  unfold l29_0
  refine wp_lp (fun (p : Nat × Nat) S => p.1 ≤ n ∧ n ≤ p.2 ∧ p.2 ≤ l.length ∧ S.ρ 0 = eChain l ∧ S.ρ 2 = .func g [] ∧ S.ρ 4 = .lref 4 0 ∧ S.μ 4 = some (eStamp s, false) ∧ S.ρ 8 = iz l.length ∧ S.ρ 9 = iz p.1 ∧ S.ρ 10 = iz p.2) (fun p => p.2 - p.1) (0, l.length) ?_ ?_
  · simp [go_sem, eChain, hn]
  · intro ⟨i, j⟩ S ⟨hi, hj, hjl, h0, h2', h4, hm, h8, h9, h10⟩
    simp only at hi hj hjl h9 h10
    simp only [go_sem, h0, h2', h4, hm, h8, h9, h10]
    refine wpc_i (fun h => ?_) (fun h => ?_)
    · simp only [decide_eq_true_eq, Int.ofNat_lt] at h
      have e1 : IntKind.i64.wrap ((i : Int) + j) = (i : Int) + j := wrap64 (by omega) (by omega)
      have e2 : IntKind.u64.wrap ((i : Int) + j) = (i : Int) + j := _root_.Go.IntWalk.u64_in _ ⟨by omega, by omega⟩
      have e3 : Int.fdiv ((i : Int) + j) 2 = (((i + j) / 2 : Nat) : Int) := by
        rw [Int.fdiv_eq_ediv_of_nonneg _ (by omega)]; omega
      have e4 : IntKind.i64.wrap ((((i + j) / 2 : Nat) : Int)) = (((i + j) / 2 : Nat) : Int) := wrap64 (by omega) (by omega)
      have e5 : IntKind.i64.wrap ((((i + j) / 2 : Nat) : Int) + 1) = (((i + j) / 2 + 1 : Nat) : Int) := wrap64 (by omega) (by omega)
      obtain ⟨x, hx, hd⟩ := drop_at (l := l) (i := (i + j) / 2) (by omega)
      have hgx := hg _ _ hx
      simp only [go_sem, h0, h2', h4, hm, h8, h9, h10, e1, e2, e3, e4, hx, hgx, eChain]
      refine wpc_i (fun hc => ?_) (fun hc => ?_)
      · simp only [go_sem, h0, h2', h4, hm, h8, h9, h10, e5, eChain]
        have hf : f ((i + j) / 2) < 0 := by simpa using hc
        refine ⟨((i + j) / 2 + 1, j), by simp only; omega, ?_, hj, hjl, rfl, rfl⟩
        simp only
        rcases Nat.lt_or_ge ((i + j) / 2) n with h' | h'
        · exact h'
        · have := h2 _ h' (by omega); omega
      · simp only [go_sem, h0, h2', h4, hm, h8, h9, h10, eChain]
        have hf : ¬ f ((i + j) / 2) < 0 := by simpa using hc
        refine ⟨(i, (i + j) / 2), by simp only; omega, hi, ?_, by simp only; omega, rfl, rfl⟩
        simp only
        rcases Nat.lt_or_ge ((i + j) / 2) n with h' | h'
        · exact absurd (h1 _ h') hf
        · exact h'
    · simp only [decide_eq_false_iff_not, Int.ofNat_lt] at h
      have : i = n := by omega
      subst this
      simp only [go_sem, h0, h2', h4, hm, h8, h9, eChain]
      refine wrg_it (fun hc => ?_) (fun hc => ?_)
      · simp only [decide_eq_true_eq, Int.ofNat_lt] at hc
        obtain ⟨x, hx, hd⟩ := drop_at hc
        have hgx := hg _ _ hx
        simp only [go_sem, h0, h2', h4, hm, h8, h9, h10, hx, hgx, eChain, hc, decide_true, Int.ofNat_lt]
      · simp only [decide_eq_false_iff_not, Int.ofNat_lt] at hc
        simp only [go_sem, h0, h2', h4, hm, h8, h9, h10, eChain, hc, decide_false, Int.ofNat_lt]
theorem cmp_lt {a b : Stamp} : stampCmp a b < 0 ↔ a.wall < b.wall ∨ (a.wall = b.wall ∧ (a.tick < b.tick ∨ (a.tick = b.tick ∧ a.node < b.node))) := by
  simp only [stampCmp, orI, cmpI]
  repeat' split
  all_goals omega
theorem cmp_eq {a b : Stamp} : stampCmp a b = 0 ↔ a.wall = b.wall ∧ a.tick = b.tick ∧ a.node = b.node := by
  simp only [stampCmp, orI, cmpI]
  repeat' split
  all_goals omega
theorem cmp_gt {a b : Stamp} : 0 < stampCmp a b ↔ b.wall < a.wall ∨ (b.wall = a.wall ∧ (b.tick < a.tick ∨ (b.tick = a.tick ∧ b.node < a.node))) := by
  simp only [stampCmp, orI, cmpI]
  repeat' split
  all_goals omega
def upC (s : Stamp) : List Ver → Nat
  | [] => 0
  | v :: l => if stampCmp v.at_ s ≤ 0 then upC s l + 1 else 0
theorem chR_tail {p : Option Ver} {v : Ver} {l : List Ver} (h : chR p (v :: l) = true) : chR (some v) l = true := by
  simp only [chR, Bool.and_eq_true] at h; exact h.2
theorem chR_lt {p v : Ver} {l : List Ver} (h : chR (some p) l = true) (hv : v ∈ l) : stampCmp p.at_ v.at_ < 0 := by
  induction l generalizing p with
  | nil => simp at hv
  | cons w l ih =>
    simp only [chR, Bool.and_eq_true, decide_eq_true_eq] at h
    rcases List.mem_cons.1 hv with rfl | hv
    · exact h.1.2
    · have h2 := ih h.2 hv
      have h1 := h.1.2
      rw [cmp_lt] at h1 h2 ⊢
      omega
theorem upC_le (s : Stamp) (c : List Ver) : upC s c ≤ c.length := by
  induction c with
  | nil => simp [upC]
  | cons v l ih => simp only [upC]; split <;> simp <;> omega
theorem upC_lt {s : Stamp} : ∀ {c : List Ver} {j : Nat} {v : Ver}, j < upC s c → c[j]? = some v → stampCmp v.at_ s ≤ 0
  | [], j, v, h, _ => by simp [upC] at h
  | w :: l, j, v, h, hv => by
    simp only [upC] at h
    split at h
    · cases j with
      | zero => simp at hv; subst hv; assumption
      | succ j => exact upC_lt (c := l) (j := j) (by omega) (by simpa using hv)
    · omega
theorem upC_ge {s : Stamp} : ∀ {c : List Ver} {p : Option Ver} {j : Nat} {v : Ver}, chR p c = true → upC s c ≤ j → c[j]? = some v → 0 < stampCmp v.at_ s
  | [], p, j, v, _, _, hv => by simp at hv
  | w :: l, p, j, v, hc, h, hv => by
    have ht := chR_tail hc
    simp only [upC] at h
    split at h
    · cases j with
      | zero => omega
      | succ j => exact upC_ge (c := l) (j := j) ht (by omega) (by simpa using hv)
    · rename_i hw
      cases j with
      | zero => simp at hv; subst hv; omega
      | succ j =>
        have : v ∈ l := List.mem_of_getElem? (by simpa using hv)
        have h1 := chR_lt ht this
        have h2 : 0 < stampCmp w.at_ s := by omega
        rw [cmp_gt] at h2 ⊢
        rw [cmp_lt] at h1
        omega
theorem chR_get : ∀ {c : List Ver} {p : Option Ver} {i j : Nat} {v w : Ver}, chR p c = true → i < j → c[i]? = some v → c[j]? = some w → stampCmp v.at_ w.at_ < 0
  | [], _, i, j, v, w, _, _, hv, _ => by simp at hv
  | x :: l, p, i, j, v, w, hc, hij, hv, hw => by
    cases j with
    | zero => omega
    | succ j =>
      cases i with
      | zero =>
        simp at hv hw; subst hv
        exact chR_lt (chR_tail hc) (List.mem_of_getElem? hw)
      | succ i => exact chR_get (c := l) (i := i) (j := j) (chR_tail hc) (by omega) (by simpa using hv) (by simpa using hw)
def H25 (Pg : Nat → Option Fn) : Prop := Pg 25 = some (.code F25) ∧ H29 Pg ∧ H30 Pg
theorem K25 (h : H25 Pg) (l : List Ver) (s : Stamp) (hl : l.length < 2 ^ 60) (hr : chR none l = true) : K' Pg 25 [eChain l, .agg (eStamp s)] = some (iz (upC s l)) := by
  obtain ⟨h, h29, h30⟩ := h
  refine K'_code h rfl ?_
  let f : Nat → Int := fun j => match l[j]? with | some v => stampCmp v.at_ s | none => 0
  have hf : ∀ j v, l[j]? = some v → f j = stampCmp v.at_ s := fun j v hv => by simp [f, hv]
  let n := if upC s l ≠ 0 ∧ f (upC s l - 1) = 0 then upC s l - 1 else upC s l
  have hle := upC_le s l
  have hn : n ≤ l.length := by simp only [n]; split <;> omega
  have get : ∀ j, j < l.length → ∃ v, l[j]? = some v := fun j hj => ⟨l[j], by simp [hj]⟩
  have h1 : ∀ j, j < n → f j < 0 := fun j hj => by
    obtain ⟨v, hv⟩ := get j (by omega)
    rw [hf j v hv]
    by_cases hc : upC s l ≠ 0 ∧ f (upC s l - 1) = 0
    · have : n = upC s l - 1 := if_pos hc
      obtain ⟨w, hw⟩ := get (upC s l - 1) (by omega)
      have h3 := hc.2
      rw [hf _ _ hw, cmp_eq] at h3
      have h4 := chR_get (p := none) hr (by omega : j < upC s l - 1) hv hw
      rw [cmp_lt] at h4 ⊢
      omega
    · have hn' : n = upC s l := if_neg hc
      have h3 := upC_lt (s := s) (by omega : j < upC s l) hv
      rcases Nat.lt_or_ge j (upC s l - 1) with h5 | h5
      · obtain ⟨w, hw⟩ := get (upC s l - 1) (by omega)
        have h4 := chR_get (p := none) hr h5 hv hw
        have h6 := upC_lt (s := s) (by omega : upC s l - 1 < upC s l) hw
        have h7 : stampCmp w.at_ s < 0 ∨ stampCmp w.at_ s = 0 := by omega
        rw [cmp_lt, cmp_eq] at h7
        rw [cmp_lt] at h4 ⊢
        omega
      · have : j = upC s l - 1 := by omega
        subst this
        have : stampCmp v.at_ s ≠ 0 := fun e => hc ⟨by omega, by rw [hf _ _ hv]; exact e⟩
        omega
  have h2 : ∀ j, n ≤ j → j < l.length → 0 ≤ f j := fun j hj hjl => by
    obtain ⟨v, hv⟩ := get j hjl
    rw [hf j v hv]
    rcases Nat.lt_or_ge j (upC s l) with h3 | h3
    · have hc : upC s l ≠ 0 ∧ f (upC s l - 1) = 0 := by
        by_cases hc : upC s l ≠ 0 ∧ f (upC s l - 1) = 0
        · exact hc
        · have : n = upC s l := if_neg hc
          omega
      have : n = upC s l - 1 := if_pos hc
      have : j = upC s l - 1 := by omega
      subst this
      have := hc.2
      rw [hf _ _ hv] at this
      omega
    · have := upC_ge hr h3 hv; omega
  have k29 := K29 h29 l s 30 f n hl (fun i v hv => by rw [hf i v hv]; exact K30 h30 v s) hn h1 h2
  simp only [eStamp, eChain] at k29
  simp only [go_sem, eChain, k29]
  have hfin : (decide (n < l.length) && decide (f n = 0)) = decide (upC s l ≠ 0 ∧ f (upC s l - 1) = 0) := by
    by_cases hc : upC s l ≠ 0 ∧ f (upC s l - 1) = 0
    · have : n = upC s l - 1 := if_pos hc
      have h5 : upC s l - 1 < l.length := by have := hc.1; omega
      rw [decide_eq_true hc, this, decide_eq_true h5, decide_eq_true hc.2]; rfl
    · have hn' : n = upC s l := if_neg hc
      simp only [hc, decide_false, Bool.and_eq_false_iff, decide_eq_false_iff_not]
      rcases Nat.lt_or_ge (upC s l) l.length with h5 | h5
      · obtain ⟨w, hw⟩ := get _ h5
        have := upC_ge hr (Nat.le_refl _) hw
        rw [hn', hf _ _ hw]
        exact .inr (by omega)
      · exact .inl (by omega)
  rw [hfin]
  refine wpc_i (fun hc => ?_) (fun hc => ?_)
  · have hc := of_decide_eq_true hc
    have hn' : n = upC s l - 1 := if_pos hc
    simp only [go_sem]
    rw [wrap64 (by omega) (by omega), hn']
    have : ((upC s l - 1 : Nat) : Int) + 1 = (upC s l : Int) := by omega
    rw [this]
  · have hc := of_decide_eq_false hc
    have hn' : n = upC s l := if_neg hc
    simp only [go_sem, hn']
def zeroVer : Ver := ⟨⟨0, 0, 0⟩, false, []⟩
def atC (s : Stamp) (c : List Ver) : Option Ver := if chainRight c then (if upC s c = 0 then none else c[upC s c - 1]?) else none
def eOV (o : Option Ver) : V := .tuple [.agg (eVer (o.getD zeroVer)), .bool o.isSome]
theorem right_chR {c : List Ver} (h : chainRight c = true) : chR none c = true ∧ c.length ≤ 64 := by
  simpa [chainRight] using h
def H10 (Pg : Nat → Option Fn) : Prop := Pg 10 = some (.code F10) ∧ H7 Pg ∧ H25 Pg
theorem K10 (h : H10 Pg) (l : List Ver) (s : Stamp) (hl : l.length < 2 ^ 60) : K' Pg 10 [eChain l, .agg (eStamp s)] = some (eOV (atC s l)) := by
  obtain ⟨h, h7, h25⟩ := h
  refine K'_code h rfl ?_
  have k7 := K7 h7 l hl
  simp only [eChain, eStamp] at k7
  cases hr : chainRight l with
  | false => simp only [go_sem, eChain, k7, hr, Bool.not_false, eOV, atC, zeroVer, Option.isSome_none, Bool.false_eq_true]
  | true =>
    have k25 := K25 h25 l s hl (right_chR hr).1
    simp only [eChain, eStamp] at k25
    simp only [go_sem, eChain, k7, hr, Bool.not_true, k25]
    refine wpc_i (fun hc => ?_) (fun hc => ?_)
    · have hc : upC s l = 0 := by simpa using hc
      simp only [go_sem, eOV, atC, hr, hc, zeroVer, Option.isSome_none]
    · have hc : upC s l ≠ 0 := by simpa using hc
      have hle := upC_le s l
      obtain ⟨x, hx, -⟩ := drop_at (l := l) (i := upC s l - 1) (by omega)
      have hdec : IntKind.i64.wrap ((upC s l : Int) - 1) = ((upC s l - 1 : Nat) : Int) := by rw [wrap64 (by omega) (by omega)]; omega
      simp only [go_sem, eOV, atC, hr, hc, zeroVer, Option.isSome_some, hdec, hx]
def valC (s : Stamp) (c : List Ver) : Option (List UInt8) := match atC s c with | some v => if v.gone then none else some v.val | none => none
def H12 (Pg : Nat → Option Fn) : Prop := Pg 12 = some (.code F12) ∧ H10 Pg
theorem K12 (h : H12 Pg) (l : List Ver) (s : Stamp) (hl : l.length < 2 ^ 60) : K' Pg 12 [eChain l, .agg (eStamp s)] = some (.tuple [.str (match atC s l with | some v => v.val | none => []), .bool (match atC s l with | some v => !v.gone | none => false)]) := by
  obtain ⟨h, h10⟩ := h
  refine K'_code h rfl ?_
  have k10 := K10 h10 l s hl
  simp only [eChain, eStamp, eOV, eVer] at k10
  cases hr : atC s l with
  | none => simp only [hr, zeroVer, Option.getD_none, Option.isSome_none] at k10; simp only [go_sem, eChain, k10]
  | some v => simp only [hr, zeroVer, Option.getD_some, Option.isSome_some] at k10; simp only [go_sem, eChain, k10]
def H23 (Pg : Nat → Option Fn) : Prop := Pg 23 = some (.prim (some 0) (cloneQ 5))
theorem K23 (h : H23 Pg) (rows : List (List V)) (hl : rows.length ≤ lim) : K' Pg 23 [.slice 5 rows] = some (.slice 5 rows) := by
  rw [K'_prim h]; simp [cloneQ, hl]
def addC (c : List Ver) (v : Ver) : List Ver × Int :=
  if !chainRight c || !verRight v then ([], 1)
  else if (match c.getLast? with | some w => decide (0 ≤ stampCmp w.at_ v.at_) | none => false) then ([], 9)
  else if c.length = 64 then ([], 6) else (c ++ [v], 0)
def H3 (Pg : Nat → Option Fn) : Prop := Pg 3 = some (.code F3) ∧ H7 Pg ∧ H22 Pg ∧ H15 Pg ∧ H23 Pg
theorem K3 (h : H3 Pg) (l : List Ver) (v : Ver) (hl : l.length < 2 ^ 60) : K' Pg 3 [eChain l, .agg (eVer v)] = some (.tuple [eChain (addC l v).1, iz (addC l v).2]) := by
  obtain ⟨h, h7, h22, h15, h23⟩ := h
  refine K'_code h rfl ?_
  have k7 := K7 h7 l hl
  have k22 := K22 h22 v
  have k15 := fun x y => K15 h15 x y
  simp only [eChain, eStamp, eVer] at k7 k22 k15
  cases hr : chainRight l with
  | false => simp only [go_sem, eChain, k7, hr, Bool.not_false, addC]
  | true =>
    cases hv : verRight v with
    | false => simp only [go_sem, eChain, k7, hr, Bool.not_false, Bool.not_true, addC, k22, hv]
    | true =>
      have hlen := (right_chR hr).2
      have k23 := K23 h23 (l.map eVer) (by simp [lim]; omega)
      have fin : Wp (K' Pg) c3 (start [eChain l, .agg (eVer v)]) (fun ex S => (ex = .norm ∨ ex = .ret) ∧ finish F3 S = some (.tuple [eChain (addC l v).1, iz (addC l v).2])) := by
        have hap : (l.map eVer).length + 1 ≤ lim := by simp [lim]; omega
        rcases Nat.eq_zero_or_pos l.length with hz | hz
        · have hgt : decide ((0 : Int) < (l.length : Int)) = false := by simp [hz]
          have h64 : decide ((l.length : Int) = 64) = false := by simp [hz]
          have hl0 : l = [] := List.eq_nil_of_length_eq_zero hz
          have hadd : addC l v = (l ++ [v], 0) := by simp only [addC, hr, hv]; simp [hl0]
          simp only [List.length_map] at hap
          simp only [go_sem, eChain, k7, hr, Bool.not_true, k22, hv, hgt, h64, k23, hadd, List.map_append, hap]
        · have hgt : decide ((0 : Int) < (l.length : Int)) = true := by simp [hz]
          obtain ⟨x, hx, -⟩ := drop_at (l := l) (i := l.length - 1) (by omega)
          have hdec : IntKind.i64.wrap ((l.length : Int) - 1) = ((l.length - 1 : Nat) : Int) := by rw [wrap64 (by omega) (by omega)]; omega
          have hlast : l.getLast? = some x := by rw [List.getLast?_eq_getElem?]; exact hx
          simp only [List.length_map] at hap
          simp only [go_sem, eChain, k7, hr, Bool.not_true, k22, hv, hgt, hdec, hx, k15]
          refine wpc_i (fun hc => ?_) (fun hc => ?_)
          · simp only [go_sem, addC, hr, hv, hlast, Bool.not_true, hc]
          · simp only [go_sem, eChain]
            refine wpc_i (fun h64 => ?_) (fun h64 => ?_)
            · have h64' : l.length = 64 := by have := of_decide_eq_true h64; omega
              simp only [go_sem, addC, hr, hv, hlast, Bool.not_true, hc, h64']
            · have h64' : ¬ l.length = 64 := by have := of_decide_eq_false h64; omega
              have hadd : addC l v = (l ++ [v], 0) := by simp [addC, hr, hv, hlast, h64', hc]
              simp only [go_sem, eChain, k23, hadd, List.map_append, hap]
      exact fin
end Sg
namespace Sg
open _root_.Go
set_option linter.unusedSimpArgs false
set_option linter.unusedVariables false
abbrev tStamp : List CT := [.int .i64, .int .i64, .int .i64]
theorem row_stamp {xs : List V} (h : HasRow tStamp xs) : ∃ s, xs = eStamp s := by
  obtain ⟨hl, hj⟩ := h
  match xs, hl with
  | [a, b, c], _ =>
    obtain ⟨x, rfl, -⟩ := has_int (hj 0 (by simp))
    obtain ⟨y, rfl, -⟩ := has_int (hj 1 (by simp))
    obtain ⟨z, rfl, -⟩ := has_int (hj 2 (by simp))
    exact ⟨⟨x, y, z⟩, rfl⟩
theorem arg_stamp {x : V} (h : ArgV (true, tStamp) x) : ∃ s, x = .agg (eStamp s) := by
  obtain ⟨xs, rfl, h⟩ := h
  obtain ⟨s, rfl⟩ := row_stamp h
  exact ⟨s, rfl⟩
end Sg
namespace Sg
open _root_.Go (IntKind BinOp UnOp)
set_option linter.unusedSimpArgs false
set_option linter.unusedVariables false
set_option maxRecDepth 10000
variable {Pg : Nat → Option Fn}
theorem dN_le {l : List UInt8} (h : l ≠ []) : (dN l).2 ≤ l.length := by
  rcases dN_cases h with x | ⟨a0, t, rfl, q, x⟩ | ⟨a0, a1, t, rfl, q, q1, x⟩ | ⟨a0, a1, a2, t, rfl, q, q1, q2, q3, x⟩ | ⟨a0, a1, a2, a3, t, rfl, q, q1, q2, q3, q4, x⟩
  · rw [x]; have := List.length_pos_iff.2 h; simp only; omega
  all_goals rw [x]; simp
@[go_sem] def eIL (l : List Int) : V := .slice 1 (l.map fun x => [iz x])
def H192 (Pg : Nat → Option Fn) : Prop := Pg 192 = some (.code F192) ∧ H190 Pg
theorem K192 (h : H192 Pg) (a b : List UInt8) : K' Pg 192 [.str a, .str b] = some (iz (cmpL (lets a) (lets b))) := by
  obtain ⟨h, h190⟩ := h
  refine K'_code h rfl ?_
  simp only [go_sem]
  unfold l192_0
  refine wp_lp (fun (p : List UInt8 × List UInt8) S => S.ρ 0 = .str p.1 ∧ S.ρ 1 = .str p.2 ∧ cmpL (lets p.1) (lets p.2) = cmpL (lets a) (lets b)) (fun p => p.1.length) (a, b) ?_ ?_
  · simp [go_sem]
  · intro ⟨x, y⟩ S ⟨h0, h1, ho⟩
    simp only at h0 h1 ho
    have k := K190 h190 x
    have k' := K190 h190 y
    simp only [go_sem, h0, h1]
    by_cases hx : x = []
    · subst hx
      rw [lets_nil] at ho
      by_cases hy : y = []
      · subst hy
        have ho : (0 : Int) = cmpL (lets a) (lets b) := ho
        simp only [go_sem, h0, h1, ← ho]
      · rw [lets_cons hy] at ho
        have ho : (-1 : Int) = cmpL (lets a) (lets b) := ho
        simp only [go_sem, h0, h1, hy, ← ho]
    · by_cases hy : y = []
      · subst hy
        rw [lets_cons hx, lets_nil] at ho
        have ho : (1 : Int) = cmpL (lets a) (lets b) := ho
        simp only [go_sem, h0, h1, hx, ← ho]
      · rw [lets_cons hx, lets_cons hy] at ho
        have ex : decL x = dN x := by rw [decL, if_neg hx]
        have ey : decL y = dN y := by rw [decL, if_neg hy]
        rw [ex] at k
        rw [ey] at k'
        have lx := dN_le hx
        have ly := dN_le hy
        have hd := drop_lt hx
        simp only [go_sem, h0, h1, hx, hy, k, k']
        refine wpc_i (fun c => ?_) (fun c => ?_)
        · rw [cmpL_lt' (of_decide_eq_true c)] at ho
          simp only [go_sem, ← ho]
        · have c := of_decide_eq_false c
          simp only [go_sem, h0, h1, hx, hy]
          refine wpc_i (fun d => ?_) (fun d => ?_)
          · rw [cmpL_gt' (of_decide_eq_true d)] at ho
            simp only [go_sem, ← ho]
          · have d := of_decide_eq_false d
            have e : ((dN x).1 : Int) = ((dN y).1 : Int) := by omega
            rw [e, cmpL_eq'] at ho
            simp only [go_sem, h0, h1, lx, ly]
            exact ⟨(x.drop (dN x).2, y.drop (dN y).2), hd, rfl, rfl, ho⟩
end Sg
namespace Sg
open _root_.Go (IntKind BinOp UnOp)
set_option linter.unusedSimpArgs false
set_option linter.unusedVariables false
set_option maxRecDepth 10000
variable {Pg : Nat → Option Fn}
structure Span where
  lo : List UInt8
  hi : List UInt8
  deriving DecidableEq
@[go_sem] def eSpan (s : Span) : List V := [.str s.lo, .str s.hi]
def ltS (a b : List UInt8) : Bool := decide (cmpL (lets a) (lets b) < 0)
def leS (a b : List UInt8) : Bool := decide (cmpL (lets a) (lets b) ≤ 0)
theorem keyR_len {l : List UInt8} (h : keyR l = true) : l.length ≤ 16 ∧ l ≠ [] := by
  simp only [keyR, Bool.and_eq_true, decide_eq_true_eq] at h
  exact ⟨h.2.2, fun e => by rw [e] at h; simp at h⟩
theorem ltS_iff {a b : List UInt8} : ltS a b = true ↔ cmpL (lets a) (lets b) < 0 := by simp [ltS]
theorem lt_tr {a b c : List UInt8} (h1 : cmpL (lets a) (lets b) ≤ 0) (h2 : cmpL (lets b) (lets c) < 0) : cmpL (lets a) (lets c) < 0 := (cmpL_tr _ _ _ h1 (by omega)).2 (.inr h2)
end Sg
namespace Sg
open _root_.Go (IntKind BinOp UnOp)
set_option linter.unusedSimpArgs false
set_option linter.unusedVariables false
set_option maxRecDepth 10000
variable {Pg : Nat → Option Fn}
@[go_sem] def eSSE (x : Span × Span × Int) : V := .tuple [.agg (eSpan x.1), .agg (eSpan x.2.1), iz x.2.2]
@[go_sem] def eSE (x : Span × Int) : V := .tuple [.agg (eSpan x.1), iz x.2]
end Sg
namespace Sg
open _root_.Go (IntKind BinOp UnOp)
set_option linter.unusedSimpArgs false
set_option linter.unusedVariables false
variable {Pg : Nat → Option Fn}
def before (a b : Stamp) : Bool := decide (stampCmp a b < 0)
def okPrev : Option Ver → Ver → Bool
  | none, _ => true
  | some q, x => decide (stampCmp q.at_ x.at_ < 0)
theorem chR_cons {p : Option Ver} {x : Ver} {l : List Ver} (h : verRight x = true) : chR p (x :: l) = (okPrev p x && chR (some x) l) := by
  cases p <;> simp [chR, okPrev, h]
end Sg
namespace Sg
open _root_.Go (IntKind BinOp UnOp)
set_option linter.unusedSimpArgs false
set_option linter.unusedVariables false
variable {Pg : Nat → Option Fn}
def later (a b : Stamp) : Stamp := if stampCmp a b < 0 then b else a
def pruneN (s : Stamp) (c : List Ver) : Nat := if upC s c = 0 then 0 else match c[upC s c - 1]? with | some v => if v.gone then upC s c else upC s c - 1 | none => 0
def pruneC (s : Stamp) (c : List Ver) : List Ver := if chainRight c then c.drop (pruneN s c) else []
def H17 (Pg : Nat → Option Fn) : Prop := Pg 17 = some (.code F17) ∧ H7 Pg ∧ H25 Pg ∧ H23 Pg
theorem K17 (h : H17 Pg) (l : List Ver) (s : Stamp) (hl : l.length < 2 ^ 60) : K' Pg 17 [eChain l, .agg (eStamp s)] = some (eChain (pruneC s l)) := by
  obtain ⟨h, h7, h25, h23⟩ := h
  refine K'_code h rfl ?_
  have k7 := K7 h7 l hl
  simp only [eChain, eStamp] at k7
  cases hr : chainRight l with
  | false => simp only [go_sem, eChain, k7, hr, Bool.not_false, pruneC, Bool.false_eq_true]
  | true =>
    have k25 := K25 h25 l s hl (right_chR hr).1
    have hle := upC_le s l
    have hlen := (right_chR hr).2
    simp only [eChain, eStamp] at k25
    simp only [go_sem, eChain, k7, hr, Bool.not_true, k25]
    have k23 := fun n => K23 h23 ((l.map eVer).drop n) (by simp [lim]; omega)
    have htk : (l.map eVer).take l.length = l.map eVer := by simp [List.take_of_length_le]
    refine wrg_it (fun hc => ?_) (fun hc => ?_)
    · have hc' : upC s l ≠ 0 := by have := of_decide_eq_true hc; omega
      obtain ⟨x, hx, -⟩ := drop_at (l := l) (i := upC s l - 1) (by omega)
      have hdec : IntKind.i64.wrap ((upC s l : Int) - 1) = ((upC s l - 1 : Nat) : Int) := by rw [wrap64 (by omega) (by omega)]; omega
      have hle' : upC s l - 1 ≤ l.length := by omega
      cases hg : x.gone with
      | false =>
        have hn : pruneN s l = upC s l - 1 := by simp [pruneN, hc', hx, hg]
        simp only [go_sem, eChain, k25, hc, hdec, hx, hg, Bool.not_false, pruneC, hr, hn, hle', htk, Nat.le_refl, k23, List.map_drop]
      | true =>
        have hn : pruneN s l = upC s l := by simp [pruneN, hc', hx, hg]
        simp only [go_sem, eChain, k25, hc, hdec, hx, hg, Bool.not_true, pruneC, hr, hn, hle, htk, Nat.le_refl, k23, List.map_drop]
    · have hc' : upC s l = 0 := by have := of_decide_eq_false hc; omega
      have hn : pruneN s l = upC s l := by simp [pruneN, hc']
      simp only [go_sem, eChain, k25, hc, pruneC, hr, hn, hle, htk, Nat.le_refl, k23, List.map_drop]
end Sg
namespace Sg
open _root_.Go (IntKind BinOp UnOp)
set_option linter.unusedSimpArgs false
set_option linter.unusedVariables false
variable {Pg : Nat → Option Fn}
end Sg
namespace Sg
open _root_.Go (IntKind BinOp UnOp)
set_option linter.unusedSimpArgs false
set_option linter.unusedVariables false
variable {Pg : Nat → Option Fn}
theorem chR_mem : ∀ {l : List Ver} {p : Option Ver} {v : Ver}, chR p l = true → v ∈ l → verRight v = true
  | [], _, _, _, h => by simp at h
  | w :: l, p, v, h, hv => by
    simp only [chR, Bool.and_eq_true] at h
    rcases List.mem_cons.1 hv with rfl | hv
    · exact h.1.1
    · exact chR_mem h.2 hv
theorem gone_val {v : Ver} (h : verRight v = true) (hg : v.gone = true) : v.val = [] := by
  simp [verRight, hg] at h; exact h.2
theorem atC_right {s : Stamp} {l : List Ver} {v : Ver} (h : atC s l = some v) : verRight v = true := by
  simp only [atC] at h
  split at h
  · rename_i hr
    split at h
    · simp at h
    · exact chR_mem (right_chR hr).1 (List.mem_of_getElem? h)
  · simp at h
theorem valC_getD {s : Stamp} {l : List Ver} : (valC s l).getD [] = (match atC s l with | some v => v.val | none => []) := by
  simp only [valC]
  cases h : atC s l with
  | none => rfl
  | some v =>
    cases hg : v.gone with
    | true => simp [hg, gone_val (atC_right h) hg]
    | false => simp [hg]
theorem valC_isSome {s : Stamp} {l : List Ver} : (valC s l).isSome = (match atC s l with | some v => !v.gone | none => false) := by
  simp only [valC]
  cases h : atC s l with
  | none => rfl
  | some v => cases hg : v.gone <;> simp [hg]
theorem K12' (h : H12 Pg) (l : List Ver) (s : Stamp) (hl : l.length < 2 ^ 60) : K' Pg 12 [eChain l, .agg (eStamp s)] = some (.tuple [.str ((valC s l).getD []), .bool (valC s l).isSome]) := by
  rw [K12 h l s hl, valC_getD, valC_isSome] <;> (cases atC s l <;> rfl)
theorem cmp_neg {a b : Stamp} : 0 ≤ stampCmp a b ↔ stampCmp b a ≤ 0 := by
  have h1 := @cmp_lt a b
  have h2 := @cmp_gt b a
  have : stampCmp a b < 0 ↔ 0 < stampCmp b a := by rw [h1, h2]
  omega
theorem upC_drop {m : Stamp} : ∀ {n : Nat} {l : List Ver} {p : Option Ver}, chR p l = true → upC m (l.drop n) = upC m l - n
  | 0, l, p, _ => by simp
  | n + 1, [], p, _ => by simp [upC]
  | n + 1, v :: l, p, h => by
    have h1 := chR_tail h
    rw [List.drop_succ_cons, upC_drop h1]
    simp only [upC]
    split
    · omega
    · rename_i hm
      cases l with
      | nil => simp [upC]
      | cons w l =>
        have h2 := chR_lt h1 (List.mem_cons_self ..)
        have : ¬ stampCmp w.at_ m ≤ 0 := by
          intro e
          have h3 : stampCmp w.at_ m < 0 ∨ stampCmp w.at_ m = 0 := by omega
          have h4 : 0 < stampCmp v.at_ m := by omega
          rw [cmp_lt, cmp_eq] at h3
          rw [cmp_lt] at h2
          rw [cmp_gt] at h4
          omega
        simp [upC, this]
theorem chR_drop : ∀ {n : Nat} {l : List Ver} {p : Option Ver}, chR p l = true → chR none (l.drop n) = true
  | 0, [], p, _ => rfl
  | 0, v :: l, p, h => by
    have hv := chR_mem h (List.mem_cons_self ..)
    rw [List.drop_zero, chR_cons hv]; rw [chR_cons hv] at h
    simp only [Bool.and_eq_true] at h
    simp [okPrev, h.2]
  | n + 1, [], p, _ => by simp [chR]
  | n + 1, v :: l, p, h => by rw [List.drop_succ_cons]; exact chR_drop (chR_tail h)
theorem right_drop {l : List Ver} {n : Nat} (h : chainRight l = true) : chainRight (l.drop n) = true := by
  have := right_chR h
  simp only [chainRight, Bool.and_eq_true, decide_eq_true_eq]
  exact ⟨chR_drop this.1, by simp; omega⟩
theorem upC_mono {a b : Stamp} (h : stampCmp a b ≤ 0) : ∀ {l : List Ver}, upC a l ≤ upC b l
  | [] => by simp [upC]
  | v :: l => by
    have := upC_mono h (l := l)
    simp only [upC]
    split
    · rename_i h1
      have : stampCmp v.at_ b ≤ 0 := by
        have e1 : stampCmp v.at_ a < 0 ∨ stampCmp v.at_ a = 0 := by omega
        have e2 : stampCmp a b < 0 ∨ stampCmp a b = 0 := by omega
        have e3 : stampCmp v.at_ b < 0 ∨ stampCmp v.at_ b = 0 := by
          rw [cmp_lt, cmp_eq] at *
          omega
        omega
      simp [this]; omega
    · omega
theorem pruneN_le {m : Stamp} {l : List Ver} : pruneN m l ≤ upC m l := by
  simp only [pruneN]
  repeat' split
  all_goals omega
theorem pruneN_ge {m : Stamp} {l : List Ver} : upC m l - 1 ≤ pruneN m l := by
  simp only [pruneN]
  split
  · omega
  · have hle := upC_le m l
    have : l[upC m l - 1]? = some (l[upC m l - 1]'(by omega)) := by simp
    rw [this]
    simp only
    split <;> omega
theorem prune_val {l : List Ver} {m s : Stamp} (hr : chainRight l = true) (hs : stampCmp m s ≤ 0) : valC s (pruneC m l) = valC s l := by
  have hc := (right_chR hr).1
  have hn := @pruneN_le m l
  have hn' := @pruneN_ge m l
  have hm := upC_mono hs (l := l)
  have hle := upC_le s l
  simp only [pruneC, hr, if_true, valC]
  simp only [atC, right_drop hr, hr, if_true, upC_drop hc]
  by_cases h : upC s l - pruneN m l = 0
  · by_cases h0 : upC s l = 0
    · simp [h0]
    · have e1 : upC m l = upC s l := by omega
      have e2 : pruneN m l = upC s l := by omega
      have hx : l[upC s l - 1]? = some (l[upC s l - 1]'(by omega)) := by simp
      simp only [e2, Nat.sub_self, if_true, h0, if_false]
      simp only [pruneN, e1, h0, if_false] at e2
      rw [hx] at e2 ⊢
      simp only at e2 ⊢
      split at e2
      · rename_i hg; simp [hg]
      · omega
  · have h0 : upC s l ≠ 0 := by omega
    simp only [h, h0, if_false, List.getElem?_drop]
    have : pruneN m l + (upC s l - pruneN m l - 1) = upC s l - 1 := by omega
    rw [this]
end Sg
namespace Sg
open _root_.Go (IntKind BinOp UnOp)
set_option linter.unusedSimpArgs false
set_option linter.unusedVariables false
set_option maxRecDepth 10000
variable {Pg : Nat → Option Fn}
structure Entr where
  key : List UInt8
  chain : List Ver
  deriving DecidableEq
@[go_sem] def eEnt (e : Entr) : List V := [.str e.key, eChain e.chain]
@[go_sem] def eEnts (l : List Entr) : V := .slice 2 (l.map eEnt)
def Sm (l : List Entr) : Prop := l.length ≤ 1000 ∧ ∀ e ∈ l, e.chain.length ≤ 1000 ∧ e.key.length ≤ 1000
theorem Sm.len {l : List Entr} (h : Sm l) : l.length ≤ 1000 := h.1
theorem Sm.at {l : List Entr} (h : Sm l) {i : Nat} {e : Entr} (he : l[i]? = some e) : e.chain.length ≤ 1000 ∧ e.key.length ≤ 1000 := h.2 e (List.mem_of_getElem? he)
def smallI (l : List Entr) : Bool := decide (l.length ≤ 80) && l.all fun e => decide (e.chain.length ≤ 80) && decide (e.key.length ≤ 100)
theorem small_sm {l : List Entr} (h : smallI l = true) : Sm l ∧ l.length ≤ 80 ∧ ∀ e ∈ l, e.chain.length ≤ 80 ∧ e.key.length ≤ 100 := by
  simp only [smallI, Bool.and_eq_true, decide_eq_true_eq, List.all_eq_true] at h
  exact ⟨⟨by omega, fun e he => by have := h.2 e he; omega⟩, h.1, h.2⟩
theorem gtd {a b : Nat} : decide ((a : Int) < (b : Int)) = !decide (b ≤ a) := by
  by_cases h : b ≤ a <;> simp [h] <;> omega
theorem gt80 {n : Nat} : decide ((80 : Int) < (n : Int)) = !decide (n ≤ 80) := gtd (a := 80)
theorem gt100n {n : Nat} : decide ((100 : Int) < (n : Int)) = !decide (n ≤ 100) := gtd (a := 100)
theorem le64 {n : Nat} : decide ((n : Int) ≤ 64) = decide (n ≤ 64) := led (b := 64)
def H198 (Pg : Nat → Option Fn) : Prop := Pg 198 = some (.code F198)
theorem K198 (h : H198 Pg) (l : List Entr) : K' Pg 198 [eEnts l] = some (.bool (smallI l)) := by
  refine K'_code h rfl ?_
  cases c0 : decide (l.length ≤ 80) with
  | false => simp only [go_sem, gt80, c0, smallI]
  | true =>
  have hl := of_decide_eq_true c0
  simp only [go_sem, gt80, c0, smallI]
  unfold l198_0
  refine wp_lp (fun (i : Nat) S => i ≤ l.length ∧ S.ρ 0 = eEnts l ∧ S.ρ 3 = iz i ∧ ((l.drop i).all fun e => decide (e.chain.length ≤ 80) && decide (e.key.length ≤ 100)) = l.all fun e => decide (e.chain.length ≤ 80) && decide (e.key.length ≤ 100)) (fun i => l.length - i) 0 ?_ ?_
  · simp [go_sem]
  · intro i S ⟨hi, h0, h3, ho⟩
    simp only [go_sem, h0, h3]
    refine wpc_i (fun h => ?_) (fun h => ?_)
    · have h := lt_of h
      obtain ⟨x, hx, hd⟩ := drop_at h
      rw [hd, List.all_cons] at ho
      simp only [go_sem, h0, h3, hx, eChain, gt80, gt100n]
      cases c1 : decide (x.chain.length ≤ 80) with
      | false => rw [c1] at ho; simp only [Bool.false_and] at ho; simp only [go_sem, h0, h3, hx, c1, ← ho]
      | true =>
      cases c2 : decide (x.key.length ≤ 100) with
      | false => rw [c1, c2] at ho; simp only [Bool.false_and, Bool.and_false] at ho; simp only [go_sem, h0, h3, hx, c1, c2, gt100n, ← ho]
      | true =>
        rw [c1, c2] at ho
        simp only [Bool.true_and] at ho
        simp only [go_sem, h0, h3, hx, c1, c2, gt100n]
        exact ⟨i + 1, by omega, by omega, by rw [inc64 h (by omega)], ho⟩
    · have h := eq_of hi h
      subst h
      rw [List.drop_length] at ho
      simp only [go_sem, ← ho, List.all_nil]
def entR (e : Entr) : Bool := keyR e.key && (!decide (e.chain = []) && chainRight e.chain)
def ixG : Option Entr → List Entr → Bool
  | _, [] => true
  | p, e :: l => entR e && ((match p with | none => true | some q => ltS q.key e.key) && ixG (some e) l)
def ixR (l : List Entr) : Bool := decide (l.length ≤ 64) && ixG none l
def prevE (l : List Entr) (i : Nat) : Option Entr := if i = 0 then none else l[i - 1]?
theorem prevE_s {l : List Entr} {i : Nat} {x : Entr} (h : l[i]? = some x) : prevE l (i + 1) = some x := by simp [prevE, h]
theorem ver_nil {l : List Ver} : decide ((l.length : Int) = 0) = decide (l = []) := by cases l <;> simp; omega
def H203 (Pg : Nat → Option Fn) : Prop := Pg 203 = some (.code F203) ∧ H7 Pg ∧ H170 Pg ∧ H192 Pg
theorem K203 (h : H203 Pg) (l : List Entr) (hl : Sm l) : K' Pg 203 [eEnts l] = some (.bool (ixR l)) := by
  obtain ⟨h, h7, h170, h192⟩ := h
  have k170 := fun x => K170 h170 x
  have k192 := fun x y => K192 h192 x y
  have hlen := hl.len
  refine K'_code h rfl ?_
  simp only [go_sem]
  unfold l203_0
  refine wp_lp (fun (i : Nat) S => i ≤ l.length ∧ S.ρ 0 = eEnts l ∧ S.ρ 5 = eEnts l ∧ S.ρ 6 = iz l.length ∧ S.ρ 7 = iz i ∧ S.μ 4 = none ∧ ixG (prevE l i) (l.drop i) = ixG none l) (fun i => l.length - i) 0 ?_ ?_
  · simp [go_sem, prevE]
  · intro i S ⟨hi, h0, h5, h6, h7', m4, ho⟩
    simp only [go_sem, h0, h5, h6, h7', m4]
    refine wpc_i (fun h => ?_) (fun h => ?_)
    · have h := lt_of h
      obtain ⟨x, hx, hd⟩ := drop_at h
      have k7 := K7 h7 x.chain (by have := hl.at hx; omega)
      simp only [eChain] at k7
      have hinc : IntKind.i64.wrap ((i : Int) + 1) = ((i + 1 : Nat) : Int) := inc64 h (by omega)
      rw [hd] at ho
      simp only [ixG] at ho
      simp only [go_sem, h0, h5, h6, h7', m4, hx, eChain, k170, k7, ver_nil]
      cases c1 : keyR x.key with
      | false =>
        simp only [entR, c1, Bool.false_and] at ho
        simp only [go_sem, h0, h5, h6, h7', m4, hx, c1, ixR, ← ho]
      | true =>
      cases c2 : chainRight x.chain with
      | false =>
        simp only [entR, c1, c2, Bool.false_and, Bool.and_false] at ho
        simp only [go_sem, h0, h5, h6, h7', m4, hx, c1, c2, k7, ixR, ← ho, eChain]
      | true =>
      cases c3 : decide (x.chain = []) with
      | true =>
        simp only [entR, c1, c2, c3, Bool.false_and, Bool.and_false, Bool.not_true] at ho
        simp only [go_sem, h0, h5, h6, h7', m4, hx, c1, c2, c3, k7, ver_nil, ixR, ← ho, eChain]
      | false =>
      simp only [entR, c1, c2, c3, Bool.true_and, Bool.and_true, Bool.not_false] at ho
      rcases Nat.eq_zero_or_pos i with hz | hz
      · have hgt : decide ((0 : Int) < (i : Int)) = false := decide_eq_false (by omega)
        simp only [go_sem, hgt, h0, h5, h6, h7', m4, hx, c1, c2, c3, k7, ver_nil, eChain]
        exact ⟨i + 1, by omega, by omega, by rw [hinc], by rw [prevE_s hx]; simpa [prevE, hz] using ho⟩
      · have hgt : decide ((0 : Int) < (i : Int)) = true := decide_eq_true (by omega)
        have hdec : IntKind.i64.wrap ((i : Int) - 1) = ((i - 1 : Nat) : Int) := dec64 hz (by omega)
        obtain ⟨y, hy, -⟩ := drop_at (l := l) (i := i - 1) (by omega)
        have hp : prevE l i = some y := by simp [prevE, Nat.ne_of_gt hz, hy]
        rw [hp] at ho
        simp only at ho
        simp only [go_sem, h0, h5, h6, h7', m4, hx, c1, c2, c3, k7, ver_nil, eChain, hgt, hdec, hy, k192]
        refine wpc_i (fun hc => ?_) (fun hc => ?_)
        · have : ltS y.key x.key = false := decide_eq_false (by have := of_decide_eq_true hc; omega)
          rw [this] at ho
          simp only [Bool.false_and] at ho
          simp only [go_sem, h0, h5, h6, h7', m4, hx, ixR, ← ho]
        · have : ltS y.key x.key = true := decide_eq_true (by have := of_decide_eq_false hc; omega)
          rw [this] at ho
          simp only [Bool.true_and] at ho
          simp only [go_sem, h0, h5, h6, h7', m4, hx]
          exact ⟨i + 1, by omega, by omega, by rw [hinc], by rw [prevE_s hx]; exact ho⟩
    · have h := eq_of hi h
      subst h
      rw [List.drop_length] at ho
      simp only [ixG] at ho
      simp only [go_sem, h0, le64, ixR, ← ho]
def H208 (Pg : Nat → Option Fn) : Prop := Pg 208 = some (.code F208)
theorem K208 (h : H208 Pg) (l : List (List UInt8 × List UInt8)) (hl : l.length ≤ 10000000) : K' Pg 208 [.slice 2 (l.map fun x => [.str x.1, .str x.2]), .slice 2 (l.map fun x => [.str x.1, .str x.2])] = some (.bool true) := by
  refine K'_code h rfl ?_
  simp only [go_sem]
  unfold l208_0
  refine wp_lp (fun (i : Nat) S => i ≤ l.length ∧ S.ρ 0 = .slice 2 (l.map fun x => [.str x.1, .str x.2]) ∧ S.ρ 1 = .slice 2 (l.map fun x => [.str x.1, .str x.2]) ∧ S.ρ 5 = iz i) (fun i => l.length - i) 0 ?_ ?_
  · simp [go_sem]
  · intro i S ⟨hi, h0, h1, h5⟩
    simp only [go_sem, h0, h1, h5]
    refine wpc_i (fun h => ?_) (fun h => ?_)
    · have h := lt_of h
      obtain ⟨x, hx, hd⟩ := drop_at h
      simp only [go_sem, h0, h1, h5, hx]
      exact ⟨i + 1, by omega, by omega, by rw [inc64 h (by omega)]⟩
    · simp only [go_sem]
def posI (k : List UInt8) : List Entr → Nat
  | [] => 0
  | e :: l => if ltS e.key k then posI k l + 1 else 0
theorem posI_le {k : List UInt8} : ∀ (l : List Entr), posI k l ≤ l.length
  | [] => Nat.le_refl _
  | e :: l => by
    have := posI_le (k := k) l
    simp only [posI, List.length_cons]; split <;> omega
theorem posI_lt {k : List UInt8} : ∀ {l : List Entr} {j : Nat} {e : Entr}, j < posI k l → l[j]? = some e → ltS e.key k = true
  | [], _, _, h, _ => by simp [posI] at h
  | a :: l, j, e, h, he => by
    simp only [posI] at h
    split at h
    · rename_i ha
      cases j with
      | zero => obtain rfl : a = e := by simpa using he
                exact ha
      | succ j => exact posI_lt (l := l) (j := j) (by omega) (by simpa using he)
    · omega
theorem ixG_pw : ∀ {l : List Entr} {p : Option Entr}, ixG p l = true → (∀ q, p = some q → ∀ e ∈ l, ltS q.key e.key = true) ∧ l.Pairwise (fun a b => ltS a.key b.key = true) ∧ ∀ e ∈ l, entR e = true
  | [], _, _ => ⟨fun _ _ => by simp, .nil, by simp⟩
  | e :: l, p, h => by
    simp only [ixG, Bool.and_eq_true] at h
    obtain ⟨h1, h2, h3⟩ := h
    obtain ⟨g1, g2, g3⟩ := ixG_pw h3
    have g1 := g1 e rfl
    refine ⟨?_, List.pairwise_cons.2 ⟨g1, g2⟩, fun x hx => ?_⟩
    · rintro q rfl x hx
      simp only at h2
      rcases List.mem_cons.1 hx with rfl | hx
      · exact h2
      · have := g1 x hx
        rw [ltS_iff] at h2 this ⊢
        exact lt_tr (by omega) this
    · rcases List.mem_cons.1 hx with rfl | hx
      · exact h1
      · exact g3 x hx
theorem ixG_iff : ∀ {l : List Entr}, ixG none l = true ↔ l.Pairwise (fun a b => ltS a.key b.key = true) ∧ ∀ e ∈ l, entR e = true := by
  intro l
  refine ⟨fun h => (ixG_pw h).2, fun ⟨h1, h2⟩ => ?_⟩
  suffices ∀ (l : List Entr) (p : Option Entr), l.Pairwise (fun a b => ltS a.key b.key = true) → (∀ e ∈ l, entR e = true) → (∀ q, p = some q → ∀ e ∈ l, ltS q.key e.key = true) → ixG p l = true from this l none h1 h2 (fun _ h => by simp at h)
  intro l
  induction l with
  | nil => intros; rfl
  | cons e l ih =>
    intro p h1 h2 h3
    obtain ⟨g1, g2⟩ := List.pairwise_cons.1 h1
    simp only [ixG, Bool.and_eq_true]
    refine ⟨h2 e (by simp), ?_, ih (some e) g2 (fun x hx => h2 x (by simp [hx])) (fun q hq x hx => by obtain rfl : e = q := by simpa using hq
                                                                                                      exact g1 x hx)⟩
    cases p with
    | none => rfl
    | some q => exact h3 q rfl e (by simp)
theorem ixR_iff {l : List Entr} : ixR l = true ↔ l.length ≤ 64 ∧ l.Pairwise (fun a b => ltS a.key b.key = true) ∧ ∀ e ∈ l, entR e = true := by
  simp only [ixR, Bool.and_eq_true, decide_eq_true_eq, ixG_iff]
theorem entR_iff {e : Entr} : entR e = true ↔ keyR e.key = true ∧ e.chain ≠ [] ∧ chainRight e.chain = true := by simp [entR]
theorem chain_len {c : List Ver} (h : chainRight c = true) : c.length ≤ 64 := by simp only [chainRight, Bool.and_eq_true, decide_eq_true_eq] at h; exact h.2
theorem ixR_sm {l : List Entr} (h : ixR l = true) : Sm l := by
  rw [ixR_iff] at h
  refine ⟨by omega, fun e he => ?_⟩
  obtain ⟨h1, -, h2⟩ := entR_iff.1 (h.2.2 e he)
  have := chain_len h2
  have := keyR_len h1
  omega
theorem posI_ge {k : List UInt8} : ∀ {l : List Entr} {p : Option Entr} {j : Nat} {e : Entr}, ixG p l = true → posI k l ≤ j → l[j]? = some e → ltS e.key k = false
  | [], _, _, _, _, _, he => by simp at he
  | a :: l, p, j, e, h, hj, he => by
    have hp := ixG_pw h
    simp only [ixG, Bool.and_eq_true] at h
    simp only [posI] at hj
    split at hj
    · rename_i ha
      cases j with
      | zero => omega
      | succ j => exact posI_ge (l := l) (j := j) h.2.2 (by omega) (by simpa using he)
    · rename_i ha
      have ha : ltS a.key k = false := by simpa using ha
      cases j with
      | zero => obtain rfl : a = e := by simpa using he
                exact ha
      | succ j =>
        have := (List.pairwise_cons.1 hp.2.1).1 e (List.mem_of_getElem? (by simpa using he))
        simp only [ltS, decide_eq_true_eq, decide_eq_false_iff_not] at this ha ⊢
        exact fun h => ha (lt_tr (by omega) h)
def H226 (Pg : Nat → Option Fn) : Prop := Pg 226 = some (.code F226) ∧ H192 Pg
theorem K226 (h : H226 Pg) (e : Entr) (k : List UInt8) : K' Pg 226 [.agg (eEnt e), .str k] = some (iz (cmpL (lets e.key) (lets k))) := by
  obtain ⟨h, h192⟩ := h
  have k192 := K192 h192 e.key k
  refine K'_code h rfl ?_
  simp only [go_sem, k192]
def H225 (Pg : Nat → Option Fn) : Prop := Pg 225 = some (.code F225)
theorem K225 (h : H225 Pg) (l : List Entr) (s : List UInt8) (g : Nat) (f : Nat → Int) (n : Nat) (hl : l.length < 2 ^ 60)
    (hg : ∀ i v, l[i]? = some v → K' Pg g [.agg (eEnt v), .str s] = some (iz (f i))) (hn : n ≤ l.length) (h1 : ∀ j, j < n → f j < 0) (h2 : ∀ j, n ≤ j → j < l.length → 0 ≤ f j) :
    K' Pg 225 [eEnts l, .str s, .func g []] = some (.tuple [iz n, .bool (decide (n < l.length) && decide (f n = 0))]) := by
  refine K'_code h rfl ?_
  simp only [eEnt, eChain] at hg
  simp only [go_sem]
  unfold l225_0
  refine wp_lp (fun (p : Nat × Nat) S => p.1 ≤ n ∧ n ≤ p.2 ∧ p.2 ≤ l.length ∧ S.ρ 0 = eEnts l ∧ S.ρ 1 = .str s ∧ S.ρ 2 = .func g [] ∧ S.ρ 8 = iz l.length ∧ S.ρ 9 = iz p.1 ∧ S.ρ 10 = iz p.2) (fun p => p.2 - p.1) (0, l.length) ?_ ?_
  · simp [go_sem, hn]
  · intro ⟨i, j⟩ S ⟨hi, hj, hjl, h0, hs, h2', h8, h9, h10⟩
    simp only at hi hj hjl h9 h10
    simp only [go_sem, h0, hs, h2', h8, h9, h10]
    refine wpc_i (fun h => ?_) (fun h => ?_)
    · simp only [decide_eq_true_eq, Int.ofNat_lt] at h
      have e1 : IntKind.i64.wrap ((i : Int) + j) = (i : Int) + j := wrap64 (by omega) (by omega)
      have e2 : IntKind.u64.wrap ((i : Int) + j) = (i : Int) + j := _root_.Go.IntWalk.u64_in _ ⟨by omega, by omega⟩
      have e3 : Int.fdiv ((i : Int) + j) 2 = (((i + j) / 2 : Nat) : Int) := by
        rw [Int.fdiv_eq_ediv_of_nonneg _ (by omega)]; omega
      have e4 : IntKind.i64.wrap ((((i + j) / 2 : Nat) : Int)) = (((i + j) / 2 : Nat) : Int) := wrap64 (by omega) (by omega)
      have e5 : IntKind.i64.wrap ((((i + j) / 2 : Nat) : Int) + 1) = (((i + j) / 2 + 1 : Nat) : Int) := wrap64 (by omega) (by omega)
      obtain ⟨x, hx, hd⟩ := drop_at (l := l) (i := (i + j) / 2) (by omega)
      have hgx := hg _ _ hx
      simp only [go_sem, h0, hs, h2', h8, h9, h10, e1, e2, e3, e4, hx, hgx, eChain]
      refine wpc_i (fun hc => ?_) (fun hc => ?_)
      · simp only [go_sem, h0, hs, h2', h8, h9, h10, e5]
        have hf : f ((i + j) / 2) < 0 := by simpa using hc
        refine ⟨((i + j) / 2 + 1, j), by simp only; omega, ?_, hj, hjl, rfl, rfl⟩
        simp only
        rcases Nat.lt_or_ge ((i + j) / 2) n with h' | h'
        · exact h'
        · have := h2 _ h' (by omega); omega
      · simp only [go_sem, h0, hs, h2', h8, h9, h10]
        have hf : ¬ f ((i + j) / 2) < 0 := by simpa using hc
        refine ⟨(i, (i + j) / 2), by simp only; omega, hi, ?_, by simp only; omega, rfl, rfl⟩
        simp only
        rcases Nat.lt_or_ge ((i + j) / 2) n with h' | h'
        · exact absurd (h1 _ h') hf
        · exact h'
    · simp only [decide_eq_false_iff_not, Int.ofNat_lt] at h
      have : i = n := by omega
      subst this
      simp only [go_sem, h0, hs, h2', h8, h9]
      refine wrg_it (fun hc => ?_) (fun hc => ?_)
      · simp only [decide_eq_true_eq, Int.ofNat_lt] at hc
        obtain ⟨x, hx, hd⟩ := drop_at hc
        have hgx := hg _ _ hx
        simp only [go_sem, h0, hs, h2', h8, h9, h10, hx, hgx, eChain, hc, decide_true, Int.ofNat_lt]
      · simp only [decide_eq_false_iff_not, Int.ofNat_lt] at hc
        simp only [go_sem, h0, hs, h2', h8, h9, h10, hc, decide_false, Int.ofNat_lt]
def thereI (k : List UInt8) (l : List Entr) : Bool := match l[posI k l]? with
  | none => false
  | some e => decide (cmpL (lets e.key) (lets k) = 0)
def H220 (Pg : Nat → Option Fn) : Prop := Pg 220 = some (.code F220) ∧ H225 Pg ∧ H226 Pg
theorem K220 (h : H220 Pg) (l : List Entr) (k : List UInt8) (hr : ixR l = true) : K' Pg 220 [eEnts l, .str k] = some (.tuple [iz (posI k l), .bool (thereI k l)]) := by
  obtain ⟨h, h225, h226⟩ := h
  have hl := (ixR_sm hr).len
  have hg : ixG none l = true := by simp only [ixR, Bool.and_eq_true] at hr; exact hr.2
  have k225 := K225 h225 l k 226 (fun i => match l[i]? with | none => 0 | some e => cmpL (lets e.key) (lets k)) (posI k l) (by omega) (fun i v hv => by
    simp only [hv]; exact K226 h226 v k) (posI_le l) (fun j hj => by
    obtain ⟨x, hx, -⟩ := drop_at (Nat.lt_of_lt_of_le hj (posI_le l))
    simp only [hx]; exact ltS_iff.1 (posI_lt hj hx)) (fun j hj hjl => by
    obtain ⟨x, hx, -⟩ := drop_at hjl
    simp only [hx]
    have := posI_ge hg hj hx
    simp only [ltS, decide_eq_false_iff_not] at this; omega)
  have e : (decide (posI k l < l.length) && decide ((match l[posI k l]? with | none => 0 | some e => cmpL (lets e.key) (lets k)) = 0)) = thereI k l := by
    unfold thereI
    cases hx : l[posI k l]? with
    | none =>
      have : ¬ posI k l < l.length := by have := List.getElem?_eq_none_iff.1 hx; omega
      simp [this]
    | some x => have := (List.getElem?_eq_some_iff.1 hx).1; simp [this]
  rw [e] at k225
  simp only [eEnts] at k225
  refine K'_code h rfl ?_
  simp only [go_sem, k225]
end Sg
namespace Sg
open _root_.Go (IntKind BinOp UnOp)
set_option linter.unusedSimpArgs false
set_option linter.unusedVariables false
set_option maxRecDepth 10000
variable {Pg : Nat → Option Fn}
def outA (z n : Nat) : Option (Nat × List (List V) × Fz) → Option V
  | some (z', rows, .live) => if z' = z ∧ rows.length = n then some (.slice z rows) else none
  | _ => none
@[go_sem] theorem outa_s {z n : Nat} {rows : List (List V)} : outA z n (some (z, rows, .live)) = if rows.length = n then some (.slice z rows) else none := by simp [outA]
@[go_sem] theorem out_o {A : Nat → Option (Nat × List (List V) × Fz)} {s z n : Nat} : outV A (some 0) 0 (.own s z n) = outA z n (A s) := by
  unfold outV outA
  rw [if_pos rfl]
  rfl
theorem set_same {α : Type} {L : List α} {i : Nat} {r : α} (h : L[i]? = some r) : L.set i r = L := by
  obtain ⟨hi, rfl⟩ := List.getElem?_eq_some_iff.1 h
  exact List.set_getElem_self hi
theorem mget {α : Type} {L D : List α} {j : Nat} {r : α} (h : j ≤ L.length) : (L.take j ++ r :: D)[j]? = some r := by
  have e : (L.take j).length = j := by rw [List.length_take]; omega
  rw [List.getElem?_append_right (by omega), e]; simp
theorem mset {α : Type} {L D : List α} {j : Nat} {r r' : α} (h : j ≤ L.length) : (L.take j ++ r :: D).set j r' = L.take j ++ r' :: D := by
  have e : (L.take j).length = j := by rw [List.length_take]; omega
  rw [List.set_append_right _ _ (by omega), e]; simp
theorem iset {α : Type} {L : List α} {j : Nat} {r : α} (h : j < L.length) : L.set j r = L.take j ++ r :: L.drop (j + 1) := by
  rw [List.set_eq_take_append_cons_drop, if_pos h]
def H227 (Pg : Nat → Option Fn) : Prop := Pg 227 = some (.prim (some 0) (cloneQ 2))
theorem K227 (h : H227 Pg) (rows : List (List V)) (hl : rows.length ≤ lim) : K' Pg 227 [.slice 2 rows] = some (.slice 2 rows) := by
  rw [K'_prim h]; simp [cloneQ, hl]
def H221 (Pg : Nat → Option Fn) : Prop := Pg 221 = some (.code F221) ∧ H23 Pg ∧ H227 Pg
theorem K221 (h : H221 Pg) (l : List Entr) (hl : Sm l) : K' Pg 221 [eEnts l] = some (eEnts l) := by
  obtain ⟨h, h23, h227⟩ := h
  have hlen := hl.len
  have k227 := K227 h227 (l.map eEnt) (by simp [lim]; omega)
  refine K'_code h rfl ?_
  simp only [go_sem, k227]
  unfold l221_0
  refine wp_lp (fun (i : Nat) S => i ≤ l.length ∧ S.ρ 3 = .own 6 2 l.length ∧ S.A 6 = some (2, l.map eEnt, .live) ∧ S.ρ 8 = iz l.length ∧ S.ρ 9 = iz i) (fun i => l.length - i) 0 ?_ ?_
  · simp [go_sem]
  · intro i S ⟨hi, h3, a6, h8, h9⟩
    simp only [go_sem, h3, a6, h8, h9]
    refine wpc_i (fun h => ?_) (fun h => ?_)
    · have h := lt_of h
      obtain ⟨x, hx, hd⟩ := drop_at h
      have k23 := K23 h23 (x.chain.map eVer) (by have := hl.at hx; simp [lim]; omega)
      have hs : (l.map eEnt).set i [.str x.key, .slice 5 (x.chain.map eVer)] = l.map eEnt := set_same (by rw [List.getElem?_map, hx]; rfl)
      simp only [go_sem, h3, a6, h8, h9, h, hx, eChain, k23, hs]
      exact ⟨i + 1, by omega, by omega, by rw [inc64 h (by omega)]⟩
    · simp only [go_sem, h3, a6]
theorem key_inj {a b : List UInt8} (ha : keyR a = true) (hb : keyR b = true) (h : cmpL (lets a) (lets b) = 0) : a = b := by
  simp only [keyR, Bool.and_eq_true] at ha hb
  have : ∀ {l : List UInt8}, keyR l = true → keyAll l.length l = true := fun {l} h => by
    simp only [keyR, Bool.and_eq_true] at h
    first | exact h.1 | exact h.2.1 | exact h.2.2
  exact lets_inj a.length a b (Nat.le_refl _) (this (by simp only [keyR, Bool.and_eq_true]; exact ha)) (this (by simp only [keyR, Bool.and_eq_true]; exact hb)) (cmpL_eq _ _ h)
def oldC (k : List UInt8) (l : List Entr) : List Ver := if thereI k l then (match l[posI k l]? with | some e => e.chain | none => []) else []
def putL (l : List Entr) (k : List UInt8) (c : List Ver) : List Entr := l.take (posI k l) ++ ⟨k, c⟩ :: l.drop (posI k l + if thereI k l then 1 else 0)
def putI (l : List Entr) (k : List UInt8) (v : Ver) : List Entr × Int :=
  if ixR l && keyR k then (if (addC (oldC k l) v).2 = 0 then (if (!thereI k l && decide (l.length = 64)) = true then ([], 6) else (putL l k (addC (oldC k l) v).1, 0)) else ([], (addC (oldC k l) v).2)) else ([], 1)
@[go_sem] def eEE (x : List Entr × Int) : V := .tuple [eEnts x.1, iz x.2]
theorem there_at {k : List UInt8} {l : List Entr} (h : thereI k l = true) : ∃ e, l[posI k l]? = some e ∧ cmpL (lets e.key) (lets k) = 0 := by
  unfold thereI at h
  split at h
  · simp at h
  · rename_i e he; exact ⟨e, he, of_decide_eq_true h⟩
theorem there_key {k : List UInt8} {l : List Entr} (hr : ixR l = true) (hk : keyR k = true) (h : thereI k l = true) : ∃ e, l[posI k l]? = some e ∧ e.key = k := by
  obtain ⟨e, he, hc⟩ := there_at h
  have := (ixR_iff.1 hr).2.2 e (List.mem_of_getElem? he)
  exact ⟨e, he, key_inj (entR_iff.1 this).1 hk hc⟩
theorem oldC_len {k : List UInt8} {l : List Entr} (hl : Sm l) : (oldC k l).length ≤ 1000 := by
  unfold oldC
  split
  · split
    · rename_i e he; exact (hl.at he).1
    · simp
  · simp
def H200 (Pg : Nat → Option Fn) : Prop := Pg 200 = some (.code F200) ∧ H3 Pg ∧ H170 Pg ∧ H203 Pg ∧ H220 Pg ∧ H221 Pg
theorem K200 (h : H200 Pg) (l : List Entr) (k : List UInt8) (v : Ver) (hl : Sm l) : K' Pg 200 [eEnts l, .str k, .agg (eVer v)] = some (eEE (putI l k v)) := by
  obtain ⟨h, h3, h170, h203, h220, h221⟩ := h
  have k203 := K203 h203 l hl
  have k170 := K170 h170 k
  have k221 := K221 h221 l hl
  have hlen := hl.len
  simp only [eEnts] at k203 k221
  refine K'_code h rfl ?_
  cases c1 : ixR l with
  | false => simp only [go_sem, k203, c1, putI]
  | true =>
  cases c2 : keyR k with
  | false => simp only [go_sem, k203, k170, c1, c2, putI]
  | true =>
  have k220 := K220 h220 l k c1
  have k3 := K3 h3 (oldC k l) v (by have := oldC_len (k := k) hl; omega)
  have hp := posI_le (k := k) l
  simp only [eEnts] at k220
  cases c3 : thereI k l with
  | true =>
    obtain ⟨e, he, hk⟩ := there_key c1 c2 c3
    have hj := (List.getElem?_eq_some_iff.1 he).1
    have ho : oldC k l = e.chain := by simp only [oldC, c3, he, if_true]
    rw [ho] at k3
    simp only [eChain, eVer] at k3
    cases c4 : decide ((addC e.chain v).2 = 0) with
    | false =>
      have hm : putI l k v = ([], (addC e.chain v).2) := by simp only [putI, c1, c2, ho, of_decide_eq_false c4, Bool.and_self, if_true, if_false]
      rw [hm]
      simp only [go_sem, k203, k170, k220, k3, c1, c2, c3, c4, he, eChain]
    | true =>
      have hm : putI l k v = (putL l k (addC e.chain v).1, 0) := by simp only [putI, c1, c2, c3, ho, of_decide_eq_true c4, Bool.and_self, if_true, Bool.not_true, Bool.false_and, Bool.false_eq_true, if_false]
      have hs : (l.map eEnt).set (posI k l) [.str e.key, .slice 5 ((addC e.chain v).1.map eVer)] = (putL l k (addC e.chain v).1).map eEnt := by
        rw [iset (by simpa using hj), hk]; simp [putL, c3, eEnt, eChain]
      have hz : (putL l k (addC e.chain v).1).length = l.length := by simp [putL, c3]; omega
      rw [hm]
      simp only [go_sem, k203, k170, k220, k3, k221, c1, c2, c3, c4, he, eChain, hj, hs, hz]
  | false =>
    have ho : oldC k l = [] := by simp only [oldC, c3, Bool.false_eq_true, if_false]
    rw [ho] at k3
    simp only [eChain, eVer, List.map_nil] at k3
    cases c4 : decide ((addC [] v).2 = 0) with
    | false =>
      have hm : putI l k v = ([], (addC [] v).2) := by simp only [putI, c1, c2, ho, of_decide_eq_false c4, Bool.and_self, if_true, if_false]
      rw [hm]
      simp only [go_sem, k203, k170, k220, k3, c1, c2, c3, c4, eChain]
    | true =>
    cases c5 : decide ((l.length : Int) = 64) with
    | true =>
      have c5' : l.length = 64 := by have := of_decide_eq_true c5; omega
      have hm : putI l k v = ([], 6) := by simp only [putI, c1, c2, c3, c5', ho, of_decide_eq_true c4, Bool.and_self, if_true, Bool.not_false, decide_true]
      rw [hm]
      simp only [go_sem, k203, k170, k220, k3, c1, c2, c3, c4, c5, eChain]
    | false =>
      have c5' : ¬ l.length = 64 := by have := of_decide_eq_false c5; omega
      have hm : putI l k v = (putL l k (addC [] v).1, 0) := by simp only [putI, c1, c2, c3, c5', ho, of_decide_eq_true c4, Bool.and_self, if_true, Bool.not_false, decide_false, Bool.true_and, Bool.false_eq_true, if_false]
      have hlim : l.length + 1 ≤ lim := by simp only [lim]; omega
      have hpl : posI k l ≤ (l.map eEnt).length := by simpa using hp
      have hp1 : posI k l < l.length + 1 := by omega
      have q1 : ∀ r D, ((l.map eEnt).take (posI k l) ++ r :: D)[posI k l]? = some r := fun r D => mget hpl
      have q2 : ∀ r r' D, ((l.map eEnt).take (posI k l) ++ r :: D).set (posI k l) r' = (l.map eEnt).take (posI k l) ++ r' :: D := fun r r' D => mset hpl
      have q3 : ((l.map eEnt).take (posI k l)).length + (((l.map eEnt).drop (posI k l)).length + 1) = l.length + 1 := by
        rw [List.length_take, List.length_drop, List.length_map]; omega
      have q4 : (putL l k (addC [] v).1).map eEnt = (l.map eEnt).take (posI k l) ++ [.str k, .slice 5 ((addC [] v).1.map eVer)] :: (l.map eEnt).drop (posI k l) := by
        simp [putL, c3, eEnt, eChain]
      rw [hm]
      simp only [go_sem, k203, k170, k220, k3, k221, c1, c2, c3, c4, c5, eChain, hp, hlim, hp1, q1, q2, q3, q4]
end Sg
namespace Sg
open _root_.Go (IntKind BinOp UnOp)
set_option linter.unusedSimpArgs false
set_option linter.unusedVariables false
set_option maxRecDepth 10000
variable {Pg : Nat → Option Fn}
abbrev It := List UInt8 × List UInt8
@[go_sem] def eIt (x : It) : List V := [.str x.1, .str x.2]
@[go_sem] def eIts (l : List It) : V := .slice 2 (l.map eIt)
def inS (k lo hi : List UInt8) : Bool := leS lo k && (decide (hi = []) || ltS k hi)
def itF (hi : List UInt8) (s : Stamp) (e : Entr) : Option It := if decide (hi = []) || ltS e.key hi then (valC s e.chain).map fun v => (e.key, v) else none
def alvF (lo hi : List UInt8) (s : Stamp) (e : Entr) : Option It := if inS e.key lo hi then (valC s e.chain).map fun v => (e.key, v) else none
def aliveI (l : List Entr) (lo hi : List UInt8) (s : Stamp) : List It := l.filterMap (alvF lo hi s)
def cutP (a : List It) (n : Nat) : List It × List UInt8 × Bool := if a.length ≤ n then (a, [], false) else (a.take n, (a[n]?.map Prod.fst).getD [], true)
def pageI (l : List Entr) (lo hi : List UInt8) (s : Stamp) (limit : Int) : List It × List UInt8 × Bool := cutP (aliveI l lo hi s) limit.toNat
@[go_sem] def eIKB (x : List It × List UInt8 × Bool) : V := .tuple [eIts x.1, .str x.2.1, .bool x.2.2]
def pgL (hi : List UInt8) (s : Stamp) (n : Nat) : List Entr → List It → List It × List UInt8 × Bool
  | [], out => (out, [], false)
  | e :: t, out => if !decide (hi = []) && !ltS e.key hi then (out, [], false) else match valC s e.chain with
    | none => pgL hi s n t out
    | some v => if n ≤ out.length then (out, e.key, true) else pgL hi s n t (out ++ [(e.key, v)])
theorem pgL_eq {hi : List UInt8} {s : Stamp} {n : Nat} : ∀ {t : List Entr} {out : List It}, t.Pairwise (fun a b => ltS a.key b.key = true) → out.length ≤ n →
    pgL hi s n t out = if out.length + (t.filterMap (itF hi s)).length ≤ n then (out ++ t.filterMap (itF hi s), [], false) else (out ++ (t.filterMap (itF hi s)).take (n - out.length), ((t.filterMap (itF hi s))[n - out.length]?.map Prod.fst).getD [], true)
  | [], out, _, ho => by simp [pgL, ho]
  | e :: t, out, hp, ho => by
    obtain ⟨hp1, hp2⟩ := List.pairwise_cons.1 hp
    simp only [pgL]
    cases c1 : decide (hi = []) with
    | false =>
      cases c2 : ltS e.key hi with
      | false =>
        have hn : (e :: t).filterMap (itF hi s) = [] := List.filterMap_eq_nil_iff.2 fun x hx => by
          have : ltS x.key hi = false := by
            rcases List.mem_cons.1 hx with rfl | hx
            · exact c2
            · have h1 := hp1 x hx
              simp only [ltS, decide_eq_true_eq, decide_eq_false_iff_not] at c2 h1 ⊢
              exact fun h => c2 (lt_tr (by omega) h)
          simp [itF, c1, this]
        simp [hn, ho]
      | true =>
        have hf : itF hi s e = (valC s e.chain).map fun v => (e.key, v) := by simp [itF, c2]
        simp only [Bool.not_true, Bool.and_false, Bool.false_eq_true, if_false, List.filterMap_cons, hf]
        cases c3 : valC s e.chain with
        | none => simp only [Option.map_none]; exact pgL_eq hp2 ho
        | some v =>
          simp only [Option.map_some]
          by_cases c4 : n ≤ out.length
          · have e1 : n = out.length := by omega
            rw [if_pos c4, if_neg (by simp only [List.length_cons]; omega)]
            simp [e1]
          · rw [if_neg c4, pgL_eq hp2 (by simp; omega)]
            have e2 : n - out.length = (n - (out ++ [(e.key, v)]).length) + 1 := by simp; omega
            simp only [List.length_append, List.length_cons, List.length_nil] at e2 ⊢
            rw [e2]
            simp only [List.take_succ_cons, List.getElem?_cons_succ, List.append_assoc, List.cons_append, List.nil_append]
            have e3 : (out.length + (0 + 1) + (t.filterMap (itF hi s)).length ≤ n) = (out.length + ((t.filterMap (itF hi s)).length + 1) ≤ n) := propext (by omega)
            simp only [e3]
    | true =>
      have hf : itF hi s e = (valC s e.chain).map fun v => (e.key, v) := by simp [itF, c1]
      simp only [Bool.not_true, Bool.false_and, Bool.false_eq_true, if_false, List.filterMap_cons, hf]
      cases c3 : valC s e.chain with
      | none => simp only [Option.map_none]; exact pgL_eq hp2 ho
      | some v =>
        simp only [Option.map_some]
        by_cases c4 : n ≤ out.length
        · have e1 : n = out.length := by omega
          rw [if_pos c4, if_neg (by simp only [List.length_cons]; omega)]
          simp [e1]
        · rw [if_neg c4, pgL_eq hp2 (by simp; omega)]
          have e2 : n - out.length = (n - (out ++ [(e.key, v)]).length) + 1 := by simp; omega
          simp only [List.length_append, List.length_cons, List.length_nil] at e2 ⊢
          rw [e2]
          simp only [List.take_succ_cons, List.getElem?_cons_succ, List.append_assoc, List.cons_append, List.nil_append]
          have e3 : (out.length + (0 + 1) + (t.filterMap (itF hi s)).length ≤ n) = (out.length + ((t.filterMap (itF hi s)).length + 1) ≤ n) := propext (by omega)
          simp only [e3]
theorem fm_congr {α β : Type} {f g : α → Option β} : ∀ {l : List α}, (∀ x ∈ l, f x = g x) → l.filterMap f = l.filterMap g
  | [], _ => rfl
  | a :: l, h => by simp only [List.filterMap_cons, h a (by simp), fm_congr (l := l) fun x hx => h x (by simp [hx])]
theorem alive_drop {lo hi : List UInt8} {s : Stamp} : ∀ {l : List Entr} {p : Option Entr}, ixG p l = true → aliveI l lo hi s = (l.drop (posI lo l)).filterMap (itF hi s)
  | [], _, _ => rfl
  | e :: l, p, h => by
    have hp := ixG_pw h
    simp only [ixG, Bool.and_eq_true] at h
    have hneg : ∀ x : Entr, leS lo x.key = !ltS x.key lo := fun x => by
      have := cmpL_neg (lets x.key) (lets lo)
      simp only [leS, ltS]
      by_cases c : cmpL (lets x.key) (lets lo) < 0 <;> simp [c] <;> omega
    simp only [posI]
    cases c : ltS e.key lo with
    | true =>
      have hf : alvF lo hi s e = none := by simp [alvF, inS, hneg, c]
      have ih := alive_drop (lo := lo) (hi := hi) (s := s) h.2.2
      simp only [aliveI] at ih
      simp only [aliveI, List.filterMap_cons, hf, ih, if_true, List.drop_succ_cons]
    | false =>
      simp only [Bool.false_eq_true, if_false, List.drop_zero, aliveI]
      refine fm_congr fun x hx => ?_
      have : ltS x.key lo = false := by
        rcases List.mem_cons.1 hx with rfl | hx
        · exact c
        · have h1 := (List.pairwise_cons.1 hp.2.1).1 x hx
          simp only [ltS, decide_eq_true_eq, decide_eq_false_iff_not] at c h1 ⊢
          exact fun h => c (lt_tr (by omega) h)
      simp [alvF, itF, inS, hneg, this]
theorem ixR_G {l : List Entr} (h : ixR l = true) : ixG none l = true := by simp only [ixR, Bool.and_eq_true] at h; exact h.2
theorem page_pg {l : List Entr} {lo hi : List UInt8} {s : Stamp} {limit : Int} (hr : ixR l = true) : pgL hi s limit.toNat (l.drop (posI lo l)) [] = pageI l lo hi s limit := by
  have hp := (ixR_iff.1 hr).2.1
  rw [pgL_eq (hp.sublist (List.drop_sublist _ _)) (Nat.zero_le _), pageI, alive_drop (ixR_G hr), cutP]
  simp
theorem alive_len {l : List Entr} {lo hi : List UInt8} {s : Stamp} : (aliveI l lo hi s).length ≤ l.length := List.length_filterMap_le _ _
def H206 (Pg : Nat → Option Fn) : Prop := Pg 206 = some (.code F206) ∧ H12 Pg ∧ H192 Pg ∧ H203 Pg ∧ H220 Pg
theorem K206 (h : H206 Pg) (l : List Entr) (lo hi : List UInt8) (s : Stamp) (limit : Int) (hl : Sm l) : K' Pg 206 [eEnts l, .str lo, .str hi, .agg (eStamp s), iz limit] = some (eIKB (if ixR l then pageI l lo hi s limit else ([], [], false))) := by
  obtain ⟨h, h12, h192, h203, h220⟩ := h
  have k203 := K203 h203 l hl
  have k192 := fun x => K192 h192 x hi
  have hlen := hl.len
  simp only [eEnts] at k203
  refine K'_code h rfl ?_
  cases c1 : ixR l with
  | false => simp only [go_sem, k203, c1]
  | true =>
  have k220 := K220 h220 l lo c1
  have hp := posI_le (k := lo) l
  simp only [eEnts] at k220
  have hpl : posI lo l ≤ (l.map eEnt).length := by simpa using hp
  rw [if_pos rfl, ← page_pg c1]
  simp only [go_sem, k203, k220, c1, mkA, hp]
  have hmlen : (l.drop (posI lo l)).length ≤ 1000 := by rw [List.length_drop]; omega
  have hm : ∀ (i : Nat) (x : Entr), (l.drop (posI lo l))[i]? = some x → x.chain.length ≤ 1000 := fun i x hx => (hl.2 x (List.mem_of_mem_drop (List.mem_of_getElem? hx))).1
  rw [List.take_of_length_le (show (l.map eEnt).length ≤ l.length by simp), ← List.map_drop]
  generalize l.drop (posI lo l) = m at hmlen hm
  simp only [List.length_map]
  unfold l206_0
  refine wp_lp (fun (x : Nat × List It) S => (x.1 ≤ m.length ∧ x.2.length ≤ x.1) ∧ S.ρ 2 = .str hi ∧ S.ρ 4 = iz limit ∧ S.ρ 8 = .lref 8 0 ∧ S.μ 8 = some (eStamp s, false) ∧ S.A 13 = some (2, x.2.map eIt, .live) ∧ S.ρ 13 = .own 13 2 x.2.length ∧ S.μ 17 = none ∧ S.ρ 31 = eEnts m ∧ S.ρ 32 = iz m.length ∧ S.ρ 33 = iz x.1 ∧ pgL hi s limit.toNat (m.drop x.1) x.2 = pgL hi s limit.toNat m []) (fun x => m.length - x.1) (0, []) ?_ ?_
  · simp [go_sem]
  · intro ⟨i, out⟩ S ⟨⟨hi', hol⟩, h2, h4, h8, m8, a13, h13, m17, h31, h32, h33, ho⟩
    simp only at hi' hol a13 h13 h33 ho
    simp only [go_sem, h2, h4, h8, m8, a13, h13, m17, h31, h32, h33]
    refine wpc_i (fun h => ?_) (fun h => ?_)
    · have h := lt_of h
      obtain ⟨x, hx, hd⟩ := drop_at h
      have k12 := K12' h12 x.chain s (by have := hm i x hx; omega)
      simp only [eChain, eStamp] at k12
      have hinc : IntKind.i64.wrap ((i : Int) + 1) = ((i + 1 : Nat) : Int) := inc64 h (by omega)
      have hlt : decide (0 ≤ cmpL (lets x.key) (lets hi)) = !ltS x.key hi := by
        simp only [ltS]; by_cases c : cmpL (lets x.key) (lets hi) < 0 <;> simp [c] <;> omega
      rw [hd] at ho
      simp only [pgL] at ho
      simp only [go_sem, h2, h4, h8, m8, a13, h13, m17, h31, h32, h33, hx, eChain, k192, hlt]
      cases c2 : (!decide (hi = []) && !ltS x.key hi) with
      | true =>
        have c2' : decide (hi = []) = false ∧ ltS x.key hi = false := by simpa using c2
        rw [c2] at ho
        simp only [if_true] at ho
        simp only [go_sem, h2, h4, h8, m8, a13, h13, m17, h31, h32, h33, hx, eChain, k192, hlt, c2'.1, c2'.2, ← ho]
      | false =>
        rw [c2] at ho
        simp only [Bool.false_eq_true, if_false] at ho
        have fin : ∀ S : St, S.ρ 2 = .str hi → S.ρ 4 = iz limit → S.ρ 8 = .lref 8 0 → True := fun _ _ _ _ => trivial
        have hle : decide (limit ≤ (out.length : Int)) = decide (limit.toNat ≤ out.length) := decide_eq_decide.2 (by omega)
        have hlim : out.length + 1 ≤ lim := by simp only [lim]; omega
        cases c3 : decide (hi = []) with
        | true =>
          cases c4 : valC s x.chain with
          | none =>
            rw [c4] at k12 ho
            simp only [Option.getD_none, Option.isSome_none] at k12 ho
            simp only [go_sem, h2, h4, h8, m8, a13, h13, m17, h31, h32, h33, hx, eChain, k192, hlt, c3, k12]
            exact ⟨(i + 1, out), by simp only; omega, ⟨by simp only; omega, by simp only; omega⟩, rfl, rfl, by simp only [hinc], ho⟩
          | some v =>
            rw [c4] at k12 ho
            simp only [Option.getD_some, Option.isSome_some] at k12 ho
            simp only [go_sem, h2, h4, h8, m8, a13, h13, m17, h31, h32, h33, hx, eChain, k192, hlt, c3, k12, hle]
            cases c5 : decide (limit.toNat ≤ out.length) with
            | true =>
              rw [if_pos (of_decide_eq_true c5)] at ho
              simp only [go_sem, h2, h4, h8, m8, a13, h13, m17, h31, h32, h33, hx, eChain, ← ho]
            | false =>
              rw [if_neg (of_decide_eq_false c5)] at ho
              simp only [go_sem, h2, h4, h8, m8, a13, h13, m17, h31, h32, h33, hx, eChain, hlim]
              exact ⟨(i + 1, out ++ [(x.key, v)]), by simp only; omega, ⟨by simp only; omega, by simp; omega⟩, by simp [eIt], by simp, by simp only [hinc], ho⟩
        | false =>
          have c6 : ltS x.key hi = true := by simpa [c3] using c2
          cases c4 : valC s x.chain with
          | none =>
            rw [c4] at k12 ho
            simp only [Option.getD_none, Option.isSome_none] at k12 ho
            simp only [go_sem, h2, h4, h8, m8, a13, h13, m17, h31, h32, h33, hx, eChain, k192, hlt, c3, c6, k12]
            exact ⟨(i + 1, out), by simp only; omega, ⟨by simp only; omega, by simp only; omega⟩, rfl, rfl, by simp only [hinc], ho⟩
          | some v =>
            rw [c4] at k12 ho
            simp only [Option.getD_some, Option.isSome_some] at k12 ho
            simp only [go_sem, h2, h4, h8, m8, a13, h13, m17, h31, h32, h33, hx, eChain, k192, hlt, c3, c6, k12, hle]
            cases c5 : decide (limit.toNat ≤ out.length) with
            | true =>
              rw [if_pos (of_decide_eq_true c5)] at ho
              simp only [go_sem, h2, h4, h8, m8, a13, h13, m17, h31, h32, h33, hx, eChain, ← ho]
            | false =>
              rw [if_neg (of_decide_eq_false c5)] at ho
              simp only [go_sem, h2, h4, h8, m8, a13, h13, m17, h31, h32, h33, hx, eChain, hlim]
              exact ⟨(i + 1, out ++ [(x.key, v)]), by simp only; omega, ⟨by simp only; omega, by simp; omega⟩, by simp [eIt], by simp, by simp only [hinc], ho⟩
    · have h := eq_of hi' h
      subst h
      rw [List.drop_length] at ho
      have ho : (out, [], false) = pgL hi s limit.toNat m [] := ho
      simp only [go_sem, h2, h4, h8, m8, a13, h13, ← ho]
theorem fm_s {α β : Type} {l : List α} {f : α → Option β} {i : Nat} {x : α} (hx : l[i]? = some x) : (l.take (i + 1)).filterMap f = (l.take i).filterMap f ++ (f x).toList := by
  rw [take_s hx, List.filterMap_append]
  cases h : f x <;> simp [h]
def prF (s : Stamp) (e : Entr) : Option Entr := if decide (pruneC s e.chain = []) then none else some ⟨e.key, pruneC s e.chain⟩
def pruneI (l : List Entr) (s : Stamp) : List Entr := l.filterMap (prF s)
theorem pos_ver {l : List Ver} : decide ((0 : Int) < (l.length : Int)) = !decide (l = []) := by cases l <;> simp
def H217 (Pg : Nat → Option Fn) : Prop := Pg 217 = some (.code F217) ∧ H17 Pg ∧ H203 Pg
theorem K217 (h : H217 Pg) (l : List Entr) (s : Stamp) (hl : Sm l) : K' Pg 217 [eEnts l, .agg (eStamp s)] = some (eEnts (if ixR l then pruneI l s else [])) := by
  obtain ⟨h, h17, h203⟩ := h
  have k203 := K203 h203 l hl
  have hlen := hl.len
  simp only [eEnts] at k203
  refine K'_code h rfl ?_
  cases c1 : ixR l with
  | false => simp only [go_sem, k203, c1]
  | true =>
  simp only [go_sem, k203, c1, mkA]
  unfold l217_0
  refine wp_lp (fun (i : Nat) S => i ≤ l.length ∧ S.ρ 3 = .lref 3 0 ∧ S.μ 3 = some (eStamp s, false) ∧ S.A 5 = some (2, (pruneI (l.take i) s).map eEnt, .live) ∧ S.ρ 5 = .own 5 2 (pruneI (l.take i) s).length ∧ S.μ 7 = none ∧ S.ρ 12 = eEnts l ∧ S.ρ 13 = iz l.length ∧ S.ρ 14 = iz i) (fun i => l.length - i) 0 ?_ ?_
  · simp [go_sem, pruneI]
  · intro i S ⟨hi, h3, m3, a5, h5, m7, h12, h13, h14⟩
    simp only [go_sem, h3, m3, a5, h5, m7, h12, h13, h14]
    refine wpc_i (fun h => ?_) (fun h => ?_)
    · have h := lt_of h
      obtain ⟨x, hx, hd⟩ := drop_at h
      have k17 := K17 h17 x.chain s (by have := hl.at hx; omega)
      simp only [eChain, eStamp] at k17
      have hinc : IntKind.i64.wrap ((i : Int) + 1) = ((i + 1 : Nat) : Int) := inc64 h (by omega)
      have hs := fm_s (f := prF s) hx
      have hle : (pruneI (l.take i) s).length ≤ i := Nat.le_trans (List.length_filterMap_le _ _) (by simp; omega)
      have hlim : (pruneI (l.take i) s).length + 1 ≤ lim := by simp only [lim]; omega
      simp only [go_sem, h3, m3, a5, h5, m7, h12, h13, h14, hx, eChain, k17, pos_ver]
      cases c2 : decide (pruneC s x.chain = []) with
      | true =>
        have hf : prF s x = none := by simp [prF, c2]
        rw [hf] at hs
        simp only [Option.toList_none, List.append_nil] at hs
        simp only [go_sem, h3, m3, a5, h5, m7, h12, h13, h14, hx, eChain]
        exact ⟨i + 1, by omega, by omega, by simp only [pruneI] at hs ⊢; rw [hs], by simp only [pruneI] at hs ⊢; rw [hs], by rw [hinc]⟩
      | false =>
        have hf : prF s x = some ⟨x.key, pruneC s x.chain⟩ := by simp [prF, c2]
        rw [hf] at hs
        simp only [Option.toList_some] at hs
        simp only [go_sem, h3, m3, a5, h5, m7, h12, h13, h14, hx, eChain, hlim]
        exact ⟨i + 1, by omega, by omega, by simp only [pruneI] at hs ⊢; rw [hs]; simp [eEnt, eChain], by simp only [pruneI] at hs ⊢; rw [hs]; simp, by rw [hinc]⟩
    · have h := eq_of hi h
      subst h
      rw [List.take_length] at a5 h5
      simp only [go_sem, a5, h5]
theorem prune_right {l : List Entr} {s : Stamp} (hr : ixR l = true) : ixR (pruneI l s) = true := by
  obtain ⟨h1, h2, h3⟩ := ixR_iff.1 hr
  refine ixR_iff.2 ⟨Nat.le_trans (List.length_filterMap_le _ _) h1, ?_, fun e he => ?_⟩
  · refine List.pairwise_filterMap.2 (h2.imp fun {a b} hab x hx y hy => ?_)
    have : ∀ {e z : Entr}, z ∈ prF s e → z.key = e.key := fun {e z} hz => by
      unfold prF at hz
      split at hz
      · simp at hz
      · have hz : (⟨e.key, pruneC s e.chain⟩ : Entr) = z := by simpa using hz
        rw [← hz]
    rw [this hx, this hy]; exact hab
  · obtain ⟨a, ha, hz⟩ := List.mem_filterMap.1 he
    obtain ⟨g1, g2, g3⟩ := entR_iff.1 (h3 a ha)
    unfold prF at hz
    split at hz
    · simp at hz
    · rename_i hn
      have hz : (⟨a.key, pruneC s a.chain⟩ : Entr) = e := by simpa using hz
      rw [← hz]
      refine entR_iff.2 ⟨g1, by simpa using hn, ?_⟩
      simp only [pruneC, g3, if_true]
      exact right_drop g3
theorem Sm.take {l : List Entr} (h : Sm l) {n : Nat} : Sm (l.take n) := ⟨by have := h.1; simp; omega, fun e he => h.2 e (List.mem_of_mem_take he)⟩
theorem Sm.drop {l : List Entr} (h : Sm l) {n : Nat} : Sm (l.drop n) := ⟨by have := h.1; simp; omega, fun e he => h.2 e (List.mem_of_mem_drop he)⟩
@[go_sem] def eE2 (x : List Entr × List Entr) : V := .tuple [eEnts x.1, eEnts x.2]
end Sg
namespace Sg
open _root_.Go (IntKind BinOp UnOp)
set_option linter.unusedSimpArgs false
set_option linter.unusedVariables false
set_option maxRecDepth 10000
variable {Pg : Nat → Option Fn}
end Sg
namespace Sg
open _root_.Go (IntKind BinOp UnOp)
set_option linter.unusedSimpArgs false
set_option linter.unusedVariables false
set_option maxRecDepth 10000
variable {Pg : Nat → Option Fn}
def v0I : Ver := ⟨⟨1, 0, 0⟩, false, [120]⟩
def H199 (Pg : Nat → Option Fn) : Prop := Pg 199 = some (.code F199) ∧ H200 Pg ∧ H206 Pg
theorem K199 (h : H199 Pg) : K' Pg 199 [] = some (.bool true) := by
  obtain ⟨h, h200, h206⟩ := h
  have sm : ∀ l : List Entr, ixR l = true → Sm l := fun l h => ixR_sm h
  have k200 := K200 h200 [] [97] v0I (sm _ (by decide))
  have k206 := K206 h206 [⟨[97], [v0I]⟩] [] [] ⟨2, 0, 0⟩ 5 (sm _ (by decide +kernel))
  rw [show putI [] [97] v0I = ([⟨[97], [v0I]⟩], 0) by decide +kernel] at k200
  rw [show (if ixR [⟨[97], [v0I]⟩] then pageI [⟨[97], [v0I]⟩] [] [] ⟨2, 0, 0⟩ 5 else ([], [], false)) = ([([97], [120])], [], false) by decide +kernel] at k206
  simp only [eEnts, v0I, eEE, eIKB, eIts, List.map_cons, List.map_nil, eEnt, eIt, eVer, eStamp, eChain] at k200 k206
  refine K'_code h rfl ?_
  simp only [go_sem, k200, k206]
theorem page_len {l : List Entr} {lo hi : List UInt8} {s : Stamp} {n : Int} : (pageI l lo hi s n).1.length ≤ l.length := by
  unfold pageI cutP
  split
  · exact alive_len
  · show (List.take _ _).length ≤ _
    rw [List.length_take]
    exact Nat.le_trans (Nat.min_le_right _ _) alive_len
theorem prune_sm {l : List Entr} {s : Stamp} (hr : ixR l = true) : Sm (pruneI l s) := ixR_sm (prune_right hr)
theorem fm_fm {α β γ : Type} {f : α → Option β} {g : β → Option γ} : ∀ {l : List α}, (l.filterMap f).filterMap g = l.filterMap fun x => (f x).bind g
  | [] => rfl
  | a :: l => by
    simp only [List.filterMap_cons]
    cases f a with
    | none => simp only [Option.bind_none]; exact fm_fm
    | some b => simp only [Option.bind_some, List.filterMap_cons, fm_fm (l := l)]
theorem alive_prune {l : List Entr} {m s : Stamp} {lo hi : List UInt8} (hr : ixR l = true) (hs : stampCmp m s ≤ 0) : aliveI (pruneI l m) lo hi s = aliveI l lo hi s := by
  simp only [aliveI, pruneI, fm_fm]
  refine fm_congr fun e he => ?_
  have hc := (entR_iff.1 ((ixR_iff.1 hr).2.2 e he)).2.2
  have hv := prune_val hc hs
  unfold prF
  cases c : decide (pruneC m e.chain = []) with
  | true =>
    rw [of_decide_eq_true c] at hv
    have hv : valC s e.chain = none := by rw [← hv]; rfl
    simp [alvF, hv]
  | false =>
    simp [alvF, hv]
def H219 (Pg : Nat → Option Fn) : Prop := Pg 219 = some (.code F219) ∧ H15 Pg ∧ H198 Pg ∧ H199 Pg ∧ H203 Pg ∧ H206 Pg ∧ H208 Pg ∧ H217 Pg
theorem K219 (h : H219 Pg) (l : List Entr) (m s : Stamp) (lo hi : List UInt8) : K' Pg 219 [eEnts l, .agg (eStamp m), .agg (eStamp s), .str lo, .str hi] = some (.bool true) := by
  obtain ⟨h, h15, h198, h199, h203, h206, h208, h217⟩ := h
  have k198 := K198 h198 l
  have k199 := K199 h199
  have k15 := K15 h15 s m
  simp only [eEnts, eStamp] at k198 k15
  refine K'_code h rfl ?_
  cases c1 : smallI l with
  | false => simp only [go_sem, k198, k199, c1]
  | true =>
  cases c2 : decide (lo.length ≤ 100) with
  | false => simp only [go_sem, k198, k199, c1, gt100n, c2]
  | true =>
  cases c3 : decide (hi.length ≤ 100) with
  | false => simp only [go_sem, k198, k199, c1, gt100n, c2, c3]
  | true =>
  have hl := (small_sm c1).1
  have k203 := K203 h203 l hl
  simp only [eEnts] at k203
  cases c4 : ixR l with
  | false => simp only [go_sem, k198, k199, c1, gt100n, c2, c3, k203, c4]
  | true =>
  cases c5 : decide (stampCmp s m < 0) with
  | true => simp only [go_sem, k198, k199, c1, gt100n, c2, c3, k203, c4, k15, c5]
  | false =>
  have hs : stampCmp m s ≤ 0 := cmp_neg.1 (by have := of_decide_eq_false c5; omega)
  have k206 := K206 h206 l lo hi s 1000 hl
  have k217 := K217 h217 l m hl
  have kp := K206 h206 (pruneI l m) lo hi s 1000 (prune_sm c4)
  rw [prune_right c4] at kp
  rw [c4] at k206 k217
  simp only [if_true] at k206 k217 kp
  have e : pageI (pruneI l m) lo hi s 1000 = pageI l lo hi s 1000 := by simp only [pageI, alive_prune c4 hs]
  rw [e] at kp
  have hpl := page_len (l := l) (lo := lo) (hi := hi) (s := s) (n := 1000)
  have k208 := K208 h208 (pageI l lo hi s 1000).1 (by have := hl.len; omega)
  have e1 : (fun x : It => [V.str x.1, V.str x.2]) = eIt := rfl
  simp only [e1] at k208
  simp only [eEnts, eIKB, eIts, eStamp] at k206 k217 kp
  simp only [go_sem, k198, k199, c1, gt100n, c2, c3, k203, c4, k15, c5, k206, k217, kp, k208]
end Sg
namespace Sg
open _root_.Go
set_option linter.unusedSimpArgs false
set_option linter.unusedVariables false
abbrev tVr : List CT := [.int .i64, .int .i64, .int .i64, .bool, .str]
theorem row_Vr {xs : List V} (h : HasRow tVr xs) : ∃ s, xs = eVer s := by
  obtain ⟨hl, hj⟩ := h
  match xs, hl with
  | [x0, x1, x2, x3, x4], _ =>
    obtain ⟨y0, h0, -⟩ := has_int (hj 0 (by simp))
    obtain ⟨y1, h1, -⟩ := has_int (hj 1 (by simp))
    obtain ⟨y2, h2, -⟩ := has_int (hj 2 (by simp))
    obtain ⟨y3, h3⟩ := has_bool (hj 3 (by simp))
    obtain ⟨y4, h4, -⟩ := has_str (hj 4 (by simp))
    simp [gv] at h0 h1 h2 h3 h4
    subst h0; subst h1; subst h2; subst h3; subst h4
    exact ⟨⟨⟨y0, y1, y2⟩, y3, y4⟩, rfl⟩
theorem has_Vrs {x : V} (h : Has (.slice tVr) x) : ∃ l, x = eChain l ∧ l.length ≤ maxLen := by
  obtain ⟨rows, rfl, hl, hr⟩ := has_slice h
  obtain ⟨l, rfl, -⟩ := rows_enc (enc := eVer) (Q := fun _ => True) (fun row hrow => by obtain ⟨v, hv⟩ := row_Vr (hr row hrow); exact ⟨v, hv, trivial⟩)
  exact ⟨l, rfl, by simpa using hl⟩
abbrev tEnt : List CT := [.str, .slice tVr]
theorem row_Ent {xs : List V} (h : HasRow tEnt xs) : ∃ s, xs = eEnt s := by
  obtain ⟨hl, hj⟩ := h
  match xs, hl with
  | [x0, x1], _ =>
    obtain ⟨y0, h0, -⟩ := has_str (hj 0 (by simp))
    obtain ⟨y1, h1, -⟩ := has_Vrs (hj 1 (by simp))
    simp [gv] at h0 h1
    subst h0; subst h1
    exact ⟨⟨y0, y1⟩, rfl⟩
theorem has_Ents {x : V} (h : Has (.slice tEnt) x) : ∃ l, x = eEnts l ∧ l.length ≤ maxLen := by
  obtain ⟨rows, rfl, hl, hr⟩ := has_slice h
  obtain ⟨l, rfl, -⟩ := rows_enc (enc := eEnt) (Q := fun _ => True) (fun row hrow => by obtain ⟨v, hv⟩ := row_Ent (hr row hrow); exact ⟨v, hv, trivial⟩)
  exact ⟨l, rfl, by simpa using hl⟩
theorem arg_Ents {x : V} (h : ArgV (false, [.slice tEnt]) x) : ∃ l, x = eEnts l ∧ l.length ≤ maxLen := by
  obtain ⟨c, hc, h⟩ := h
  simp only [List.cons.injEq, and_true] at hc
  subst hc
  exact has_Ents h
end Sg
namespace Sg
open _root_.Go _root_.Go.Proofs
set_option linter.unusedSimpArgs false
set_option maxRecDepth 100000
theorem t31 : H31 (look indexTab) := rfl
theorem t26 : H26 (look indexTab) := ⟨rfl, t31⟩
theorem t27 : H27 (look indexTab) := rfl
theorem t15 : H15 (look indexTab) := ⟨rfl, t26, t27⟩
theorem t198 : H198 (look indexTab) := rfl
theorem t32 : H32 (look indexTab) := rfl
theorem t28 : H28 (look indexTab) := ⟨rfl, t32⟩
theorem t22 : H22 (look indexTab) := ⟨rfl, t28⟩
theorem t7 : H7 (look indexTab) := ⟨rfl, t22, t15⟩
theorem t23 : H23 (look indexTab) := rfl
theorem t3 : H3 (look indexTab) := ⟨rfl, t7, t22, t15, t23⟩
theorem t170 : H170 (look indexTab) := rfl
theorem t190 : H190 (look indexTab) := rfl
theorem t192 : H192 (look indexTab) := ⟨rfl, t190⟩
theorem t203 : H203 (look indexTab) := ⟨rfl, t7, t170, t192⟩
theorem t225 : H225 (look indexTab) := rfl
theorem t226 : H226 (look indexTab) := ⟨rfl, t192⟩
theorem t220 : H220 (look indexTab) := ⟨rfl, t225, t226⟩
theorem t227 : H227 (look indexTab) := rfl
theorem t221 : H221 (look indexTab) := ⟨rfl, t23, t227⟩
theorem t200 : H200 (look indexTab) := ⟨rfl, t3, t170, t203, t220, t221⟩
theorem t29 : H29 (look indexTab) := rfl
theorem t30 : H30 (look indexTab) := ⟨rfl, t15⟩
theorem t25 : H25 (look indexTab) := ⟨rfl, t29, t30⟩
theorem t10 : H10 (look indexTab) := ⟨rfl, t7, t25⟩
theorem t12 : H12 (look indexTab) := ⟨rfl, t10⟩
theorem t206 : H206 (look indexTab) := ⟨rfl, t12, t192, t203, t220⟩
theorem t199 : H199 (look indexTab) := ⟨rfl, t200, t206⟩
theorem t208 : H208 (look indexTab) := rfl
theorem t17 : H17 (look indexTab) := ⟨rfl, t7, t25, t23⟩
theorem t217 : H217 (look indexTab) := ⟨rfl, t17, t203⟩
theorem t219 : H219 (look indexTab) := ⟨rfl, t15, t198, t199, t203, t206, t208, t217⟩
theorem all_ctr (f : Nat) (args : List V) (r : V) (h : K' (look indexTab) f args = some r) : Ctr Tryd.prog (cxU indexFm) (ownOf (look indexTab) f) f args r := by
  obtain ⟨n, hn⟩ := K'_iff.1 h
  refine callN_sound (by kernel_rfl) (tab_code okAll) (fun f own p hp => ?_) (fun f z p hlt hp => ?_) (fun f z p hp => ?_) n f args r hn
  · have hm := look_mem hp
    simp only [indexTab, List.mem_cons, Prod.mk.injEq, reduceCtorEq, and_false, false_and, false_or, Fn.prim.injEq, Option.some.injEq, List.not_mem_nil, or_false] at hm
    rcases hm with ⟨rfl, hz, rfl⟩ | ⟨rfl, hz, rfl⟩ | ⟨rfl, hz, rfl⟩ | ⟨rfl, hz, rfl⟩ | ⟨rfl, hz, rfl⟩
    · subst hz
      exact keyCt _ 170 rfl
    · subst hz
      exact decCt _ 190 rfl
    · intro args r h
      simp [noQ] at h
    · subst hz
      exact clone_ctr (zero := [.int .i64 0, .int .i64 0, .int .i64 0, .bool false, .str []]) (by kernel_rfl) okClone23
    · subst hz
      exact clone_ctr (zero := [.str [], .slice 5 []]) (by kernel_rfl) okClone227
  · have hm := look_mem hp
    simp only [indexTab, List.mem_cons, Prod.mk.injEq, reduceCtorEq, and_false, false_and, false_or, Fn.prim.injEq, Option.some.injEq, List.not_mem_nil, or_false] at hm
    rcases hm with ⟨rfl, hz, rfl⟩ | ⟨rfl, hz, rfl⟩ | ⟨rfl, hz, rfl⟩
    · obtain rfl : z = 2 := by omega
      exact ⟨_, _, insC31⟩
    · omega
    · omega
  · have hm := look_mem hp
    simp only [indexTab, List.mem_cons, Prod.mk.injEq, reduceCtorEq, and_false, false_and, false_or, Fn.prim.injEq, Option.some.injEq, List.not_mem_nil, or_false] at hm
    rcases hm with ⟨rfl, hz, rfl⟩ | ⟨rfl, hz, rfl⟩ | ⟨rfl, hz, rfl⟩
    · omega
    · omega
    · omega
end Sg
namespace Go.Proofs.YtcehlncpmdfhnaaDoor
open Sg Go.RowKit
set_option maxRecDepth 100000
theorem own : ownKnob Tryd.prog.godebug = none := by kernel_rfl
theorem laid : laidOutB Tryd.prog = true := by kernel_rfl
theorem indexKeeps_ctr (xs : List V) (h : ArgsV [(false, [.slice tEnt]), (true, tStamp), (true, tStamp), (false, [.str]), (false, [.str])] xs) : Ctr Tryd.prog (cxU indexFm) (ownOf (Sg.look indexTab) 219) 219 xs (.bool true) := by
  match xs, h with
  | [x0, x1, x2, x3, x4], h =>
    obtain ⟨h0, h1, h2, h3, h4, -⟩ := h
    obtain ⟨a0, rfl, l0⟩ := arg_Ents h0
    obtain ⟨a1, rfl⟩ := arg_stamp h1
    obtain ⟨a2, rfl⟩ := arg_stamp h2
    obtain ⟨a3, rfl, l3⟩ := arg_str h3
    obtain ⟨a4, rfl, l4⟩ := arg_str h4
    exact all_ctr _ _ _ (K219 t219 a0 a1 a2 a3 a4)
noncomputable def laidWorld (os : Os) : World :=
  let w0 := World.holding Tryd.prog os ⟨#[], #[], []⟩
  let put (h : Array Obj) (g : Nat) (cs : Array Value) : Array Obj := h.modify g fun
    | .cells _ t frozen => .cells cs t frozen
    | o => o
  let h1 := put w0.heap 0 (Lib.firstTab.map fun z => Value.int .u8 z).toArray
  let h2 := put h1 1 ((List.range 16).flatMap fun i => [Value.int .u8 (Lib.accLo i), Value.int .u8 (Lib.accHi i)]).toArray
  { w0 with heap := h2 }
theorem tabs_of {W : World} (hL : laidMetH Tryd.prog Rows.indexKeepsRow.laid W) : Lib.Utf8Tabs 0 1 W :=
  utf8Tabs_of_reads (ρ := renU) { lays197 with } ⟨by kernel_rfl, by kernel_rfl, by kernel_rfl, by kernel_rfl, by kernel_rfl, by kernel_rfl, by kernel_rfl⟩
    ((show Go.Pinned.utf8First = Lib.firstData by kernel_rfl) ▸ Lib.laidMet.reads hL (.tail _ (.head _))) ((show Rows.laid_unicode_utf8_acceptRanges = Lib.acceptData by kernel_rfl) ▸ Lib.laidMet.reads hL (.head _))
theorem size_of {W : World} (h : Lib.Utf8Tabs 0 1 W) : 2 ≤ W.heap.size := by
  have lt : ∀ g o v, W.cell? ⟨g, o, none⟩ = some v → g < W.heap.size := fun g o v e => by
    rcases Nat.lt_or_ge g W.heap.size with h | h
    · exact h
    · simp [World.cell?, Array.getElem?_eq_none h] at e
  have h1 := lt _ _ _ (h.1 0 (by decide))
  have h2 := lt _ _ _ (h.2 0 (by decide)).1
  omega
theorem laid_met (os : Os) (args : Array Value) : laidMet Tryd.prog Rows.indexKeepsRow.laid ((laidWorld os).forCall (fun _ _ => 0) ⟨#[], args, []⟩).memory :=
  (LaidIn.of_run (l := Rows.indexKeepsRow.laid) [1, 0] 8 (by kernel_rfl) (by kernel_rfl) (by kernel_rfl) (by kernel_rfl)).met
set_option maxRecDepth 100000 in
theorem indexKeeps_reads (os : Os) {H : Type} (enc : TypeId × Value → H) :
    (OpenSpec.ofChange Rows.indexKeepsSpec).preRow enc Tryd.prog Tryd.f9 Rows.indexKeepsRow.domain false Rows.indexKeepsRow.laid ((laidWorld os).forCall (fun _ _ => 0) ⟨#[], #[Value.slice none 0 0, Value.agg #[.int .i64 0, .int .i64 0, .int .i64 0], Value.agg #[.int .i64 0, .int .i64 0, .int .i64 0], Value.string ⟨#[]⟩, Value.string ⟨#[]⟩], []⟩).memory #[Value.slice none 0 0, Value.agg #[.int .i64 0, .int .i64 0, .int .i64 0], Value.agg #[.int .i64 0, .int .i64 0, .int .i64 0], Value.string ⟨#[]⟩, Value.string ⟨#[]⟩] := by
  have hw : (DataW.whole enc Tryd.prog ((laidWorld os).forCall (fun _ _ => 0) ⟨#[], #[Value.slice none 0 0, Value.agg #[.int .i64 0, .int .i64 0, .int .i64 0], Value.agg #[.int .i64 0, .int .i64 0, .int .i64 0], Value.string ⟨#[]⟩, Value.string ⟨#[]⟩], []⟩).memory Tryd.f9.params.toList Rows.indexKeepsSpec.vars false #[Value.slice none 0 0, Value.agg #[.int .i64 0, .int .i64 0, .int .i64 0], Value.agg #[.int .i64 0, .int .i64 0, .int .i64 0], Value.string ⟨#[]⟩, Value.string ⟨#[]⟩].toList 8).isSome = true := by kernel_rfl
  obtain ⟨⟨x1, x2, x3⟩, hx⟩ := Option.isSome_iff_exists.1 hw
  have hl : x1.length = 5 := by
    have := congrArg (Option.map fun x => x.1.length) hx
    have e : (DataW.whole enc Tryd.prog ((laidWorld os).forCall (fun _ _ => 0) ⟨#[], #[Value.slice none 0 0, Value.agg #[.int .i64 0, .int .i64 0, .int .i64 0], Value.agg #[.int .i64 0, .int .i64 0, .int .i64 0], Value.string ⟨#[]⟩, Value.string ⟨#[]⟩], []⟩).memory Tryd.f9.params.toList Rows.indexKeepsSpec.vars false #[Value.slice none 0 0, Value.agg #[.int .i64 0, .int .i64 0, .int .i64 0], Value.agg #[.int .i64 0, .int .i64 0, .int .i64 0], Value.string ⟨#[]⟩, Value.string ⟨#[]⟩].toList 8).map (fun x => x.1.length) = some 5 := by kernel_rfl
    rw [hx] at e
    simpa using e
  exact OpenSpec.preRow_of_cond 8 hx (by kernel_rfl) (fun k hk => by cases hk) (by kernel_rfl) (laid_met os _)
theorem indexKeeps_lifted (os : Os) (started : os.Started) (H : Type) (enc : TypeId × Value → H) (F : Stop.Interp) :
    ReturnsInHanded {} Tryd.checked os 9 .any ((OpenSpec.ofChange Rows.indexKeepsSpec).preRow enc Tryd.prog Tryd.f9 Rows.indexKeepsRow.domain false Rows.indexKeepsRow.laid) (((OpenSpec.ofChange Rows.indexKeepsSpec).at F).post enc Tryd.prog Tryd.f9 false true false false) := by
  refine returnsInHanded_of_row (C := Tryd.checked) (s := OpenSpec.ofChange Rows.indexKeepsSpec) own started (by kernel_rfl) Tryd.func9
    (witness_row_at (enc := enc) (C := Tryd.checked) false (laidWorld os) #[Value.slice none 0 0, Value.agg #[.int .i64 0, .int .i64 0, .int .i64 0], Value.agg #[.int .i64 0, .int .i64 0, .int .i64 0], Value.string ⟨#[]⟩, Value.string ⟨#[]⟩] rfl (by kernel_rfl) (by kernel_rfl) (by kernel_rfl) (indexKeeps_reads os enc)) ?_
  intro W base args ds gs before hval hW _ _ _ hL _ _
  have hT := tabs_of hL
  exact lift (s := Rows.indexKeepsSpec) (conds := []) (cx := cxU indexFm) (own := ownOf (Sg.look indexTab) 219) (fid := 219) (ss := [(false, [.slice tEnt]), (true, tStamp), (true, tStamp), (false, [.str]), (false, [.str])]) (tb := 4) (by kernel_rfl) (by kernel_rfl) (by kernel_rfl) laid rfl (by kernel_rfl) (by kernel_rfl)
    (fun ds h => by
      have h2 : Tryd.f9.params.toList.length = 5 := by kernel_rfl
      rw [h2] at h
      match ds, h with
      | [d0, d1, d2, d3, d4], _ => rfl) indexKeeps_ctr W (size_of hT) hT base args ds gs before hval hW
theorem indexKeeps_said : Rows.IndexKeepsSaid :=
  OpenClaim.holds_of_cond 9 Tryd.f9 rfl rfl rfl rfl rfl rfl rfl ⟨rfl, rfl, rfl, rfl, rfl⟩ rfl rfl rfl rfl rfl (by kernel_rfl) Tryd.func9 (by kernel_rfl)
    (of_decide_eq_true (by kernel_rfl)) (by unfold Func.isWrapper; first | (rw [if_pos (by decide +kernel)]; kernel_rfl) | (rw [if_neg (by decide +kernel)]; exact ⟨rfl, rfl⟩))
    (fun os started H enc _ F => by rw [OpenClaim.pre_eq_preRow]; exact indexKeeps_lifted os started H enc F)
theorem indexKeeps_plain (f : FuncId) (fn : Func) (hf : Tryd.pinned.checked.prog.funcNamed "stratigraph/stratigraphlaw08.IndexKeeps" = some f) (hfn : Tryd.pinned.checked.prog.funcs[f]? = some fn) :
    false = Tryd.pinned.checked.prog.looks [] ∧ ∀ (j : Nat) t, fn.params[j]? = some t → Tryd.pinned.checked.prog.wantsStandIn t = false := by
  obtain rfl : f = 9 := Option.some.inj ((show Tryd.prog.funcNamed "stratigraph/stratigraphlaw08.IndexKeeps" = some 9 by kernel_rfl).symm.trans hf) |>.symm
  obtain rfl : fn = Tryd.f9 := (Option.some.inj (Tryd.func9.symm.trans hfn)).symm
  refine ⟨by kernel_rfl, fun j t ht => ?_⟩
  rw [Tryd.params9] at ht
  have hm := Array.mem_of_getElem? ht
  simp only [List.mem_toArray, List.mem_cons, List.not_mem_nil, or_false] at hm
  rcases hm with rfl | rfl | rfl | rfl | rfl
  · exact (show Tryd.prog.wantsStandIn 22 = false by kernel_rfl)
  · exact (show Tryd.prog.wantsStandIn 24 = false by kernel_rfl)
  · exact (show Tryd.prog.wantsStandIn 24 = false by kernel_rfl)
  · exact (show Tryd.prog.wantsStandIn 9 = false by kernel_rfl)
  · exact (show Tryd.prog.wantsStandIn 9 = false by kernel_rfl)
theorem indexKeeps_holds : Rows.IndexKeepsCardSaid :=
  Claim7.holds_tied_plain_at .later [] _ _ _ _ indexKeeps_said (fun _ h => by cases h) (by kernel_rfl) (fun _ h => by cases h) indexKeeps_row_tie rfl ⟨rfl, rfl⟩ (by kernel_rfl) rfl indexKeeps_plain (by kernel_rfl)
#print axioms indexKeeps_holds
end Go.Proofs.YtcehlncpmdfhnaaDoor
