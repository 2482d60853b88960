/- DirectorStays, wherever what it reads is of bulk at most 1048576: proved over a checked abstract run of the translated code; no condition but that. A part. -/
import Derived.Test.YtidnkanghejlhaaGreatDoorChecked
import Derived.Lib.LaidU8
import Derived.Lib.OthersKept
import Derived.Laws.RangeAny
import Derived.WalkKit
import Derived.BigCall
import Derived.Test.YtidnkanghejlhaaGreatDoorG2
namespace Sg
def look {α : Type} : List (Nat × α) → Nat → Option α
  | [], _ => none
  | (k, a) :: l, n => if k = n then some a else look l n
def cxOf (l : List (Nat × Nat)) : Cx where
  fm := fun n => (look l n).getD 0
  tm := fun n => n
def okTab (P : Go.Program) (cx : Cx) (tab : List (Nat × Fn)) : List (Nat × Fn) → Bool
  | [] => true
  | (k, .code F) :: l => okF P cx (look tab) (cx.fm k) F && okTab P cx tab l
  | (_, .prim ..) :: l => okTab P cx tab l
theorem look_mem {α : Type} : ∀ {l : List (Nat × α)} {n : Nat} {a : α}, look l n = some a → (n, a) ∈ l
  | (k, b) :: l, n, a, h => by
    simp only [look] at h
    split at h
    · rename_i e; subst e; simp only [Option.some.injEq] at h; subst h; exact List.mem_cons_self
    · exact List.mem_cons_of_mem _ (look_mem h)
  | [], n, a, h => by simp [look] at h
theorem okTab_spec {P : Go.Program} {cx : Cx} {tab : List (Nat × Fn)} : ∀ {l : List (Nat × Fn)}, okTab P cx tab l = true → ∀ k F, (k, Fn.code F) ∈ l → okF P cx (look tab) (cx.fm k) F = true
  | (k', .code F') :: l, h, k, F, hm => by
    simp only [okTab, Bool.and_eq_true] at h
    simp only [List.mem_cons, Prod.mk.injEq, Fn.code.injEq] at hm
    rcases hm with ⟨rfl, rfl⟩ | hm
    · exact h.1
    · exact okTab_spec h.2 k F hm
  | (k', .prim o p) :: l, h, k, F, hm => by
    simp only [okTab] at h
    simp only [List.mem_cons, Prod.mk.injEq, reduceCtorEq, and_false, false_or] at hm
    exact okTab_spec h k F hm
  | [], h, k, F, hm => by simp at hm
theorem tab_code {P : Go.Program} {cx : Cx} {tab : List (Nat × Fn)} (h : okTab P cx tab tab = true) : ∀ f F, look tab f = some (.code F) → okF P cx (look tab) (cx.fm f) F = true :=
  fun f F hf => okTab_spec h f F (look_mem hf)
end Sg
namespace Sg
open _root_.Go (IntKind BinOp UnOp)
def r141_0 : List Op := [t_ 2 <|.mov (cb false)]
def r141_1 : List Op := [f_ 6 <|.mov (.g 0),f_ 7 <|.len false (.l 0),t_ 8 <|.bin .gtr (.l 1) (ci 8)]
def r141_2 : List Op := [t_ 2 <|.mov (cb false)]
def r141_3 : List Op := [t_ 3 <|.mko 2]
def r141_4 : List Op := [t_ 9 <|.mov (.g 0),t_ 10 <|.len false (.l 0),t_ 11 <|.mov (ci 0)]
def r141_5 : List Op := [t_ 12 <|.bin .lss (.g 11) (.g 10)]
def r141_6 : List Op := [f_ 13 <|.mov (.g 11),f_ 14 <|.iad 5 (.g 9) (.g 11),f_ 15 <|.load (.c) (some 5) (.l 1),t_ 5 <|.alloc [.str [], .str [], .int .i64 0, .int .i64 0, .int .i64 0],t_ 4 <|.mov (.l 0),u_ <|.store (.v 5) 5 (.l 3) (.l 2)]
def r141_7 : List Op := [f_ 16 <|.fad (.g 5) 2,f_ 17 <|.load (.v 5) none (.l 0),f_ 18 <|.call (.k 162) .no none [.l 1],f_ 19 <|.un .not (.l 2),f_ 20 <|.mov (.l 3),n_ 21 4 <|.fad (.g 5) 4,n_ 22 4 <|.load (.v 5) none (.l 5),n_ 23 4 <|.call (.k 162) .no none [.l 6],n_ 24 4 <|.un .not (.l 7),f_ 25 <|.pick (.l 4) (cb true) (.l 8),f_ 26 <|.mov (.l 9),n_ 27 10 <|.fad (.g 5) 3,n_ 28 10 <|.load (.v 5) none (.l 11),n_ 29 10 <|.call (.k 163) .no none [.l 12],n_ 30 10 <|.un .not (.l 13),t_ 31 <|.pick (.l 10) (cb true) (.l 14)]
def r141_8 : List Op := [t_ 2 <|.mov (cb false)]
def r141_9 : List Op := [f_ 32 <|.mov (.g 0),f_ 33 <|.mov (.g 4),f_ 34 <|.sl false 5 (.l 0) none (some (.l 1)),f_ 35 <|.fn 164 [.g 5] [5],t_ 36 <|.call (.k 165) .no none [.l 2, .l 3]]
def r141_10 : List Op := [t_ 2 <|.mov (cb false)]
def r141_11 : List Op := [f_ 37 <|.mov (.g 3),f_ 38 <|.fad (.g 5) 0,f_ 39 <|.load (.v 5) (some 2) (.l 1),f_ 40 <|.mks 2 1 [.str [], .str []] [(0, .l 2)],f_ 41 <|.app 3 2 (.l 0) (.l 3),t_ 3 <|.mov (.l 4)]
def r141_12 : List Op := [f_ 42 <|.bin .add (.g 11) (ci 1),t_ 11 <|.mov (.l 0)]
def b141_0 : C := .seq (.region false r141_5) (.seq (.cond (.g 12) (.skip) (.exit 0)) (.seq (.block 1 (.seq (.region false r141_6) (.seq (.seq (.region false r141_7) (.cond (.g 31) (.seq (.region false r141_8) (.ret)) (.skip))) (.seq (.seq (.region false r141_9) (.cond (.g 36) (.seq (.region false r141_10) (.ret)) (.skip))) (.region false r141_11))))) (.region false r141_12)))
def l141_0 : C := .loop [] [] [5] [] b141_0
def r141_13 : List Op := [f_ 43 <|.mov (.g 3),f_ 44 <|.call (.k 166) .borrow none [.l 0],t_ 2 <|.mov (.l 1)]
def c141 : C := .seq (.region false r141_0) (.seq (.seq (.region false r141_1) (.cond (.g 8) (.seq (.region false r141_2) (.ret)) (.skip))) (.seq (.region false r141_3) (.seq (.seq (.region false r141_4) (.block 0 (l141_0))) (.seq (.region false r141_13) (.ret)))))
def F141 : F := ⟨1, [0, 2, 3, 4, 5, 8, 9, 10, 11, 12, 31, 36], [.t 2], none, c141⟩
attribute [go_sem] r141_0 r141_1 r141_2 r141_3 r141_4 r141_5 r141_6 r141_7 r141_8 r141_9 r141_10 r141_11 r141_12 b141_0 r141_13 c141 F141
def r145_0 : List Op := [t_ 3 <|.box (.g 1),t_ 4 <|.mov (.c (.slice 5 []))]
def r145_1 : List Op := [f_ 8 <|.mov (.g 0),f_ 9 <|.call (.k 141) .no none [.l 0],t_ 10 <|.un .not (.l 1)]
def r145_2 : List Op := [t_ 4 <|.mov (.c (.slice 5 []))]
def r145_3 : List Op := [t_ 5 <|.mko 5]
def r145_4 : List Op := [t_ 11 <|.mov (.g 0),t_ 12 <|.len false (.l 0),t_ 13 <|.mov (ci 0)]
def r145_5 : List Op := [t_ 14 <|.bin .lss (.g 13) (.g 12)]
def r145_6 : List Op := [f_ 15 <|.iad 5 (.g 11) (.g 13),f_ 16 <|.load (.c) (some 5) (.l 0),t_ 7 <|.alloc [.str [], .str [], .int .i64 0, .int .i64 0, .int .i64 0],u_ <|.store (.v 7) 5 (.l 2) (.l 1)]
def r145_7 : List Op := [f_ 17 <|.fad (.g 7) 0,f_ 18 <|.load (.v 7) (some 2) (.l 0),f_ 19 <|.load (.v 3) (some 2) (.g 3),t_ 20 <|.call (.k 172) .no none [.l 1, .l 2]]
def r145_8 : List Op := [f_ 21 <|.mov (.g 5),f_ 22 <|.load (.v 7) (some 5) (.g 7),f_ 23 <|.mks 5 1 [.str [], .str [], .int .i64 0, .int .i64 0, .int .i64 0] [(0, .l 1)],f_ 24 <|.app 5 5 (.l 0) (.l 2),t_ 5 <|.mov (.l 3)]
def r145_9 : List Op := [f_ 25 <|.bin .add (.g 13) (ci 1),t_ 13 <|.mov (.l 0)]
def b145_0 : C := .seq (.region false r145_5) (.seq (.cond (.g 14) (.skip) (.exit 0)) (.seq (.block 1 (.seq (.region false r145_6) (.seq (.region false r145_7) (.cond (.g 20) (.region false r145_8) (.skip))))) (.region false r145_9)))
def l145_0 : C := .loop [] [] [7] [] b145_0
def r145_10 : List Op := [f_ 26 <|.mov (.g 5),t_ 4 <|.mov (.l 0)]
def c145 : C := .seq (.region false r145_0) (.seq (.seq (.region false r145_1) (.cond (.g 10) (.seq (.region false r145_2) (.ret)) (.skip))) (.seq (.region false r145_3) (.seq (.seq (.region false r145_4) (.block 0 (l145_0))) (.seq (.region false r145_10) (.ret)))))
def F145 : F := ⟨2, [0, 1, 3, 4, 5, 7, 10, 11, 12, 13, 14, 20], [.t 4], none, c145⟩
attribute [go_sem] r145_0 r145_1 r145_2 r145_3 r145_4 r145_5 r145_6 r145_7 r145_8 r145_9 b145_0 r145_10 c145 F145
def r148_0 : List Op := [t_ 4 <|.alloc [.str [], .str [], .int .i64 0, .int .i64 0, .int .i64 0],t_ 5 <|.mov (cb false)]
def r148_1 : List Op := [f_ 7 <|.mov (.g 0),f_ 8 <|.mov (.g 1),f_ 9 <|.call (.k 175) .no none [.l 0, .l 1],t_ 6 <|.mov (.l 2)]
def r148_2 : List Op := [f_ 10 <|.mov (.g 0),f_ 11 <|.call (.k 141) .no none [.l 0],f_ 12 <|.un .not (.l 1),f_ 13 <|.mov (.l 2),n_ 14 3 <|.mov (.g 6),n_ 15 3 <|.bin .lss (.l 4) (ci 0),t_ 16 <|.pick (.l 3) (cb true) (.l 5)]
def r148_3 : List Op := [f_ 17 <|.build [.str [], .str [], .int .i64 0, .int .i64 0, .int .i64 0] [],u_ <|.store (.v 4) 5 (.g 4) (.l 0),t_ 5 <|.mov (cb false)]
def r148_4 : List Op := [f_ 18 <|.mov (.g 0),f_ 19 <|.mov (.g 6),f_ 20 <|.iad 5 (.l 0) (.l 1),f_ 21 <|.load (.c) (some 5) (.l 2),u_ <|.store (.v 4) 5 (.g 4) (.l 3),t_ 5 <|.mov (cb true)]
def c148 : C := .seq (.region false r148_0) (.seq (.region false r148_1) (.seq (.seq (.region false r148_2) (.cond (.g 16) (.seq (.region false r148_3) (.ret)) (.skip))) (.seq (.region false r148_4) (.ret))))
def F148 : F := ⟨2, [0, 1, 4, 5, 6, 16], [.cell 4 (some 5), .t 5], none, c148⟩
attribute [go_sem] r148_0 r148_1 r148_2 r148_3 r148_4 c148 F148
def r154_0 : List Op := [t_ 0 <|.mov (.c (.slice 5 []))]
def r154_1 : List Op := [f_ 1 <|.build [.str [], .str [], .int .i64 0, .int .i64 0, .int .i64 0] [(2, 1, .c (.int .i64 1)), (3, 1, .c (.int .i64 1)), (4, 1, .c (.int .i64 1))],f_ 2 <|.mks 5 1 [.str [], .str [], .int .i64 0, .int .i64 0, .int .i64 0] [(0, .l 0)],t_ 0 <|.mov (.l 1)]
def c154 : C := .seq (.region false r154_0) (.seq (.region false r154_1) (.ret))
def F154 : F := ⟨0, [0], [.t 0], none, c154⟩
attribute [go_sem] r154_0 r154_1 c154 F154
def r156_0 : List Op := [t_ 10 <|.mov (.c (.slice 5 [])),t_ 11 <|.mov (ci 0)]
def r156_1 : List Op := [f_ 18 <|.mov (.g 0),f_ 19 <|.mov (.g 1),f_ 20 <|.mov (.g 4),f_ 21 <|.call (.k 177) .no none [.l 0, .l 1, .l 2],f_ 17 <|.mov (.l 3),f_ 22 <|.ext (.l 4) 0,f_ 23 <|.ext (.l 4) 1,t_ 12 <|.mov (.l 5),t_ 13 <|.mov (.l 6)]
def r156_2 : List Op := [f_ 25 <|.mov (.g 3),f_ 26 <|.call (.k 162) .no none [.l 0],f_ 27 <|.un .not (.l 1),t_ 24 <|.mov (.l 2)]
def r156_3 : List Op := [t_ 10 <|.mov (.c (.slice 5 [])),t_ 11 <|.mov (ci 1)]
def r156_4 : List Op := [f_ 29 <|.mov (.g 13),f_ 30 <|.bin .neq (.l 0) (ci 0),t_ 28 <|.mov (.l 1)]
def r156_5 : List Op := [f_ 31 <|.mov (.g 13),t_ 10 <|.mov (.c (.slice 5 [])),t_ 11 <|.mov (.l 0)]
def r156_6 : List Op := [f_ 33 <|.mov (.g 0),f_ 34 <|.mov (.g 3),f_ 35 <|.call (.k 175) .no none [.l 0, .l 1],f_ 36 <|.bin .geq (.l 2) (ci 0),t_ 32 <|.mov (.l 3)]
def r156_7 : List Op := [t_ 10 <|.mov (.c (.slice 5 [])),t_ 11 <|.mov (ci 8)]
def r156_8 : List Op := [f_ 38 <|.mov (.g 0),f_ 39 <|.len false (.l 0),f_ 40 <|.bin .eql (.l 1) (ci 8),t_ 37 <|.mov (.l 2)]
def r156_9 : List Op := [t_ 10 <|.mov (.c (.slice 5 [])),t_ 11 <|.mov (ci 6)]
def r156_10 : List Op := [f_ 42 <|.mov (.g 0),f_ 43 <|.mov (.g 12),f_ 44 <|.iad 5 (.l 0) (.l 1),f_ 45 <|.fad (.l 2) 0,f_ 46 <|.load (.c) (some 2) (.l 3),f_ 47 <|.mov (.g 2),f_ 48 <|.call (.k 178) .no none [.l 4, .l 5],f_ 41 <|.mov (.l 6),f_ 49 <|.ext (.l 7) 0,f_ 50 <|.ext (.l 7) 1,f_ 51 <|.ext (.l 7) 2,t_ 14 <|.alloc [.str [], .str []],t_ 15 <|.alloc [.str [], .str []],u_ <|.store (.v 14) 2 (.l 11) (.l 8),u_ <|.store (.v 15) 2 (.l 12) (.l 9),t_ 13 <|.mov (.l 10)]
def r156_11 : List Op := [f_ 52 <|.mov (.g 13),t_ 53 <|.bin .neq (.l 0) (ci 0)]
def r156_12 : List Op := [f_ 54 <|.mov (.g 13),t_ 10 <|.mov (.c (.slice 5 [])),t_ 11 <|.mov (.l 0)]
def r156_13 : List Op := [f_ 55 <|.mov (.g 0),f_ 56 <|.call (.k 179) .no (some 0) [.l 0],f_ 57 <|.mov (.g 12),f_ 58 <|.bin .add (.l 2) (ci 1),f_ 59 <|.load (.v 15) (some 2) (.g 15),f_ 60 <|.mov (.g 3),f_ 61 <|.mov (.g 0),f_ 62 <|.mov (.g 12),f_ 63 <|.iad 5 (.l 6) (.l 7),f_ 64 <|.fad (.l 8) 3,f_ 65 <|.load (.c) none (.l 9),f_ 66 <|.mov (.g 4),f_ 67 <|.build [.str [], .str [], .int .i64 0, .int .i64 0, .int .i64 0] [(0, 2, .l 4), (2, 1, .l 5), (3, 1, .l 10), (4, 1, .l 11)],f_ 68 <|.mks 5 1 [.str [], .str [], .int .i64 0, .int .i64 0, .int .i64 0] [(0, .l 12)],f_ 69 <|.ins 180 56 5 (.l 1) (.l 3) (.l 13),t_ 16 <|.mov (.l 14)]
def r156_14 : List Op := [f_ 70 <|.mov (.g 16),f_ 71 <|.mov (.g 12),f_ 72 <|.mov (.g 16),f_ 73 <|.mov (.g 12),f_ 74 <|.load (.v 14) (some 2) (.g 14),f_ 75 <|.mov (.g 4),f_ 76 <|.iad 5 (.l 0) (.l 1),f_ 77 <|.fad (.l 6) 0,u_ <|.store (.e 56) 2 (.l 7) (.l 4),f_ 78 <|.iad 5 (.l 2) (.l 3),f_ 79 <|.fad (.l 9) 4,u_ <|.store (.e 56) 1 (.l 10) (.l 5)]
def r156_15 : List Op := [f_ 80 <|.mov (.g 16),t_ 10 <|.mov (.l 0),t_ 11 <|.mov (ci 0)]
def c156 : C := .seq (.region false r156_0) (.seq (.region false r156_1) (.seq (.block 0 (.seq (.region false r156_2) (.cond (.g 24) (.seq (.region false r156_3) (.ret)) (.seq (.region false r156_4) (.cond (.g 28) (.seq (.region false r156_5) (.ret)) (.seq (.region false r156_6) (.cond (.g 32) (.seq (.region false r156_7) (.ret)) (.seq (.region false r156_8) (.cond (.g 37) (.seq (.region false r156_9) (.ret)) (.skip)))))))))) (.seq (.region false r156_10) (.seq (.seq (.region false r156_11) (.cond (.g 53) (.seq (.region false r156_12) (.ret)) (.skip))) (.seq (.region true r156_13) (.seq (.region false r156_14) (.seq (.region false r156_15) (.ret))))))))
def F156 : F := ⟨5, [0, 1, 2, 3, 4, 10, 11, 12, 13, 14, 15, 16, 24, 28, 32, 37, 53], [.t 10, .t 11], none, c156⟩
attribute [go_sem] r156_0 r156_1 r156_2 r156_3 r156_4 r156_5 r156_6 r156_7 r156_8 r156_9 r156_10 r156_11 r156_12 r156_13 r156_14 r156_15 c156 F156
def r157_0 : List Op := [t_ 8 <|.mov (.c (.slice 5 [])),t_ 9 <|.mov (ci 0)]
def r157_1 : List Op := [f_ 15 <|.mov (.g 0),f_ 16 <|.mov (.g 1),f_ 17 <|.mov (.g 3),f_ 18 <|.call (.k 177) .no none [.l 0, .l 1, .l 2],f_ 14 <|.mov (.l 3),f_ 19 <|.ext (.l 4) 0,f_ 20 <|.ext (.l 4) 1,t_ 10 <|.mov (.l 5),t_ 11 <|.mov (.l 6)]
def r157_2 : List Op := [f_ 21 <|.mov (.g 0),f_ 22 <|.mov (.g 2),f_ 23 <|.call (.k 175) .no none [.l 0, .l 1],t_ 12 <|.mov (.l 2)]
def r157_3 : List Op := [f_ 25 <|.mov (.g 2),f_ 26 <|.call (.k 162) .no none [.l 0],f_ 27 <|.un .not (.l 1),t_ 24 <|.mov (.l 2)]
def r157_4 : List Op := [t_ 8 <|.mov (.c (.slice 5 [])),t_ 9 <|.mov (ci 1)]
def r157_5 : List Op := [f_ 29 <|.mov (.g 11),f_ 30 <|.bin .neq (.l 0) (ci 0),t_ 28 <|.mov (.l 1)]
def r157_6 : List Op := [f_ 31 <|.mov (.g 11),t_ 8 <|.mov (.c (.slice 5 [])),t_ 9 <|.mov (.l 0)]
def r157_7 : List Op := [f_ 33 <|.mov (.g 12),f_ 34 <|.bin .lss (.l 0) (ci 0),t_ 32 <|.mov (.l 1)]
def r157_8 : List Op := [t_ 8 <|.mov (.c (.slice 5 [])),t_ 9 <|.mov (ci 7)]
def r157_9 : List Op := [f_ 36 <|.mov (.g 12),f_ 37 <|.mov (.g 10),f_ 38 <|.bin .add (.l 1) (ci 1),f_ 39 <|.bin .neq (.l 0) (.l 2),f_ 40 <|.mov (.l 3),n_ 41 4 <|.mov (.g 0),n_ 42 4 <|.mov (.g 10),n_ 43 4 <|.iad 5 (.l 5) (.l 6),n_ 44 4 <|.fad (.l 7) 3,n_ 45 4 <|.load (.c) none (.l 8),n_ 46 4 <|.mov (.g 0),n_ 47 4 <|.mov (.g 12),n_ 48 4 <|.iad 5 (.l 10) (.l 11),n_ 49 4 <|.fad (.l 12) 3,n_ 50 4 <|.load (.c) none (.l 13),n_ 51 4 <|.bin .neq (.l 9) (.l 14),f_ 52 <|.pick (.l 4) (cb true) (.l 15),f_ 53 <|.mov (.l 16),n_ 54 17 <|.mov (.g 3),n_ 55 17 <|.mov (.g 0),n_ 56 17 <|.mov (.g 12),n_ 57 17 <|.iad 5 (.l 19) (.l 20),n_ 58 17 <|.fad (.l 21) 4,n_ 59 17 <|.load (.c) none (.l 22),n_ 60 17 <|.bin .leq (.l 18) (.l 23),f_ 61 <|.pick (.l 17) (cb true) (.l 24),t_ 35 <|.mov (.l 25)]
def r157_10 : List Op := [t_ 8 <|.mov (.c (.slice 5 [])),t_ 9 <|.mov (ci 9)]
def r157_11 : List Op := [f_ 62 <|.mov (.g 0),f_ 63 <|.call (.k 179) .no (some 0) [.l 0],f_ 64 <|.mov (.g 12),f_ 65 <|.mov (.g 12),f_ 66 <|.bin .add (.l 3) (ci 1),f_ 67 <|.del 181 63 5 (.l 1) (.l 2) (.l 4),t_ 13 <|.mov (.l 5)]
def r157_12 : List Op := [f_ 68 <|.mov (.g 13),f_ 69 <|.mov (.g 10),f_ 70 <|.mov (.g 13),f_ 71 <|.mov (.g 10),f_ 72 <|.mov (.g 0),f_ 73 <|.mov (.g 12),f_ 74 <|.iad 5 (.l 4) (.l 5),f_ 75 <|.fad (.l 6) 0,f_ 76 <|.fad (.l 7) 1,f_ 77 <|.load (.c) none (.l 8),f_ 78 <|.mov (.g 3),f_ 79 <|.iad 5 (.l 0) (.l 1),f_ 80 <|.fad (.l 11) 0,f_ 81 <|.fad (.l 12) 1,u_ <|.store (.e 67) 1 (.l 13) (.l 9),f_ 82 <|.iad 5 (.l 2) (.l 3),f_ 83 <|.fad (.l 15) 4,u_ <|.store (.e 67) 1 (.l 16) (.l 10)]
def r157_13 : List Op := [f_ 84 <|.mov (.g 13),t_ 8 <|.mov (.l 0),t_ 9 <|.mov (ci 0)]
def c157 : C := .seq (.region false r157_0) (.seq (.region false r157_1) (.seq (.region false r157_2) (.seq (.block 0 (.seq (.region false r157_3) (.cond (.g 24) (.seq (.region false r157_4) (.ret)) (.seq (.region false r157_5) (.cond (.g 28) (.seq (.region false r157_6) (.ret)) (.seq (.region false r157_7) (.cond (.g 32) (.seq (.region false r157_8) (.ret)) (.seq (.region true r157_9) (.cond (.g 35) (.seq (.region false r157_10) (.ret)) (.skip)))))))))) (.seq (.region false r157_11) (.seq (.region false r157_12) (.seq (.region false r157_13) (.ret)))))))
def F157 : F := ⟨4, [0, 1, 2, 3, 8, 9, 10, 11, 12, 13, 24, 28, 32, 35], [.t 8, .t 9], none, c157⟩
attribute [go_sem] r157_0 r157_1 r157_2 r157_3 r157_4 r157_5 r157_6 r157_7 r157_8 r157_9 r157_10 r157_11 r157_12 r157_13 c157 F157
def r159_0 : List Op := [t_ 8 <|.mov (.c (.slice 5 [])),t_ 9 <|.mov (ci 0)]
def r159_1 : List Op := [f_ 14 <|.mov (.g 0),f_ 15 <|.mov (.g 1),f_ 16 <|.mov (.g 3),f_ 17 <|.call (.k 177) .no none [.l 0, .l 1, .l 2],f_ 13 <|.mov (.l 3),f_ 18 <|.ext (.l 4) 0,f_ 19 <|.ext (.l 4) 1,t_ 10 <|.mov (.l 5),t_ 11 <|.mov (.l 6)]
def r159_2 : List Op := [f_ 21 <|.mov (.g 2),f_ 22 <|.call (.k 163) .no none [.l 0],f_ 23 <|.un .not (.l 1),t_ 20 <|.mov (.l 2)]
def r159_3 : List Op := [t_ 8 <|.mov (.c (.slice 5 [])),t_ 9 <|.mov (ci 1)]
def r159_4 : List Op := [f_ 25 <|.mov (.g 11),f_ 26 <|.bin .neq (.l 0) (ci 0),t_ 24 <|.mov (.l 1)]
def r159_5 : List Op := [f_ 27 <|.mov (.g 11),t_ 8 <|.mov (.c (.slice 5 [])),t_ 9 <|.mov (.l 0)]
def r159_6 : List Op := [f_ 29 <|.mov (.g 0),f_ 30 <|.mov (.g 10),f_ 31 <|.iad 5 (.l 0) (.l 1),f_ 32 <|.fad (.l 2) 3,f_ 33 <|.load (.c) none (.l 3),f_ 34 <|.mov (.g 2),f_ 35 <|.bin .eql (.l 4) (.l 5),t_ 28 <|.mov (.l 6)]
def r159_7 : List Op := [t_ 8 <|.mov (.c (.slice 5 [])),t_ 9 <|.mov (ci 8)]
def r159_8 : List Op := [f_ 36 <|.mov (.g 0),f_ 37 <|.call (.k 179) .no (some 0) [.l 0],t_ 12 <|.mov (.l 1)]
def r159_9 : List Op := [f_ 38 <|.mov (.g 12),f_ 39 <|.mov (.g 10),f_ 40 <|.mov (.g 12),f_ 41 <|.mov (.g 10),f_ 42 <|.mov (.g 2),f_ 43 <|.mov (.g 3),f_ 44 <|.iad 5 (.l 0) (.l 1),f_ 45 <|.fad (.l 6) 3,u_ <|.store (.e 37) 1 (.l 7) (.l 4),f_ 46 <|.iad 5 (.l 2) (.l 3),f_ 47 <|.fad (.l 9) 4,u_ <|.store (.e 37) 1 (.l 10) (.l 5)]
def r159_10 : List Op := [f_ 48 <|.mov (.g 12),t_ 8 <|.mov (.l 0),t_ 9 <|.mov (ci 0)]
def c159 : C := .seq (.region false r159_0) (.seq (.region false r159_1) (.seq (.block 0 (.seq (.region false r159_2) (.cond (.g 20) (.seq (.region false r159_3) (.ret)) (.seq (.region false r159_4) (.cond (.g 24) (.seq (.region false r159_5) (.ret)) (.seq (.region false r159_6) (.cond (.g 28) (.seq (.region false r159_7) (.ret)) (.skip)))))))) (.seq (.region false r159_8) (.seq (.region false r159_9) (.seq (.region false r159_10) (.ret))))))
def F159 : F := ⟨4, [0, 1, 2, 3, 8, 9, 10, 11, 12, 20, 24, 28], [.t 8, .t 9], none, c159⟩
attribute [go_sem] r159_0 r159_1 r159_2 r159_3 r159_4 r159_5 r159_6 r159_7 r159_8 r159_9 r159_10 c159 F159
def r162_0 : List Op := [t_ 2 <|.mov (cb false)]
def r162_1 : List Op := [f_ 3 <|.mov (.g 0),f_ 4 <|.bin .geq (.l 0) (ci 1),f_ 5 <|.mov (.l 1),y_ 6 2 <|.mov (.g 0),y_ 7 2 <|.bin .leq (.l 3) (ci 1099511627776),f_ 8 <|.pick (.l 2) (.l 4) (cb false),t_ 2 <|.mov (.l 5)]
def c162 : C := .seq (.region false r162_0) (.seq (.region false r162_1) (.ret))
def F162 : F := ⟨1, [0, 2], [.t 2], none, c162⟩
attribute [go_sem] r162_0 r162_1 c162 F162
def r163_0 : List Op := [t_ 2 <|.mov (cb false)]
def r163_1 : List Op := [f_ 3 <|.mov (.g 0),f_ 4 <|.bin .geq (.l 0) (ci 1),f_ 5 <|.mov (.l 1),y_ 6 2 <|.mov (.g 0),y_ 7 2 <|.bin .leq (.l 3) (ci 3),f_ 8 <|.pick (.l 2) (.l 4) (cb false),t_ 2 <|.mov (.l 5)]
def c163 : C := .seq (.region false r163_0) (.seq (.region false r163_1) (.ret))
def F163 : F := ⟨1, [0, 2], [.t 2], none, c163⟩
attribute [go_sem] r163_0 r163_1 c163 F163
def r164_0 : List Op := [t_ 2 <|.box (.g 0),t_ 3 <|.mov (cb false)]
def r164_1 : List Op := [f_ 4 <|.fad (.g 2) 2,f_ 5 <|.load (.v 2) none (.l 0),f_ 6 <|.fad (.g 1) 2,f_ 7 <|.load (.c) none (.l 2),f_ 8 <|.bin .eql (.l 1) (.l 3),t_ 3 <|.mov (.l 4)]
def c164 : C := .seq (.region false r164_0) (.seq (.region false r164_1) (.ret))
def F164 : F := ⟨2, [0, 1, 2, 3], [.t 3], none, c164⟩
attribute [go_sem] r164_0 r164_1 c164 F164
def r165_0 : List Op := [t_ 4 <|.mov (cb false)]
def r165_1 : List Op := [f_ 5 <|.mov (.g 0),f_ 6 <|.mov (.g 1),f_ 7 <|.call (.k 185) .no none [.l 0, .l 1],f_ 8 <|.bin .geq (.l 2) (ci 0),t_ 4 <|.mov (.l 3)]
def c165 : C := .seq (.region false r165_0) (.seq (.region false r165_1) (.ret))
def F165 : F := ⟨2, [0, 1, 4], [.t 4], none, c165⟩
attribute [go_sem] r165_0 r165_1 c165 F165
def r166_0 : List Op := [t_ 2 <|.mov (cb false)]
def r166_1 : List Op := [t_ 3 <|.mov (.c (.str []))]
def r166_2 : List Op := [t_ 6 <|.mov (.g 0),t_ 7 <|.len false (.l 0),t_ 8 <|.mov (ci 0)]
def r166_3 : List Op := [t_ 9 <|.bin .lss (.g 8) (.g 7)]
def r166_4 : List Op := [f_ 10 <|.mov (.g 8),f_ 11 <|.iad 2 (.g 6) (.g 8),f_ 12 <|.load (.c) (some 2) (.l 1),t_ 5 <|.alloc [.str [], .str []],t_ 4 <|.mov (.l 0),u_ <|.store (.v 5) 2 (.l 3) (.l 2)]
def r166_5 : List Op := [f_ 13 <|.load (.v 5) (some 2) (.g 5),f_ 14 <|.call (.k 186) .no none [.l 0],f_ 15 <|.un .not (.l 1),f_ 16 <|.mov (.l 2),n_ 17 3 <|.fad (.g 5) 0,n_ 18 3 <|.load (.v 5) none (.l 4),n_ 19 3 <|.mov (.g 3),n_ 20 3 <|.bin .neq (.l 5) (.l 6),f_ 21 <|.pick (.l 3) (cb true) (.l 7),f_ 22 <|.mov (.l 8),n_ 23 9 <|.mov (.g 4),n_ 24 9 <|.bin .gtr (.l 10) (ci 0),n_ 25 9 <|.mov (.l 11),y_ 26 12 <|.mov (.g 3),y_ 27 12 <|.bin .eql (.l 13) (.c (.str [])),n_ 28 9 <|.pick (.l 12) (.l 14) (cb false),t_ 29 <|.pick (.l 9) (cb true) (.l 15)]
def r166_6 : List Op := [t_ 2 <|.mov (cb false)]
def r166_7 : List Op := [f_ 30 <|.fad (.g 5) 1,f_ 31 <|.load (.v 5) none (.l 0),t_ 3 <|.mov (.l 1)]
def r166_8 : List Op := [f_ 32 <|.bin .add (.g 8) (ci 1),t_ 8 <|.mov (.l 0)]
def b166_0 : C := .seq (.region false r166_3) (.seq (.cond (.g 9) (.skip) (.exit 0)) (.seq (.block 1 (.seq (.region false r166_4) (.seq (.seq (.region false r166_5) (.cond (.g 29) (.seq (.region false r166_6) (.ret)) (.skip))) (.region false r166_7)))) (.region false r166_8)))
def l166_0 : C := .loop [] [] [5] [] b166_0
def r166_9 : List Op := [f_ 33 <|.mov (.g 0),f_ 34 <|.len false (.l 0),f_ 35 <|.bin .gtr (.l 1) (ci 0),f_ 36 <|.mov (.l 2),y_ 37 3 <|.mov (.g 3),y_ 38 3 <|.bin .eql (.l 4) (.c (.str [])),f_ 39 <|.pick (.l 3) (.l 5) (cb false),t_ 2 <|.mov (.l 6)]
def c166 : C := .seq (.region false r166_0) (.seq (.region false r166_1) (.seq (.seq (.region false r166_2) (.block 0 (l166_0))) (.seq (.region false r166_9) (.ret))))
def F166 : F := ⟨1, [0, 2, 3, 4, 5, 6, 7, 8, 9, 29], [.t 2], none, c166⟩
attribute [go_sem] r166_0 r166_1 r166_2 r166_3 r166_4 r166_5 r166_6 r166_7 r166_8 b166_0 r166_9 c166 F166
def r168_0 : List Op := [t_ 2 <|.mov (cb false)]
def r168_1 : List Op := [f_ 5 <|.mov (.g 0),f_ 6 <|.len true (.l 0),f_ 7 <|.bin .eql (.l 1) (ci 0),f_ 8 <|.mov (.l 2),n_ 9 3 <|.mov (.g 0),n_ 10 3 <|.len true (.l 4),n_ 11 3 <|.bin .gtr (.l 5) (ci 16),t_ 12 <|.pick (.l 3) (cb true) (.l 6)]
def r168_2 : List Op := [t_ 2 <|.mov (cb false)]
def r168_3 : List Op := [f_ 13 <|.mov (.g 0),f_ 14 <|.len true (.l 0),t_ 15 <|.bin .gtr (.l 1) (ci 0)]
def r168_4 : List Op := [f_ 17 <|.mov (.g 0),f_ 18 <|.call (.k 188) .no none [.l 0],f_ 16 <|.mov (.l 1),f_ 19 <|.ext (.l 2) 0,f_ 20 <|.ext (.l 2) 1,t_ 3 <|.mov (.l 3),t_ 4 <|.mov (.l 4)]
def r168_5 : List Op := [f_ 21 <|.mov (.g 3),f_ 22 <|.call (.k 189) .no none [.l 0],t_ 23 <|.un .not (.l 1)]
def r168_6 : List Op := [t_ 2 <|.mov (cb false)]
def r168_7 : List Op := [f_ 24 <|.mov (.g 0),f_ 25 <|.mov (.g 4),f_ 26 <|.sl true 0 (.l 0) (some (.l 1)) none,t_ 0 <|.mov (.l 2)]
def b168_0 : C := .seq (.seq (.region false r168_3) (.cond (.g 15) (.skip) (.exit 0))) (.block 1 (.seq (.region false r168_4) (.seq (.seq (.region false r168_5) (.cond (.g 23) (.seq (.region false r168_6) (.ret)) (.skip))) (.region false r168_7))))
def l168_0 : C := .loop [] [] [] [] b168_0
def r168_8 : List Op := [t_ 2 <|.mov (cb true)]
def c168 : C := .seq (.region false r168_0) (.seq (.seq (.region false r168_1) (.cond (.g 12) (.seq (.region false r168_2) (.ret)) (.skip))) (.seq (.block 0 (l168_0)) (.seq (.region false r168_8) (.ret))))
def F168 : F := ⟨1, [0, 2, 3, 4, 12, 15, 23], [.t 2], none, c168⟩
attribute [go_sem] r168_0 r168_1 r168_2 r168_3 r168_4 r168_5 r168_6 r168_7 b168_0 r168_8 c168 F168
def r171_0 : List Op := [t_ 2 <|.box (.g 0),t_ 4 <|.mov (cb false)]
def r171_1 : List Op := [f_ 5 <|.load (.v 2) (some 2) (.g 2),f_ 6 <|.call (.k 186) .no none [.l 0],f_ 7 <|.mov (.l 1),y_ 8 2 <|.mov (.g 1),y_ 9 2 <|.call (.k 170) .no none [.l 3],f_ 10 <|.pick (.l 2) (.l 4) (cb false),f_ 11 <|.mov (.l 5),y_ 12 6 <|.fad (.g 2) 0,y_ 13 6 <|.load (.v 2) none (.l 7),y_ 14 6 <|.mov (.g 1),y_ 15 6 <|.call (.k 192) .no none [.l 8, .l 9],y_ 16 6 <|.bin .leq (.l 10) (ci 0),f_ 17 <|.pick (.l 6) (.l 11) (cb false),f_ 18 <|.mov (.l 12),y_ 19 13 <|.fad (.g 2) 1,y_ 20 13 <|.load (.v 2) none (.l 14),y_ 21 13 <|.bin .eql (.l 15) (.c (.str [])),y_ 22 13 <|.mov (.l 16),n_ 23 17 <|.mov (.g 1),n_ 24 17 <|.fad (.g 2) 1,n_ 25 17 <|.load (.v 2) none (.l 19),n_ 26 17 <|.call (.k 192) .no none [.l 18, .l 20],n_ 27 17 <|.bin .lss (.l 21) (ci 0),y_ 28 13 <|.pick (.l 17) (cb true) (.l 22),f_ 29 <|.pick (.l 13) (.l 23) (cb false),t_ 4 <|.mov (.l 24)]
def c171 : C := .seq (.region false r171_0) (.seq (.region false r171_1) (.ret))
def F171 : F := ⟨2, [0, 1, 2, 4], [.t 4], none, c171⟩
attribute [go_sem] r171_0 r171_1 c171 F171
def r172_0 : List Op := [t_ 2 <|.box (.g 0),t_ 3 <|.box (.g 1),t_ 4 <|.mov (cb false)]
def r172_1 : List Op := [f_ 5 <|.load (.v 2) (some 2) (.g 2),f_ 6 <|.call (.k 186) .no none [.l 0],f_ 7 <|.mov (.l 1),y_ 8 2 <|.load (.v 3) (some 2) (.g 3),y_ 9 2 <|.call (.k 186) .no none [.l 3],f_ 10 <|.pick (.l 2) (.l 4) (cb false),f_ 11 <|.mov (.l 5),y_ 12 6 <|.fad (.g 2) 0,y_ 13 6 <|.load (.v 2) none (.l 7),y_ 14 6 <|.fad (.g 3) 1,y_ 15 6 <|.load (.v 3) none (.l 9),y_ 16 6 <|.call (.k 193) .no none [.l 8, .l 10],f_ 17 <|.pick (.l 6) (.l 11) (cb false),f_ 18 <|.mov (.l 12),y_ 19 13 <|.fad (.g 3) 0,y_ 20 13 <|.load (.v 3) none (.l 14),y_ 21 13 <|.fad (.g 2) 1,y_ 22 13 <|.load (.v 2) none (.l 16),y_ 23 13 <|.call (.k 193) .no none [.l 15, .l 17],f_ 24 <|.pick (.l 13) (.l 18) (cb false),t_ 4 <|.mov (.l 19)]
def c172 : C := .seq (.region false r172_0) (.seq (.region false r172_1) (.ret))
def F172 : F := ⟨2, [0, 1, 2, 3, 4], [.t 4], none, c172⟩
attribute [go_sem] r172_0 r172_1 c172 F172
def r175_0 : List Op := [t_ 3 <|.box (.g 1),t_ 4 <|.mov (ci 0)]
def r175_1 : List Op := [f_ 5 <|.mov (.g 0),f_ 6 <|.fn 194 [.g 3] [3],f_ 7 <|.call (.k 185) .no none [.l 0, .l 1],t_ 4 <|.mov (.l 2)]
def c175 : C := .seq (.region false r175_0) (.seq (.region false r175_1) (.ret))
def F175 : F := ⟨2, [0, 1, 3, 4], [.t 4], none, c175⟩
attribute [go_sem] r175_0 r175_1 c175 F175
def r177_0 : List Op := [t_ 6 <|.mov (ci 0),t_ 7 <|.mov (ci 0)]
def r177_1 : List Op := [f_ 9 <|.mov (.g 0),f_ 10 <|.mov (.g 1),f_ 11 <|.call (.k 175) .no none [.l 0, .l 1],t_ 8 <|.mov (.l 2)]
def r177_2 : List Op := [f_ 13 <|.mov (.g 0),f_ 14 <|.call (.k 141) .no none [.l 0],f_ 15 <|.un .not (.l 1),f_ 16 <|.mov (.l 2),n_ 17 3 <|.mov (.g 2),n_ 18 3 <|.call (.k 162) .no none [.l 4],n_ 19 3 <|.un .not (.l 5),f_ 20 <|.pick (.l 3) (cb true) (.l 6),t_ 12 <|.mov (.l 7)]
def r177_3 : List Op := [t_ 6 <|.mov (ci 0),t_ 7 <|.mov (ci 1)]
def r177_4 : List Op := [f_ 22 <|.mov (.g 8),f_ 23 <|.bin .lss (.l 0) (ci 0),t_ 21 <|.mov (.l 1)]
def r177_5 : List Op := [t_ 6 <|.mov (ci 0),t_ 7 <|.mov (ci 7)]
def r177_6 : List Op := [f_ 25 <|.mov (.g 2),f_ 26 <|.mov (.g 0),f_ 27 <|.mov (.g 8),f_ 28 <|.iad 5 (.l 1) (.l 2),f_ 29 <|.fad (.l 3) 4,f_ 30 <|.load (.c) none (.l 4),f_ 31 <|.bin .leq (.l 0) (.l 5),t_ 24 <|.mov (.l 6)]
def r177_7 : List Op := [t_ 6 <|.mov (ci 0),t_ 7 <|.mov (ci 9)]
def r177_8 : List Op := [f_ 32 <|.mov (.g 8),t_ 6 <|.mov (.l 0),t_ 7 <|.mov (ci 0)]
def c177 : C := .seq (.region false r177_0) (.seq (.region false r177_1) (.seq (.block 0 (.seq (.region false r177_2) (.cond (.g 12) (.seq (.region false r177_3) (.ret)) (.seq (.region false r177_4) (.cond (.g 21) (.seq (.region false r177_5) (.ret)) (.seq (.region false r177_6) (.cond (.g 24) (.seq (.region false r177_7) (.ret)) (.skip)))))))) (.seq (.region false r177_8) (.ret))))
def F177 : F := ⟨3, [0, 1, 2, 6, 7, 8, 12, 21, 24], [.t 6, .t 7], none, c177⟩
attribute [go_sem] r177_0 r177_1 r177_2 r177_3 r177_4 r177_5 r177_6 r177_7 r177_8 c177 F177
def r178_0 : List Op := [t_ 2 <|.box (.g 0),t_ 4 <|.alloc [.str [], .str []],t_ 5 <|.alloc [.str [], .str []],t_ 6 <|.mov (ci 0)]
def r178_1 : List Op := [f_ 8 <|.load (.v 2) (some 2) (.g 2),f_ 9 <|.call (.k 186) .no none [.l 0],f_ 10 <|.un .not (.l 1),f_ 11 <|.mov (.l 2),n_ 12 3 <|.mov (.g 1),n_ 13 3 <|.call (.k 170) .no none [.l 4],n_ 14 3 <|.un .not (.l 5),f_ 15 <|.pick (.l 3) (cb true) (.l 6),t_ 7 <|.mov (.l 7)]
def r178_2 : List Op := [f_ 16 <|.build [.str [], .str []] [],f_ 17 <|.build [.str [], .str []] [],u_ <|.store (.v 4) 2 (.g 4) (.l 0),u_ <|.store (.v 5) 2 (.g 5) (.l 1),t_ 6 <|.mov (ci 1)]
def r178_3 : List Op := [f_ 19 <|.mov (.g 1),f_ 20 <|.fad (.g 2) 0,f_ 21 <|.load (.v 2) none (.l 1),f_ 22 <|.bin .eql (.l 0) (.l 2),f_ 23 <|.mov (.l 3),n_ 24 4 <|.load (.v 2) (some 2) (.g 2),n_ 25 4 <|.mov (.g 1),n_ 26 4 <|.call (.k 171) .no none [.l 5, .l 6],n_ 27 4 <|.un .not (.l 7),f_ 28 <|.pick (.l 4) (cb true) (.l 8),t_ 18 <|.mov (.l 9)]
def r178_4 : List Op := [f_ 29 <|.build [.str [], .str []] [],f_ 30 <|.build [.str [], .str []] [],u_ <|.store (.v 4) 2 (.g 4) (.l 0),u_ <|.store (.v 5) 2 (.g 5) (.l 1),t_ 6 <|.mov (ci 9)]
def r178_5 : List Op := [f_ 31 <|.fad (.g 2) 0,f_ 32 <|.load (.v 2) none (.l 0),f_ 33 <|.mov (.g 1),f_ 34 <|.build [.str [], .str []] [(0, 1, .l 1), (1, 1, .l 2)],f_ 35 <|.mov (.g 1),f_ 36 <|.fad (.g 2) 1,f_ 37 <|.load (.v 2) none (.l 5),f_ 38 <|.build [.str [], .str []] [(0, 1, .l 4), (1, 1, .l 6)],u_ <|.store (.v 4) 2 (.g 4) (.l 3),u_ <|.store (.v 5) 2 (.g 5) (.l 7),t_ 6 <|.mov (ci 0)]
def c178 : C := .seq (.region false r178_0) (.seq (.block 0 (.seq (.region false r178_1) (.cond (.g 7) (.seq (.region false r178_2) (.ret)) (.seq (.region false r178_3) (.cond (.g 18) (.seq (.region false r178_4) (.ret)) (.skip)))))) (.seq (.region true r178_5) (.ret)))
def F178 : F := ⟨2, [0, 1, 2, 4, 5, 6, 7, 18], [.cell 4 (some 2), .cell 5 (some 2), .t 6], none, c178⟩
attribute [go_sem] r178_0 r178_1 r178_2 r178_3 r178_4 r178_5 c178 F178
def r185_0 : List Op := [t_ 4 <|.mov (ci 0)]
def r185_1 : List Op := [f_ 6 <|.mov (.g 0),t_ 7 <|.len false (.l 0),t_ 8 <|.mov (ci 0)]
def r185_2 : List Op := [t_ 9 <|.bin .lss (.g 8) (.g 7)]
def r185_3 : List Op := [f_ 10 <|.mov (.g 8),t_ 5 <|.mov (.l 0)]
def r185_4 : List Op := [f_ 11 <|.mov (.g 1),f_ 12 <|.mov (.g 0),f_ 13 <|.mov (.g 5),f_ 14 <|.iad 5 (.l 1) (.l 2),f_ 15 <|.load (.c) (some 5) (.l 3),t_ 16 <|.call (.v (.l 0)) .no none [.l 4]]
def r185_5 : List Op := [f_ 17 <|.mov (.g 5),t_ 4 <|.mov (.l 0)]
def r185_6 : List Op := [f_ 18 <|.bin .add (.g 8) (ci 1),t_ 8 <|.mov (.l 0)]
def b185_0 : C := .seq (.region false r185_2) (.seq (.cond (.g 9) (.skip) (.exit 0)) (.seq (.block 1 (.seq (.region false r185_3) (.seq (.region false r185_4) (.cond (.g 16) (.seq (.region false r185_5) (.ret)) (.skip))))) (.region false r185_6)))
def l185_0 : C := .loop [] [] [] [] b185_0
def r185_7 : List Op := [t_ 4 <|.mov (ci (-1))]
def c185 : C := .seq (.region false r185_0) (.seq (.seq (.region false r185_1) (.block 0 (l185_0))) (.seq (.region false r185_7) (.ret)))
def F185 : F := ⟨2, [0, 1, 4, 5, 7, 8, 9, 16], [.t 4], none, c185⟩
attribute [go_sem] r185_0 r185_1 r185_2 r185_3 r185_4 r185_5 r185_6 b185_0 r185_7 c185 F185
def r186_0 : List Op := [t_ 1 <|.box (.g 0),t_ 2 <|.mov (cb false)]
def r186_1 : List Op := [f_ 3 <|.fad (.g 1) 0,f_ 4 <|.load (.v 1) none (.l 0),f_ 5 <|.bin .neq (.l 1) (.c (.str [])),f_ 6 <|.mov (.l 2),y_ 7 3 <|.fad (.g 1) 0,y_ 8 3 <|.load (.v 1) none (.l 4),y_ 9 3 <|.call (.k 170) .no none [.l 5],y_ 10 3 <|.un .not (.l 6),t_ 11 <|.pick (.l 3) (.l 7) (cb false)]
def r186_2 : List Op := [t_ 2 <|.mov (cb false)]
def r186_3 : List Op := [f_ 12 <|.fad (.g 1) 1,f_ 13 <|.load (.v 1) none (.l 0),f_ 14 <|.bin .eql (.l 1) (.c (.str [])),f_ 15 <|.mov (.l 2),n_ 16 3 <|.fad (.g 1) 1,n_ 17 3 <|.load (.v 1) none (.l 4),n_ 18 3 <|.call (.k 170) .no none [.l 5],n_ 19 3 <|.mov (.l 6),y_ 20 7 <|.fad (.g 1) 0,y_ 21 7 <|.load (.v 1) none (.l 8),y_ 22 7 <|.fad (.g 1) 1,y_ 23 7 <|.load (.v 1) none (.l 10),y_ 24 7 <|.call (.k 192) .no none [.l 9, .l 11],y_ 25 7 <|.bin .lss (.l 12) (ci 0),n_ 26 3 <|.pick (.l 7) (.l 13) (cb false),f_ 27 <|.pick (.l 3) (cb true) (.l 14),t_ 2 <|.mov (.l 15)]
def c186 : C := .seq (.region false r186_0) (.seq (.seq (.region false r186_1) (.cond (.g 11) (.seq (.region false r186_2) (.ret)) (.skip))) (.seq (.region false r186_3) (.ret)))
def F186 : F := ⟨1, [0, 1, 2, 11], [.t 2], none, c186⟩
attribute [go_sem] r186_0 r186_1 r186_2 r186_3 c186 F186
def r187_0 : List Op := [t_ 4 <|.mov (ci 0)]
def r187_1 : List Op := [f_ 8 <|.mov (.g 0),f_ 9 <|.call (.k 195) .no none [.l 0],f_ 10 <|.mov (.g 1),f_ 11 <|.call (.k 195) .no none [.l 2],t_ 5 <|.mov (.l 1),t_ 6 <|.mov (.l 3)]
def r187_2 : List Op := [t_ 7 <|.mov (ci 0)]
def r187_3 : List Op := [f_ 12 <|.mov (.g 7),f_ 13 <|.mov (.g 5),f_ 14 <|.len false (.l 1),f_ 15 <|.bin .lss (.l 0) (.l 2),f_ 16 <|.mov (.l 3),y_ 17 4 <|.mov (.g 7),y_ 18 4 <|.mov (.g 6),y_ 19 4 <|.len false (.l 6),y_ 20 4 <|.bin .lss (.l 5) (.l 7),t_ 21 <|.pick (.l 4) (.l 8) (cb false)]
def r187_4 : List Op := [f_ 24 <|.mov (.g 5),f_ 25 <|.mov (.g 7),f_ 26 <|.iad 1 (.l 0) (.l 1),f_ 27 <|.load (.c) none (.l 2),f_ 28 <|.mov (.g 6),f_ 29 <|.mov (.g 7),f_ 30 <|.iad 1 (.l 4) (.l 5),f_ 31 <|.load (.c) none (.l 6),t_ 32 <|.bin .lss (.l 3) (.l 7)]
def r187_5 : List Op := [t_ 4 <|.mov (ci (-1))]
def r187_6 : List Op := [f_ 33 <|.mov (.g 5),f_ 34 <|.mov (.g 7),f_ 35 <|.iad 1 (.l 0) (.l 1),f_ 36 <|.load (.c) none (.l 2),f_ 37 <|.mov (.g 6),f_ 38 <|.mov (.g 7),f_ 39 <|.iad 1 (.l 4) (.l 5),f_ 40 <|.load (.c) none (.l 6),t_ 41 <|.bin .gtr (.l 3) (.l 7)]
def r187_7 : List Op := [t_ 4 <|.mov (ci 1)]
def r187_8 : List Op := [f_ 22 <|.mov (.g 7),f_ 23 <|.bin .add (.l 0) (ci 1),t_ 7 <|.mov (.l 1)]
def b187_0 : C := .seq (.seq (.region false r187_3) (.cond (.g 21) (.skip) (.exit 0))) (.seq (.block 1 (.seq (.seq (.region true r187_4) (.cond (.g 32) (.seq (.region false r187_5) (.ret)) (.skip))) (.seq (.region true r187_6) (.cond (.g 41) (.seq (.region false r187_7) (.ret)) (.skip))))) (.region false r187_8))
def l187_0 : C := .loop [] [] [] [] b187_0
def r187_9 : List Op := [f_ 42 <|.mov (.g 5),f_ 43 <|.len false (.l 0),f_ 44 <|.mov (.g 6),f_ 45 <|.len false (.l 2),t_ 46 <|.bin .lss (.l 1) (.l 3)]
def r187_10 : List Op := [t_ 4 <|.mov (ci (-1))]
def r187_11 : List Op := [f_ 47 <|.mov (.g 5),f_ 48 <|.len false (.l 0),f_ 49 <|.mov (.g 6),f_ 50 <|.len false (.l 2),t_ 51 <|.bin .gtr (.l 1) (.l 3)]
def r187_12 : List Op := [t_ 4 <|.mov (ci 1)]
def r187_13 : List Op := [t_ 4 <|.mov (ci 0)]
def c187 : C := .seq (.region false r187_0) (.seq (.region false r187_1) (.seq (.seq (.region false r187_2) (.block 0 (l187_0))) (.seq (.seq (.region false r187_9) (.cond (.g 46) (.seq (.region false r187_10) (.ret)) (.skip))) (.seq (.seq (.region false r187_11) (.cond (.g 51) (.seq (.region false r187_12) (.ret)) (.skip))) (.seq (.region false r187_13) (.ret))))))
def F187 : F := ⟨2, [0, 1, 4, 5, 6, 7, 21, 32, 41, 46, 51], [.t 4], none, c187⟩
attribute [go_sem] r187_0 r187_1 r187_2 r187_3 r187_4 r187_5 r187_6 r187_7 r187_8 b187_0 r187_9 r187_10 r187_11 r187_12 r187_13 c187 F187
def r188_0 : List Op := [t_ 2 <|.mov (ci 0),t_ 3 <|.mov (ci 0)]
def r188_1 : List Op := [f_ 8 <|.mov (.g 0),f_ 9 <|.idx (.l 0) (ci 0),f_ 10 <|.conv (.int .i64) (.l 1),t_ 4 <|.mov (.l 2)]
def r188_2 : List Op := [f_ 11 <|.mov (.g 4),t_ 12 <|.bin .lss (.l 0) (ci 128)]
def r188_3 : List Op := [f_ 13 <|.mov (.g 4),t_ 2 <|.mov (.l 0),t_ 3 <|.mov (ci 1)]
def r188_4 : List Op := [t_ 5 <|.mov (ci 0),t_ 6 <|.mov (ci 0)]
def r188_5 : List Op := [f_ 14 <|.mov (.g 4),f_ 15 <|.bin .geq (.l 0) (ci 194),f_ 16 <|.mov (.l 1),y_ 17 2 <|.mov (.g 4),y_ 18 2 <|.bin .lss (.l 3) (ci 224),t_ 19 <|.pick (.l 2) (.l 4) (cb false)]
def r188_6 : List Op := [f_ 20 <|.mov (.g 4),f_ 21 <|.bin .sub (.l 0) (ci 192),t_ 5 <|.mov (ci 2),t_ 6 <|.mov (ci 128),t_ 4 <|.mov (.l 1)]
def r188_7 : List Op := [f_ 22 <|.mov (.g 4),f_ 23 <|.bin .geq (.l 0) (ci 224),f_ 24 <|.mov (.l 1),y_ 25 2 <|.mov (.g 4),y_ 26 2 <|.bin .lss (.l 3) (ci 240),t_ 27 <|.pick (.l 2) (.l 4) (cb false)]
def r188_8 : List Op := [f_ 28 <|.mov (.g 4),f_ 29 <|.bin .sub (.l 0) (ci 224),t_ 5 <|.mov (ci 3),t_ 6 <|.mov (ci 2048),t_ 4 <|.mov (.l 1)]
def r188_9 : List Op := [f_ 30 <|.mov (.g 4),f_ 31 <|.bin .geq (.l 0) (ci 240),f_ 32 <|.mov (.l 1),y_ 33 2 <|.mov (.g 4),y_ 34 2 <|.bin .lss (.l 3) (ci 245),t_ 35 <|.pick (.l 2) (.l 4) (cb false)]
def r188_10 : List Op := [f_ 36 <|.mov (.g 4),f_ 37 <|.bin .sub (.l 0) (ci 240),t_ 5 <|.mov (ci 4),t_ 6 <|.mov (ci 65536),t_ 4 <|.mov (.l 1)]
def r188_11 : List Op := [f_ 38 <|.mov (.g 5),f_ 39 <|.bin .eql (.l 0) (ci 0),f_ 40 <|.mov (.l 1),n_ 41 2 <|.mov (.g 0),n_ 42 2 <|.len true (.l 3),n_ 43 2 <|.mov (.g 5),n_ 44 2 <|.bin .lss (.l 4) (.l 5),t_ 45 <|.pick (.l 2) (cb true) (.l 6)]
def r188_12 : List Op := [t_ 2 <|.mov (ci (-1)),t_ 3 <|.mov (ci 1)]
def r188_13 : List Op := [t_ 7 <|.mov (ci 1)]
def r188_14 : List Op := [f_ 46 <|.mov (.g 7),f_ 47 <|.mov (.g 5),t_ 48 <|.bin .lss (.l 0) (.l 1)]
def r188_15 : List Op := [f_ 51 <|.mov (.g 0),f_ 52 <|.mov (.g 7),f_ 53 <|.idx (.l 0) (.l 1),f_ 54 <|.bin .lss (.l 2) (.c (.int .u8 128)),f_ 55 <|.mov (.l 3),n_ 56 4 <|.mov (.g 0),n_ 57 4 <|.mov (.g 7),n_ 58 4 <|.idx (.l 5) (.l 6),n_ 59 4 <|.bin .gtr (.l 7) (.c (.int .u8 191)),t_ 60 <|.pick (.l 4) (cb true) (.l 8)]
def r188_16 : List Op := [t_ 2 <|.mov (ci (-1)),t_ 3 <|.mov (ci 1)]
def r188_17 : List Op := [f_ 61 <|.mov (.g 4),f_ 62 <|.bin .mul (ci 64) (.l 0),f_ 63 <|.mov (.g 0),f_ 64 <|.mov (.g 7),f_ 65 <|.idx (.l 2) (.l 3),f_ 66 <|.conv (.int .i64) (.l 4),f_ 67 <|.bin .add (.l 1) (.l 5),f_ 68 <|.bin .sub (.l 6) (ci 128),t_ 4 <|.mov (.l 7)]
def r188_18 : List Op := [f_ 49 <|.mov (.g 7),f_ 50 <|.bin .add (.l 0) (ci 1),t_ 7 <|.mov (.l 1)]
def b188_0 : C := .seq (.seq (.region false r188_14) (.cond (.g 48) (.skip) (.exit 0))) (.seq (.block 1 (.seq (.seq (.region false r188_15) (.cond (.g 60) (.seq (.region false r188_16) (.ret)) (.skip))) (.region false r188_17))) (.region false r188_18))
def l188_0 : C := .loop [] [] [] [] b188_0
def r188_19 : List Op := [f_ 69 <|.mov (.g 4),f_ 70 <|.mov (.g 6),f_ 71 <|.bin .lss (.l 0) (.l 1),f_ 72 <|.mov (.l 2),n_ 73 3 <|.mov (.g 4),n_ 74 3 <|.bin .gtr (.l 4) (ci 1114111),f_ 75 <|.pick (.l 3) (cb true) (.l 5),f_ 76 <|.mov (.l 6),n_ 77 7 <|.mov (.g 4),n_ 78 7 <|.bin .geq (.l 8) (ci 55296),n_ 79 7 <|.mov (.l 9),y_ 80 10 <|.mov (.g 4),y_ 81 10 <|.bin .lss (.l 11) (ci 57344),n_ 82 7 <|.pick (.l 10) (.l 12) (cb false),t_ 83 <|.pick (.l 7) (cb true) (.l 13)]
def r188_20 : List Op := [t_ 2 <|.mov (ci (-1)),t_ 3 <|.mov (ci 1)]
def r188_21 : List Op := [f_ 84 <|.mov (.g 4),f_ 85 <|.mov (.g 5),t_ 2 <|.mov (.l 0),t_ 3 <|.mov (.l 1)]
def c188 : C := .seq (.region false r188_0) (.seq (.region false r188_1) (.seq (.seq (.region false r188_2) (.cond (.g 12) (.seq (.region false r188_3) (.ret)) (.skip))) (.seq (.region false r188_4) (.seq (.seq (.region false r188_5) (.cond (.g 19) (.region false r188_6) (.seq (.region false r188_7) (.cond (.g 27) (.region false r188_8) (.seq (.region false r188_9) (.cond (.g 35) (.region false r188_10) (.skip))))))) (.seq (.seq (.region false r188_11) (.cond (.g 45) (.seq (.region false r188_12) (.ret)) (.skip))) (.seq (.seq (.region false r188_13) (.block 0 (l188_0))) (.seq (.seq (.region false r188_19) (.cond (.g 83) (.seq (.region false r188_20) (.ret)) (.skip))) (.seq (.region false r188_21) (.ret)))))))))
def F188 : F := ⟨1, [0, 2, 3, 4, 5, 6, 7, 12, 19, 27, 35, 45, 48, 60, 83], [.t 2, .t 3], none, c188⟩
attribute [go_sem] r188_0 r188_1 r188_2 r188_3 r188_4 r188_5 r188_6 r188_7 r188_8 r188_9 r188_10 r188_11 r188_12 r188_13 r188_14 r188_15 r188_16 r188_17 r188_18 b188_0 r188_19 r188_20 r188_21 c188 F188
def r189_0 : List Op := [t_ 2 <|.mov (cb false)]
def r189_1 : List Op := [f_ 3 <|.mov (.g 0),f_ 4 <|.bin .gtr (.l 0) (ci 32),f_ 5 <|.mov (.l 1),y_ 6 2 <|.mov (.g 0),y_ 7 2 <|.bin .neq (.l 3) (ci 127),f_ 8 <|.pick (.l 2) (.l 4) (cb false),f_ 9 <|.mov (.l 5),y_ 10 6 <|.mov (.g 0),y_ 11 6 <|.bin .lss (.l 7) (ci 128),y_ 12 6 <|.mov (.l 8),n_ 13 9 <|.mov (.g 0),n_ 14 9 <|.bin .gtr (.l 10) (ci 159),y_ 15 6 <|.pick (.l 9) (cb true) (.l 11),f_ 16 <|.pick (.l 6) (.l 12) (cb false),t_ 2 <|.mov (.l 13)]
def c189 : C := .seq (.region false r189_0) (.seq (.region false r189_1) (.ret))
def F189 : F := ⟨1, [0, 2], [.t 2], none, c189⟩
attribute [go_sem] r189_0 r189_1 c189 F189
def r191_0 : List Op := [t_ 4 <|.mov (cb false)]
def r191_1 : List Op := [f_ 5 <|.mov (.g 0),f_ 6 <|.bin .geq (.l 0) (.c (.int .i32 33)),f_ 7 <|.mov (.l 1),y_ 8 2 <|.mov (.g 0),y_ 9 2 <|.bin .lss (.l 3) (.c (.int .i32 127)),y_ 10 2 <|.mov (.l 4),n_ 11 5 <|.mov (.g 0),n_ 12 5 <|.bin .gtr (.l 6) (.c (.int .i32 159)),y_ 13 2 <|.pick (.l 5) (cb true) (.l 7),f_ 14 <|.pick (.l 2) (.l 8) (cb false),f_ 15 <|.mov (.l 9),y_ 16 10 <|.mov (.g 0),y_ 17 10 <|.bin .neq (.l 11) (.c (.int .i32 65533)),y_ 18 10 <|.mov (.l 12),n_ 19 13 <|.mov (.g 1),n_ 20 13 <|.bin .eql (.l 14) (ci 3),y_ 21 10 <|.pick (.l 13) (cb true) (.l 15),f_ 22 <|.pick (.l 10) (.l 16) (cb false),t_ 4 <|.mov (.l 17)]
def c191 : C := .seq (.region false r191_0) (.seq (.region false r191_1) (.ret))
def F191 : F := ⟨2, [0, 1, 4], [.t 4], none, c191⟩
attribute [go_sem] r191_0 r191_1 c191 F191
def r192_0 : List Op := [t_ 4 <|.mov (ci 0)]
def r192_1 : List Op := [f_ 9 <|.mov (.g 0),f_ 10 <|.bin .neq (.l 0) (.c (.str [])),f_ 11 <|.mov (.l 1),y_ 12 2 <|.mov (.g 1),y_ 13 2 <|.bin .neq (.l 3) (.c (.str [])),t_ 14 <|.pick (.l 2) (.l 4) (cb false)]
def r192_2 : List Op := [f_ 16 <|.mov (.g 0),f_ 17 <|.call (.k 190) .no none [.l 0],f_ 15 <|.mov (.l 1),f_ 18 <|.ext (.l 2) 0,f_ 19 <|.ext (.l 2) 1,t_ 5 <|.mov (.l 3),t_ 6 <|.mov (.l 4)]
def r192_3 : List Op := [f_ 21 <|.mov (.g 1),f_ 22 <|.call (.k 190) .no none [.l 0],f_ 20 <|.mov (.l 1),f_ 23 <|.ext (.l 2) 0,f_ 24 <|.ext (.l 2) 1,t_ 7 <|.mov (.l 3),t_ 8 <|.mov (.l 4)]
def r192_4 : List Op := [f_ 26 <|.mov (.g 5),f_ 27 <|.mov (.g 7),f_ 28 <|.bin .lss (.l 0) (.l 1),t_ 25 <|.mov (.l 2)]
def r192_5 : List Op := [t_ 4 <|.mov (ci (-1))]
def r192_6 : List Op := [f_ 30 <|.mov (.g 5),f_ 31 <|.mov (.g 7),f_ 32 <|.bin .gtr (.l 0) (.l 1),t_ 29 <|.mov (.l 2)]
def r192_7 : List Op := [t_ 4 <|.mov (ci 1)]
def r192_8 : List Op := [f_ 33 <|.mov (.g 0),f_ 34 <|.mov (.g 6),f_ 35 <|.sl true 0 (.l 0) (some (.l 1)) none,f_ 36 <|.mov (.g 1),f_ 37 <|.mov (.g 8),f_ 38 <|.sl true 0 (.l 3) (some (.l 4)) none,t_ 0 <|.mov (.l 2),t_ 1 <|.mov (.l 5)]
def b192_0 : C := .seq (.seq (.region false r192_1) (.cond (.g 14) (.skip) (.exit 0))) (.block 1 (.seq (.region false r192_2) (.seq (.region false r192_3) (.seq (.block 2 (.seq (.region false r192_4) (.cond (.g 25) (.seq (.region false r192_5) (.ret)) (.seq (.region false r192_6) (.cond (.g 29) (.seq (.region false r192_7) (.ret)) (.skip)))))) (.region true r192_8)))))
def l192_0 : C := .loop [] [] [] [] b192_0
def r192_9 : List Op := [f_ 40 <|.mov (.g 0),f_ 41 <|.bin .neq (.l 0) (.c (.str [])),t_ 39 <|.mov (.l 1)]
def r192_10 : List Op := [t_ 4 <|.mov (ci 1)]
def r192_11 : List Op := [f_ 43 <|.mov (.g 1),f_ 44 <|.bin .neq (.l 0) (.c (.str [])),t_ 42 <|.mov (.l 1)]
def r192_12 : List Op := [t_ 4 <|.mov (ci (-1))]
def r192_13 : List Op := [t_ 4 <|.mov (ci 0)]
def c192 : C := .seq (.region false r192_0) (.seq (.block 0 (l192_0)) (.seq (.block 3 (.seq (.region false r192_9) (.cond (.g 39) (.seq (.region false r192_10) (.ret)) (.seq (.region false r192_11) (.cond (.g 42) (.seq (.region false r192_12) (.ret)) (.skip)))))) (.seq (.region false r192_13) (.ret))))
def F192 : F := ⟨2, [0, 1, 4, 5, 6, 7, 8, 14, 25, 29, 39, 42], [.t 4], none, c192⟩
attribute [go_sem] r192_0 r192_1 r192_2 r192_3 r192_4 r192_5 r192_6 r192_7 r192_8 b192_0 r192_9 r192_10 r192_11 r192_12 r192_13 c192 F192
def r193_0 : List Op := [t_ 4 <|.mov (cb false)]
def r193_1 : List Op := [f_ 5 <|.mov (.g 1),f_ 6 <|.bin .eql (.l 0) (.c (.str [])),f_ 7 <|.mov (.l 1),n_ 8 2 <|.mov (.g 0),n_ 9 2 <|.mov (.g 1),n_ 10 2 <|.call (.k 192) .no none [.l 3, .l 4],n_ 11 2 <|.bin .lss (.l 5) (ci 0),f_ 12 <|.pick (.l 2) (cb true) (.l 6),t_ 4 <|.mov (.l 7)]
def c193 : C := .seq (.region false r193_0) (.seq (.region false r193_1) (.ret))
def F193 : F := ⟨2, [0, 1, 4], [.t 4], none, c193⟩
attribute [go_sem] r193_0 r193_1 c193 F193
def r194_0 : List Op := [t_ 2 <|.box (.g 0),t_ 3 <|.mov (cb false)]
def r194_1 : List Op := [f_ 4 <|.fad (.g 2) 2,f_ 5 <|.load (.v 2) none (.l 0),f_ 6 <|.load (.c) none (.g 1),f_ 7 <|.bin .eql (.l 1) (.l 2),t_ 3 <|.mov (.l 3)]
def c194 : C := .seq (.region false r194_0) (.seq (.region false r194_1) (.ret))
def F194 : F := ⟨2, [0, 1, 2, 3], [.t 3], none, c194⟩
attribute [go_sem] r194_0 r194_1 c194 F194
def r195_0 : List Op := [t_ 2 <|.mov (.c (.slice 1 []))]
def r195_1 : List Op := [t_ 3 <|.mko 1]
def r195_2 : List Op := [f_ 6 <|.mov (.g 0),f_ 7 <|.len true (.l 0),t_ 8 <|.bin .gtr (.l 1) (ci 0)]
def r195_3 : List Op := [f_ 10 <|.mov (.g 0),f_ 11 <|.call (.k 188) .no none [.l 0],f_ 9 <|.mov (.l 1),f_ 12 <|.ext (.l 2) 0,f_ 13 <|.ext (.l 2) 1,t_ 4 <|.mov (.l 3),t_ 5 <|.mov (.l 4)]
def r195_4 : List Op := [f_ 14 <|.mov (.g 4),t_ 15 <|.bin .lss (.l 0) (ci 0)]
def r195_5 : List Op := [t_ 4 <|.mov (ci 65533)]
def r195_6 : List Op := [f_ 16 <|.mov (.g 3),f_ 17 <|.mov (.g 4),f_ 18 <|.mks 1 1 [.int .i64 0] [(0, .l 1)],f_ 19 <|.app 3 1 (.l 0) (.l 2),t_ 3 <|.mov (.l 3)]
def r195_7 : List Op := [f_ 20 <|.mov (.g 0),f_ 21 <|.mov (.g 5),f_ 22 <|.sl true 0 (.l 0) (some (.l 1)) none,t_ 0 <|.mov (.l 2)]
def b195_0 : C := .seq (.seq (.region false r195_2) (.cond (.g 8) (.skip) (.exit 0))) (.block 1 (.seq (.region false r195_3) (.seq (.seq (.region false r195_4) (.cond (.g 15) (.region false r195_5) (.skip))) (.seq (.region false r195_6) (.region false r195_7)))))
def l195_0 : C := .loop [] [] [] [] b195_0
def r195_8 : List Op := [f_ 23 <|.mov (.g 3),t_ 2 <|.mov (.l 0)]
def c195 : C := .seq (.region false r195_0) (.seq (.region false r195_1) (.seq (.block 0 (l195_0)) (.seq (.region false r195_8) (.ret))))
def F195 : F := ⟨1, [0, 2, 3, 4, 5, 8, 15], [.t 2], none, c195⟩
attribute [go_sem] r195_0 r195_1 r195_2 r195_3 r195_4 r195_5 r195_6 r195_7 b195_0 r195_8 c195 F195
end Sg
namespace Sg
open _root_.Go (IntKind BinOp UnOp)
def r15_0 : List Op := [t_ 2 <|.box (.g 0),t_ 3 <|.box (.g 1),t_ 4 <|.mov (ci 0)]
def r15_1 : List Op := [f_ 5 <|.fad (.g 2) 0,f_ 6 <|.load (.v 2) none (.l 0),f_ 7 <|.fad (.g 3) 0,f_ 8 <|.load (.v 3) none (.l 2),f_ 9 <|.call (.k 26) .no none [.l 1, .l 3],f_ 10 <|.fad (.g 2) 1,f_ 11 <|.load (.v 2) none (.l 5),f_ 12 <|.fad (.g 3) 1,f_ 13 <|.load (.v 3) none (.l 7),f_ 14 <|.call (.k 26) .no none [.l 6, .l 8],f_ 15 <|.fad (.g 2) 2,f_ 16 <|.load (.v 2) none (.l 10),f_ 17 <|.fad (.g 3) 2,f_ 18 <|.load (.v 3) none (.l 12),f_ 19 <|.call (.k 26) .no none [.l 11, .l 13],f_ 20 <|.mks 1 3 [.int .i64 0] [(0, .l 4), (1, .l 9), (2, .l 14)],f_ 21 <|.call (.k 27) .no none [.l 15],t_ 4 <|.mov (.l 16)]
def c15 : C := .seq (.region false r15_0) (.seq (.region true r15_1) (.ret))
def F15 : F := ⟨2, [0, 1, 2, 3, 4], [.t 4], none, c15⟩
attribute [go_sem] r15_0 r15_1 c15 F15
def r21_0 : List Op := [t_ 2 <|.box (.g 0),t_ 3 <|.box (.g 1),t_ 4 <|.alloc [.int .i64 0, .int .i64 0, .int .i64 0]]
def r21_1 : List Op := [f_ 5 <|.load (.v 2) (some 3) (.g 2),f_ 6 <|.load (.v 3) (some 3) (.g 3),f_ 7 <|.call (.k 15) .no none [.l 0, .l 1],t_ 8 <|.bin .lss (.l 2) (ci 0)]
def r21_2 : List Op := [f_ 9 <|.load (.v 3) (some 3) (.g 3),u_ <|.store (.v 4) 3 (.g 4) (.l 0)]
def r21_3 : List Op := [f_ 10 <|.load (.v 2) (some 3) (.g 2),u_ <|.store (.v 4) 3 (.g 4) (.l 0)]
def c21 : C := .seq (.region false r21_0) (.seq (.seq (.region false r21_1) (.cond (.g 8) (.seq (.region false r21_2) (.ret)) (.skip))) (.seq (.region false r21_3) (.ret)))
def F21 : F := ⟨2, [0, 1, 2, 3, 4, 8], [.cell 4 (some 3)], none, c21⟩
attribute [go_sem] r21_0 r21_1 r21_2 r21_3 c21 F21
def r26_0 : List Op := [t_ 4 <|.mov (ci 0)]
def r26_1 : List Op := [f_ 7 <|.mov (.g 0),f_ 8 <|.call (.k 31) .no none [.l 0],t_ 5 <|.mov (.l 1)]
def r26_2 : List Op := [f_ 9 <|.mov (.g 1),f_ 10 <|.call (.k 31) .no none [.l 0],t_ 6 <|.mov (.l 1)]
def r26_3 : List Op := [t_ 11 <|.mov (.g 5)]
def r26_4 : List Op := [t_ 12 <|.mov (.g 6)]
def r26_5 : List Op := [t_ 4 <|.mov (ci 0)]
def r26_6 : List Op := [t_ 4 <|.mov (ci (-1))]
def r26_7 : List Op := [t_ 13 <|.mov (.g 6)]
def r26_8 : List Op := [t_ 4 <|.mov (ci 1)]
def r26_9 : List Op := [f_ 14 <|.mov (.g 0),f_ 15 <|.mov (.g 1),t_ 16 <|.bin .lss (.l 0) (.l 1)]
def r26_10 : List Op := [t_ 4 <|.mov (ci (-1))]
def r26_11 : List Op := [f_ 17 <|.mov (.g 0),f_ 18 <|.mov (.g 1),t_ 19 <|.bin .gtr (.l 0) (.l 1)]
def r26_12 : List Op := [t_ 4 <|.mov (ci 1)]
def r26_13 : List Op := [t_ 4 <|.mov (ci 0)]
def c26 : C := .seq (.region false r26_0) (.seq (.region false r26_1) (.seq (.region false r26_2) (.seq (.seq (.region false r26_3) (.cond (.g 11) (.seq (.seq (.region false r26_4) (.cond (.g 12) (.seq (.region false r26_5) (.ret)) (.skip))) (.seq (.region false r26_6) (.ret))) (.skip))) (.seq (.seq (.region false r26_7) (.cond (.g 13) (.seq (.region false r26_8) (.ret)) (.skip))) (.seq (.seq (.region false r26_9) (.cond (.g 16) (.seq (.region false r26_10) (.ret)) (.skip))) (.seq (.seq (.region false r26_11) (.cond (.g 19) (.seq (.region false r26_12) (.ret)) (.skip))) (.seq (.region false r26_13) (.ret))))))))
def F26 : F := ⟨2, [0, 1, 4, 5, 6, 11, 12, 13, 16, 19], [.t 4], none, c26⟩
attribute [go_sem] r26_0 r26_1 r26_2 r26_3 r26_4 r26_5 r26_6 r26_7 r26_8 r26_9 r26_10 r26_11 r26_12 r26_13 c26 F26
def r27_0 : List Op := [t_ 2 <|.mov (ci 0)]
def r27_1 : List Op := [t_ 3 <|.mov (ci 0)]
def r27_2 : List Op := [t_ 6 <|.mov (.g 0),t_ 7 <|.len false (.l 0),t_ 8 <|.mov (ci 0)]
def r27_3 : List Op := [t_ 9 <|.bin .lss (.g 8) (.g 7)]
def r27_4 : List Op := [f_ 10 <|.iad 1 (.g 6) (.g 8),f_ 11 <|.load (.c) none (.l 0),t_ 5 <|.mov (.l 1)]
def r27_5 : List Op := [f_ 12 <|.mov (.g 5),f_ 13 <|.mov (.g 3),t_ 14 <|.bin .neq (.l 0) (.l 1)]
def r27_6 : List Op := [f_ 15 <|.mov (.g 5),t_ 2 <|.mov (.l 0)]
def r27_7 : List Op := [f_ 16 <|.bin .add (.g 8) (ci 1),t_ 8 <|.mov (.l 0)]
def b27_0 : C := .seq (.region false r27_3) (.seq (.cond (.g 9) (.skip) (.exit 0)) (.seq (.block 1 (.seq (.region false r27_4) (.seq (.region false r27_5) (.cond (.g 14) (.seq (.region false r27_6) (.ret)) (.skip))))) (.region false r27_7)))
def l27_0 : C := .loop [] [] [] [] b27_0
def r27_8 : List Op := [f_ 17 <|.mov (.g 3),t_ 2 <|.mov (.l 0)]
def c27 : C := .seq (.region false r27_0) (.seq (.region false r27_1) (.seq (.seq (.region false r27_2) (.block 0 (l27_0))) (.seq (.region false r27_8) (.ret))))
def F27 : F := ⟨1, [0, 2, 3, 5, 6, 7, 8, 9, 14], [.t 2], none, c27⟩
attribute [go_sem] r27_0 r27_1 r27_2 r27_3 r27_4 r27_5 r27_6 r27_7 b27_0 r27_8 c27 F27
def r28_0 : List Op := [t_ 1 <|.box (.g 0),t_ 2 <|.mov (cb false)]
def r28_1 : List Op := [f_ 3 <|.fad (.g 1) 0,f_ 4 <|.load (.v 1) none (.l 0),f_ 5 <|.call (.k 32) .no none [.l 1, .c (.int .i64 1099511627776)],f_ 6 <|.mov (.l 2),y_ 7 3 <|.fad (.g 1) 1,y_ 8 3 <|.load (.v 1) none (.l 4),y_ 9 3 <|.call (.k 32) .no none [.l 5, .c (.int .i64 1048576)],f_ 10 <|.pick (.l 3) (.l 6) (cb false),f_ 11 <|.mov (.l 7),y_ 12 8 <|.fad (.g 1) 2,y_ 13 8 <|.load (.v 1) none (.l 9),y_ 14 8 <|.call (.k 32) .no none [.l 10, .c (.int .i64 255)],f_ 15 <|.pick (.l 8) (.l 11) (cb false),t_ 2 <|.mov (.l 12)]
def c28 : C := .seq (.region false r28_0) (.seq (.region false r28_1) (.ret))
def F28 : F := ⟨1, [0, 1, 2], [.t 2], none, c28⟩
attribute [go_sem] r28_0 r28_1 c28 F28
def r31_0 : List Op := [t_ 2 <|.mov (cb false)]
def r31_1 : List Op := [f_ 3 <|.mov (.g 0),f_ 4 <|.mov (.g 0),f_ 5 <|.bin .neq (.l 0) (.l 1),t_ 2 <|.mov (.l 2)]
def c31 : C := .seq (.region false r31_0) (.seq (.region false r31_1) (.ret))
def F31 : F := ⟨1, [0, 2], [.t 2], none, c31⟩
attribute [go_sem] r31_0 r31_1 c31 F31
def r32_0 : List Op := [t_ 4 <|.mov (cb false)]
def r32_1 : List Op := [f_ 5 <|.mov (.g 0),f_ 6 <|.bin .geq (.l 0) (ci 0),f_ 7 <|.mov (.l 1),y_ 8 2 <|.mov (.g 0),y_ 9 2 <|.mov (.g 1),y_ 10 2 <|.bin .leq (.l 3) (.l 4),f_ 11 <|.pick (.l 2) (.l 5) (cb false),t_ 4 <|.mov (.l 6)]
def c32 : C := .seq (.region false r32_0) (.seq (.region false r32_1) (.ret))
def F32 : F := ⟨2, [0, 1, 4], [.t 4], none, c32⟩
attribute [go_sem] r32_0 r32_1 c32 F32
end Sg
namespace Sg
open _root_.Go (IntKind BinOp UnOp)
end Sg
namespace Sg
open _root_.Go (IntKind BinOp UnOp)
def r65_0 : List Op := [t_ 4 <|.mov (cb false)]
def r65_1 : List Op := [f_ 5 <|.mov (.g 0),f_ 6 <|.mov (.g 1),f_ 7 <|.call (.k 75) .no none [.l 0, .l 1],f_ 8 <|.bin .geq (.l 2) (ci 0),t_ 4 <|.mov (.l 3)]
def c65 : C := .seq (.region false r65_0) (.seq (.region false r65_1) (.ret))
def F65 : F := ⟨2, [0, 1, 4], [.t 4], none, c65⟩
attribute [go_sem] r65_0 r65_1 c65 F65
def r67_0 : List Op := [t_ 4 <|.mov (cb false)]
def r67_1 : List Op := [f_ 5 <|.mov (.g 0),f_ 6 <|.mov (.g 1),f_ 7 <|.call (.k 76) .no none [.l 0, .l 1],f_ 8 <|.bin .geq (.l 2) (ci 0),t_ 4 <|.mov (.l 3)]
def c67 : C := .seq (.region false r67_0) (.seq (.region false r67_1) (.ret))
def F67 : F := ⟨2, [0, 1, 4], [.t 4], none, c67⟩
attribute [go_sem] r67_0 r67_1 c67 F67
def r75_0 : List Op := [t_ 4 <|.mov (ci 0)]
def r75_1 : List Op := [f_ 6 <|.mov (.g 0),t_ 7 <|.len false (.l 0),t_ 8 <|.mov (ci 0)]
def r75_2 : List Op := [t_ 9 <|.bin .lss (.g 8) (.g 7)]
def r75_3 : List Op := [f_ 10 <|.mov (.g 8),t_ 5 <|.mov (.l 0)]
def r75_4 : List Op := [f_ 11 <|.mov (.g 1),f_ 12 <|.mov (.g 0),f_ 13 <|.mov (.g 5),f_ 14 <|.iad 1 (.l 1) (.l 2),f_ 15 <|.load (.c) none (.l 3),t_ 16 <|.bin .eql (.l 0) (.l 4)]
def r75_5 : List Op := [f_ 17 <|.mov (.g 5),t_ 4 <|.mov (.l 0)]
def r75_6 : List Op := [f_ 18 <|.bin .add (.g 8) (ci 1),t_ 8 <|.mov (.l 0)]
def b75_0 : C := .seq (.region false r75_2) (.seq (.cond (.g 9) (.skip) (.exit 0)) (.seq (.block 1 (.seq (.region false r75_3) (.seq (.region false r75_4) (.cond (.g 16) (.seq (.region false r75_5) (.ret)) (.skip))))) (.region false r75_6)))
def l75_0 : C := .loop [] [] [] [] b75_0
def r75_7 : List Op := [t_ 4 <|.mov (ci (-1))]
def c75 : C := .seq (.region false r75_0) (.seq (.seq (.region false r75_1) (.block 0 (l75_0))) (.seq (.region false r75_7) (.ret)))
def F75 : F := ⟨2, [0, 1, 4, 5, 7, 8, 9, 16], [.t 4], none, c75⟩
attribute [go_sem] r75_0 r75_1 r75_2 r75_3 r75_4 r75_5 r75_6 b75_0 r75_7 c75 F75
def r76_0 : List Op := [t_ 4 <|.mov (ci 0)]
def r76_1 : List Op := [f_ 6 <|.mov (.g 0),t_ 7 <|.len false (.l 0),t_ 8 <|.mov (ci 0)]
def r76_2 : List Op := [t_ 9 <|.bin .lss (.g 8) (.g 7)]
def r76_3 : List Op := [f_ 10 <|.mov (.g 8),t_ 5 <|.mov (.l 0)]
def r76_4 : List Op := [f_ 11 <|.mov (.g 1),f_ 12 <|.mov (.g 0),f_ 13 <|.mov (.g 5),f_ 14 <|.iad 1 (.l 1) (.l 2),f_ 15 <|.load (.c) none (.l 3),t_ 16 <|.call (.v (.l 0)) .no none [.l 4]]
def r76_5 : List Op := [f_ 17 <|.mov (.g 5),t_ 4 <|.mov (.l 0)]
def r76_6 : List Op := [f_ 18 <|.bin .add (.g 8) (ci 1),t_ 8 <|.mov (.l 0)]
def b76_0 : C := .seq (.region false r76_2) (.seq (.cond (.g 9) (.skip) (.exit 0)) (.seq (.block 1 (.seq (.region false r76_3) (.seq (.region false r76_4) (.cond (.g 16) (.seq (.region false r76_5) (.ret)) (.skip))))) (.region false r76_6)))
def l76_0 : C := .loop [] [] [] [] b76_0
def r76_7 : List Op := [t_ 4 <|.mov (ci (-1))]
def c76 : C := .seq (.region false r76_0) (.seq (.seq (.region false r76_1) (.block 0 (l76_0))) (.seq (.region false r76_7) (.ret)))
def F76 : F := ⟨2, [0, 1, 4, 5, 7, 8, 9, 16], [.t 4], none, c76⟩
attribute [go_sem] r76_0 r76_1 r76_2 r76_3 r76_4 r76_5 r76_6 b76_0 r76_7 c76 F76
end Sg
namespace Sg
open _root_.Go (IntKind BinOp UnOp)
end Sg
namespace Sg
open _root_.Go (IntKind BinOp UnOp)
end Sg
namespace Sg
open _root_.Go (IntKind BinOp UnOp)
def r109_0 : List Op := [t_ 3 <|.box (.g 0),t_ 6 <|.alloc [.int .i64 0, .int .i64 0, .int .i64 0]]
def r109_1 : List Op := [f_ 10 <|.mov (.g 2),f_ 11 <|.call (.k 126) .no none [.l 0],f_ 12 <|.un .not (.l 1),f_ 13 <|.mov (.l 2),n_ 14 3 <|.mov (.g 1),n_ 15 3 <|.len false (.l 4),n_ 16 3 <|.bin .eql (.l 5) (ci 0),f_ 17 <|.pick (.l 3) (cb true) (.l 6),f_ 18 <|.mov (.l 7),n_ 19 8 <|.load (.v 3) (some 3) (.g 3),n_ 20 8 <|.call (.k 28) .no none [.l 9],n_ 21 8 <|.un .not (.l 10),f_ 22 <|.pick (.l 8) (cb true) (.l 11),f_ 23 <|.mov (.l 12),n_ 24 13 <|.mov (.g 1),n_ 25 13 <|.call (.k 128) .no none [.l 14, .f 129],t_ 26 <|.pick (.l 13) (cb true) (.l 15)]
def r109_2 : List Op := [f_ 27 <|.load (.v 3) (some 3) (.g 3),u_ <|.store (.v 6) 3 (.g 6) (.l 0)]
def r109_3 : List Op := [f_ 28 <|.mov (.g 1),f_ 29 <|.call (.k 130) .no none [.l 0, .f 15],t_ 7 <|.alloc [.int .i64 0, .int .i64 0, .int .i64 0],u_ <|.store (.v 7) 3 (.l 2) (.l 1)]
def r109_4 : List Op := [f_ 31 <|.mov (.g 2),f_ 32 <|.call (.k 113) .no none [.l 0],f_ 30 <|.mov (.l 1),f_ 33 <|.ext (.l 2) 0,f_ 34 <|.ext (.l 2) 1,t_ 8 <|.alloc [.int .i64 0, .int .i64 0, .int .i64 0],u_ <|.store (.v 8) 3 (.l 5) (.l 3),t_ 9 <|.mov (.l 4)]
def r109_5 : List Op := [t_ 35 <|.mov (.g 9)]
def r109_6 : List Op := [f_ 36 <|.load (.v 7) (some 3) (.g 7),f_ 37 <|.load (.v 8) (some 3) (.g 8),f_ 38 <|.call (.k 131) .no none [.l 0, .l 1],u_ <|.store (.v 7) 3 (.g 7) (.l 2)]
def r109_7 : List Op := [f_ 39 <|.load (.v 3) (some 3) (.g 3),f_ 40 <|.load (.v 7) (some 3) (.g 7),f_ 41 <|.call (.k 21) .no none [.l 0, .l 1],u_ <|.store (.v 6) 3 (.g 6) (.l 2)]
def c109 : C := .seq (.region false r109_0) (.seq (.seq (.region false r109_1) (.cond (.g 26) (.seq (.region false r109_2) (.ret)) (.skip))) (.seq (.region false r109_3) (.seq (.seq (.region false r109_4) (.seq (.region false r109_5) (.cond (.g 35) (.region false r109_6) (.skip)))) (.seq (.region false r109_7) (.ret)))))
def F109 : F := ⟨3, [0, 1, 2, 3, 6, 7, 8, 9, 26, 35], [.cell 6 (some 3)], none, c109⟩
attribute [go_sem] r109_0 r109_1 r109_2 r109_3 r109_4 r109_5 r109_6 r109_7 c109 F109
def r112_0 : List Op := [t_ 2 <|.mov (.c (.slice 5 []))]
def r112_1 : List Op := [f_ 6 <|.mov (.g 0),f_ 7 <|.call (.k 126) .no none [.l 0],t_ 8 <|.un .not (.l 1)]
def r112_2 : List Op := [t_ 2 <|.mov (.c (.slice 5 []))]
def r112_3 : List Op := [t_ 3 <|.mko 5]
def r112_4 : List Op := [t_ 9 <|.mov (.g 0),t_ 10 <|.len false (.l 0),t_ 11 <|.mov (ci 0)]
def r112_5 : List Op := [t_ 12 <|.bin .lss (.g 11) (.g 10)]
def r112_6 : List Op := [f_ 13 <|.iad 5 (.g 9) (.g 11),f_ 14 <|.load (.c) (some 5) (.l 0),t_ 5 <|.alloc [.int .i64 0, .int .i64 0, .int .i64 0, .int .i64 0, .int .i64 0],u_ <|.store (.v 5) 5 (.l 2) (.l 1)]
def r112_7 : List Op := [f_ 15 <|.fad (.g 5) 1,f_ 16 <|.load (.v 5) none (.l 0),f_ 17 <|.bin .sub (.l 1) (ci 1),f_ 18 <|.fad (.g 5) 1,u_ <|.store (.v 5) 1 (.l 3) (.l 2)]
def r112_8 : List Op := [f_ 19 <|.fad (.g 5) 1,f_ 20 <|.load (.v 5) none (.l 0),t_ 21 <|.bin .gtr (.l 1) (ci 0)]
def r112_9 : List Op := [f_ 22 <|.mov (.g 3),f_ 23 <|.load (.v 5) (some 5) (.g 5),f_ 24 <|.mks 5 1 [.int .i64 0, .int .i64 0, .int .i64 0, .int .i64 0, .int .i64 0] [(0, .l 1)],f_ 25 <|.app 3 5 (.l 0) (.l 2),t_ 3 <|.mov (.l 3)]
def r112_10 : List Op := [f_ 26 <|.bin .add (.g 11) (ci 1),t_ 11 <|.mov (.l 0)]
def b112_0 : C := .seq (.region false r112_5) (.seq (.cond (.g 12) (.skip) (.exit 0)) (.seq (.block 1 (.seq (.region false r112_6) (.seq (.region false r112_7) (.seq (.region false r112_8) (.cond (.g 21) (.region false r112_9) (.skip)))))) (.region false r112_10)))
def l112_0 : C := .loop [] [] [5] [] b112_0
def r112_11 : List Op := [f_ 27 <|.mov (.g 3),t_ 2 <|.mov (.l 0)]
def c112 : C := .seq (.region false r112_0) (.seq (.seq (.region false r112_1) (.cond (.g 8) (.seq (.region false r112_2) (.ret)) (.skip))) (.seq (.region false r112_3) (.seq (.seq (.region false r112_4) (.block 0 (l112_0))) (.seq (.region false r112_11) (.ret)))))
def F112 : F := ⟨1, [0, 2, 3, 5, 8, 9, 10, 11, 12, 21], [.t 2], none, c112⟩
attribute [go_sem] r112_0 r112_1 r112_2 r112_3 r112_4 r112_5 r112_6 r112_7 r112_8 r112_9 r112_10 b112_0 r112_11 c112 F112
def r113_0 : List Op := [t_ 2 <|.alloc [.int .i64 0, .int .i64 0, .int .i64 0],t_ 3 <|.mov (cb false)]
def r113_1 : List Op := [f_ 7 <|.mov (.g 0),f_ 8 <|.call (.k 126) .no none [.l 0],f_ 9 <|.un .not (.l 1),f_ 10 <|.mov (.l 2),n_ 11 3 <|.mov (.g 0),n_ 12 3 <|.len false (.l 4),n_ 13 3 <|.bin .eql (.l 5) (ci 0),t_ 14 <|.pick (.l 3) (cb true) (.l 6)]
def r113_2 : List Op := [f_ 15 <|.build [.int .i64 0, .int .i64 0, .int .i64 0] [],u_ <|.store (.v 2) 3 (.g 2) (.l 0),t_ 3 <|.mov (cb false)]
def r113_3 : List Op := [f_ 16 <|.mov (.g 0),f_ 17 <|.iad 5 (.l 0) (ci 0),f_ 18 <|.fad (.l 1) 2,f_ 19 <|.load (.c) (some 3) (.l 2),t_ 4 <|.alloc [.int .i64 0, .int .i64 0, .int .i64 0],u_ <|.store (.v 4) 3 (.l 4) (.l 3)]
def r113_4 : List Op := [t_ 20 <|.mov (.g 0),t_ 21 <|.len false (.l 0),t_ 22 <|.mov (ci 0)]
def r113_5 : List Op := [t_ 23 <|.bin .lss (.g 22) (.g 21)]
def r113_6 : List Op := [f_ 24 <|.iad 5 (.g 20) (.g 22),f_ 25 <|.load (.c) (some 5) (.l 0),t_ 6 <|.alloc [.int .i64 0, .int .i64 0, .int .i64 0, .int .i64 0, .int .i64 0],u_ <|.store (.v 6) 5 (.l 2) (.l 1)]
def r113_7 : List Op := [f_ 26 <|.load (.v 4) (some 3) (.g 4),f_ 27 <|.fad (.g 6) 2,f_ 28 <|.load (.v 6) (some 3) (.l 1),f_ 29 <|.call (.k 131) .no none [.l 0, .l 2],u_ <|.store (.v 4) 3 (.g 4) (.l 3)]
def r113_8 : List Op := [f_ 30 <|.bin .add (.g 22) (ci 1),t_ 22 <|.mov (.l 0)]
def b113_0 : C := .seq (.region false r113_5) (.seq (.cond (.g 23) (.skip) (.exit 0)) (.seq (.block 1 (.seq (.region false r113_6) (.region false r113_7))) (.region false r113_8)))
def l113_0 : C := .loop [] [] [6] [] b113_0
def r113_9 : List Op := [f_ 31 <|.load (.v 4) (some 3) (.g 4),u_ <|.store (.v 2) 3 (.g 2) (.l 0),t_ 3 <|.mov (cb true)]
def c113 : C := .seq (.region false r113_0) (.seq (.seq (.region false r113_1) (.cond (.g 14) (.seq (.region false r113_2) (.ret)) (.skip))) (.seq (.region false r113_3) (.seq (.seq (.region false r113_4) (.block 0 (l113_0))) (.seq (.region false r113_9) (.ret)))))
def F113 : F := ⟨1, [0, 2, 3, 4, 6, 14, 20, 21, 22, 23], [.cell 2 (some 3), .t 3], none, c113⟩
attribute [go_sem] r113_0 r113_1 r113_2 r113_3 r113_4 r113_5 r113_6 r113_7 r113_8 b113_0 r113_9 c113 F113
def r120_0 : List Op := [t_ 5 <|.box (.g 2),t_ 6 <|.mov (.c (.slice 5 [])),t_ 7 <|.mov (ci 0)]
def r120_1 : List Op := [f_ 11 <|.mov (.g 1),f_ 12 <|.load (.v 5) (some 3) (.g 5),f_ 13 <|.build [.int .i64 0, .int .i64 0, .int .i64 0, .int .i64 0, .int .i64 0] [(0, 1, .l 0), (1, 1, .c (.int .i64 20)), (2, 3, .l 1)],t_ 8 <|.alloc [.int .i64 0, .int .i64 0, .int .i64 0, .int .i64 0, .int .i64 0],u_ <|.store (.v 8) 5 (.l 3) (.l 2)]
def r120_2 : List Op := [f_ 14 <|.mov (.g 0),f_ 15 <|.call (.k 126) .no none [.l 0],f_ 16 <|.un .not (.l 1),f_ 17 <|.mov (.l 2),n_ 18 3 <|.load (.v 8) (some 5) (.g 8),n_ 19 3 <|.mks 5 1 [.int .i64 0, .int .i64 0, .int .i64 0, .int .i64 0, .int .i64 0] [(0, .l 4)],n_ 20 3 <|.call (.k 126) .no none [.l 5],n_ 21 3 <|.un .not (.l 6),t_ 22 <|.pick (.l 3) (cb true) (.l 7)]
def r120_3 : List Op := [t_ 6 <|.mov (.c (.slice 5 [])),t_ 7 <|.mov (ci 1)]
def r120_4 : List Op := [f_ 24 <|.mov (.g 0),f_ 25 <|.mov (.g 1),f_ 26 <|.call (.k 133) .no none [.l 0, .l 1],f_ 23 <|.mov (.l 2),f_ 27 <|.ext (.l 3) 0,f_ 28 <|.ext (.l 3) 1,t_ 9 <|.mov (.l 4),t_ 10 <|.mov (.l 5)]
def r120_5 : List Op := [f_ 30 <|.mov (.g 10),t_ 29 <|.mov (.l 0)]
def r120_6 : List Op := [t_ 6 <|.mov (.c (.slice 5 [])),t_ 7 <|.mov (ci 8)]
def r120_7 : List Op := [f_ 32 <|.mov (.g 0),f_ 33 <|.len false (.l 0),f_ 34 <|.bin .eql (.l 1) (ci 4),t_ 31 <|.mov (.l 2)]
def r120_8 : List Op := [t_ 6 <|.mov (.c (.slice 5 [])),t_ 7 <|.mov (ci 6)]
def r120_9 : List Op := [f_ 35 <|.mov (.g 0),f_ 36 <|.call (.k 134) .no (some 0) [.l 0],f_ 37 <|.mov (.g 9),f_ 38 <|.load (.v 8) (some 5) (.g 8),f_ 39 <|.mks 5 1 [.int .i64 0, .int .i64 0, .int .i64 0, .int .i64 0, .int .i64 0] [(0, .l 3)],f_ 40 <|.ins 135 36 5 (.l 1) (.l 2) (.l 4),t_ 6 <|.mov (.l 5),t_ 7 <|.mov (ci 0)]
def c120 : C := .seq (.region false r120_0) (.seq (.region false r120_1) (.seq (.seq (.region false r120_2) (.cond (.g 22) (.seq (.region false r120_3) (.ret)) (.skip))) (.seq (.region false r120_4) (.seq (.block 0 (.seq (.region false r120_5) (.cond (.g 29) (.seq (.region false r120_6) (.ret)) (.seq (.region false r120_7) (.cond (.g 31) (.seq (.region false r120_8) (.ret)) (.skip)))))) (.seq (.region true r120_9) (.ret))))))
def F120 : F := ⟨3, [0, 1, 2, 5, 6, 7, 8, 9, 10, 22, 29, 31], [.t 6, .t 7], none, c120⟩
attribute [go_sem] r120_0 r120_1 r120_2 r120_3 r120_4 r120_5 r120_6 r120_7 r120_8 r120_9 c120 F120
def r121_0 : List Op := [t_ 4 <|.mov (.c (.slice 5 [])),t_ 5 <|.mov (ci 0)]
def r121_1 : List Op := [f_ 8 <|.mov (.g 0),f_ 9 <|.call (.k 126) .no none [.l 0],t_ 10 <|.un .not (.l 1)]
def r121_2 : List Op := [t_ 4 <|.mov (.c (.slice 5 [])),t_ 5 <|.mov (ci 1)]
def r121_3 : List Op := [f_ 12 <|.mov (.g 0),f_ 13 <|.mov (.g 1),f_ 14 <|.call (.k 133) .no none [.l 0, .l 1],f_ 11 <|.mov (.l 2),f_ 15 <|.ext (.l 3) 0,f_ 16 <|.ext (.l 3) 1,t_ 6 <|.mov (.l 4),t_ 7 <|.mov (.l 5)]
def r121_4 : List Op := [f_ 17 <|.mov (.g 7),t_ 18 <|.un .not (.l 0)]
def r121_5 : List Op := [t_ 4 <|.mov (.c (.slice 5 [])),t_ 5 <|.mov (ci 7)]
def r121_6 : List Op := [f_ 19 <|.mov (.g 0),f_ 20 <|.call (.k 134) .no (some 0) [.l 0],f_ 21 <|.mov (.g 6),f_ 22 <|.mov (.g 6),f_ 23 <|.bin .add (.l 3) (ci 1),f_ 24 <|.del 136 20 5 (.l 1) (.l 2) (.l 4),t_ 4 <|.mov (.l 5),t_ 5 <|.mov (ci 0)]
def c121 : C := .seq (.region false r121_0) (.seq (.seq (.region false r121_1) (.cond (.g 10) (.seq (.region false r121_2) (.ret)) (.skip))) (.seq (.region false r121_3) (.seq (.seq (.region false r121_4) (.cond (.g 18) (.seq (.region false r121_5) (.ret)) (.skip))) (.seq (.region false r121_6) (.ret)))))
def F121 : F := ⟨2, [0, 1, 4, 5, 6, 7, 10, 18], [.t 4, .t 5], none, c121⟩
attribute [go_sem] r121_0 r121_1 r121_2 r121_3 r121_4 r121_5 r121_6 c121 F121
def r126_0 : List Op := [t_ 2 <|.mov (cb false)]
def r126_1 : List Op := [t_ 3 <|.mov (ci 0)]
def r126_2 : List Op := [t_ 6 <|.mov (.g 0),t_ 7 <|.len false (.l 0),t_ 8 <|.mov (ci 0)]
def r126_3 : List Op := [t_ 9 <|.bin .lss (.g 8) (.g 7)]
def r126_4 : List Op := [f_ 10 <|.iad 5 (.g 6) (.g 8),f_ 11 <|.load (.c) (some 5) (.l 0),t_ 5 <|.alloc [.int .i64 0, .int .i64 0, .int .i64 0, .int .i64 0, .int .i64 0],u_ <|.store (.v 5) 5 (.l 2) (.l 1)]
def r126_5 : List Op := [f_ 12 <|.fad (.g 5) 0,f_ 13 <|.load (.v 5) none (.l 0),f_ 14 <|.mov (.g 3),f_ 15 <|.bin .leq (.l 1) (.l 2),f_ 16 <|.mov (.l 3),n_ 17 4 <|.fad (.g 5) 0,n_ 18 4 <|.load (.v 5) none (.l 5),n_ 19 4 <|.bin .gtr (.l 6) (ci 1099511627776),f_ 20 <|.pick (.l 4) (cb true) (.l 7),f_ 21 <|.mov (.l 8),n_ 22 9 <|.fad (.g 5) 1,n_ 23 9 <|.load (.v 5) none (.l 10),n_ 24 9 <|.bin .lss (.l 11) (ci 1),f_ 25 <|.pick (.l 9) (cb true) (.l 12),f_ 26 <|.mov (.l 13),n_ 27 14 <|.fad (.g 5) 1,n_ 28 14 <|.load (.v 5) none (.l 15),n_ 29 14 <|.bin .gtr (.l 16) (ci 20),f_ 30 <|.pick (.l 14) (cb true) (.l 17),f_ 31 <|.mov (.l 18),n_ 32 19 <|.fad (.g 5) 2,n_ 33 19 <|.load (.v 5) (some 3) (.l 20),n_ 34 19 <|.call (.k 28) .no none [.l 21],n_ 35 19 <|.un .not (.l 22),t_ 36 <|.pick (.l 19) (cb true) (.l 23)]
def r126_6 : List Op := [t_ 2 <|.mov (cb false)]
def r126_7 : List Op := [f_ 37 <|.fad (.g 5) 0,f_ 38 <|.load (.v 5) none (.l 0),t_ 3 <|.mov (.l 1)]
def r126_8 : List Op := [f_ 39 <|.bin .add (.g 8) (ci 1),t_ 8 <|.mov (.l 0)]
def b126_0 : C := .seq (.region false r126_3) (.seq (.cond (.g 9) (.skip) (.exit 0)) (.seq (.block 1 (.seq (.region false r126_4) (.seq (.seq (.region false r126_5) (.cond (.g 36) (.seq (.region false r126_6) (.ret)) (.skip))) (.region false r126_7)))) (.region false r126_8)))
def l126_0 : C := .loop [] [] [5] [] b126_0
def r126_9 : List Op := [f_ 40 <|.mov (.g 0),f_ 41 <|.len false (.l 0),f_ 42 <|.bin .leq (.l 1) (ci 4),t_ 2 <|.mov (.l 2)]
def c126 : C := .seq (.region false r126_0) (.seq (.region false r126_1) (.seq (.seq (.region false r126_2) (.block 0 (l126_0))) (.seq (.region false r126_9) (.ret))))
def F126 : F := ⟨1, [0, 2, 3, 5, 6, 7, 8, 9, 36], [.t 2], none, c126⟩
attribute [go_sem] r126_0 r126_1 r126_2 r126_3 r126_4 r126_5 r126_6 r126_7 r126_8 b126_0 r126_9 c126 F126
def r128_0 : List Op := [t_ 4 <|.mov (cb false)]
def r128_1 : List Op := [f_ 5 <|.mov (.g 0),f_ 6 <|.mov (.g 1),f_ 7 <|.call (.k 137) .no none [.l 0, .l 1],f_ 8 <|.bin .geq (.l 2) (ci 0),t_ 4 <|.mov (.l 3)]
def c128 : C := .seq (.region false r128_0) (.seq (.region false r128_1) (.ret))
def F128 : F := ⟨2, [0, 1, 4], [.t 4], none, c128⟩
attribute [go_sem] r128_0 r128_1 c128 F128
def r129_0 : List Op := [t_ 1 <|.box (.g 0),t_ 2 <|.mov (cb false)]
def r129_1 : List Op := [f_ 3 <|.load (.v 1) (some 3) (.g 1),f_ 4 <|.call (.k 28) .no none [.l 0],f_ 5 <|.un .not (.l 1),t_ 2 <|.mov (.l 2)]
def c129 : C := .seq (.region false r129_0) (.seq (.region false r129_1) (.ret))
def F129 : F := ⟨1, [0, 1, 2], [.t 2], none, c129⟩
attribute [go_sem] r129_0 r129_1 c129 F129
def r130_0 : List Op := [t_ 4 <|.alloc [.int .i64 0, .int .i64 0, .int .i64 0]]
def r130_1 : List Op := [f_ 7 <|.mov (.g 0),f_ 8 <|.len false (.l 0),t_ 9 <|.bin .lss (.l 1) (ci 1)]
def r130_2 : List Op := [f_ 10 <|.bad,u_ <|.bad]
def r130_3 : List Op := [f_ 11 <|.mov (.g 0),f_ 12 <|.iad 3 (.l 0) (ci 0),f_ 13 <|.load (.c) (some 3) (.l 1),t_ 5 <|.alloc [.int .i64 0, .int .i64 0, .int .i64 0],u_ <|.store (.v 5) 3 (.l 3) (.l 2)]
def r130_4 : List Op := [t_ 6 <|.mov (ci 1)]
def r130_5 : List Op := [f_ 14 <|.mov (.g 6),f_ 15 <|.mov (.g 0),f_ 16 <|.len false (.l 1),t_ 17 <|.bin .lss (.l 0) (.l 2)]
def r130_6 : List Op := [f_ 20 <|.mov (.g 1),f_ 21 <|.mov (.g 0),f_ 22 <|.mov (.g 6),f_ 23 <|.iad 3 (.l 1) (.l 2),f_ 24 <|.load (.c) (some 3) (.l 3),f_ 25 <|.load (.v 5) (some 3) (.g 5),f_ 26 <|.call (.v (.l 0)) .no none [.l 4, .l 5],t_ 27 <|.bin .lss (.l 6) (ci 0)]
def r130_7 : List Op := [f_ 28 <|.mov (.g 0),f_ 29 <|.mov (.g 6),f_ 30 <|.iad 3 (.l 0) (.l 1),f_ 31 <|.load (.c) (some 3) (.l 2),u_ <|.store (.v 5) 3 (.g 5) (.l 3)]
def r130_8 : List Op := [f_ 18 <|.mov (.g 6),f_ 19 <|.bin .add (.l 0) (ci 1),t_ 6 <|.mov (.l 1)]
def b130_0 : C := .seq (.seq (.region false r130_5) (.cond (.g 17) (.skip) (.exit 0))) (.seq (.block 1 (.seq (.region true r130_6) (.cond (.g 27) (.region false r130_7) (.skip)))) (.region false r130_8))
def l130_0 : C := .loop [] [] [] [] b130_0
def r130_9 : List Op := [f_ 32 <|.load (.v 5) (some 3) (.g 5),u_ <|.store (.v 4) 3 (.g 4) (.l 0)]
def c130 : C := .seq (.region false r130_0) (.seq (.seq (.region false r130_1) (.cond (.g 9) (.region false r130_2) (.skip))) (.seq (.region false r130_3) (.seq (.seq (.region false r130_4) (.block 0 (l130_0))) (.seq (.region false r130_9) (.ret)))))
def F130 : F := ⟨2, [0, 1, 4, 5, 6, 9, 17, 27], [.cell 4 (some 3)], none, c130⟩
attribute [go_sem] r130_0 r130_1 r130_2 r130_3 r130_4 r130_5 r130_6 r130_7 r130_8 b130_0 r130_9 c130 F130
def r131_0 : List Op := [t_ 2 <|.box (.g 0),t_ 3 <|.box (.g 1),t_ 4 <|.alloc [.int .i64 0, .int .i64 0, .int .i64 0]]
def r131_1 : List Op := [f_ 5 <|.load (.v 2) (some 3) (.g 2),f_ 6 <|.load (.v 3) (some 3) (.g 3),f_ 7 <|.call (.k 15) .no none [.l 0, .l 1],t_ 8 <|.bin .gtr (.l 2) (ci 0)]
def r131_2 : List Op := [f_ 9 <|.load (.v 3) (some 3) (.g 3),u_ <|.store (.v 4) 3 (.g 4) (.l 0)]
def r131_3 : List Op := [f_ 10 <|.load (.v 2) (some 3) (.g 2),u_ <|.store (.v 4) 3 (.g 4) (.l 0)]
def c131 : C := .seq (.region false r131_0) (.seq (.seq (.region false r131_1) (.cond (.g 8) (.seq (.region false r131_2) (.ret)) (.skip))) (.seq (.region false r131_3) (.ret)))
def F131 : F := ⟨2, [0, 1, 2, 3, 4, 8], [.cell 4 (some 3)], none, c131⟩
attribute [go_sem] r131_0 r131_1 r131_2 r131_3 c131 F131
def r133_0 : List Op := [t_ 3 <|.box (.g 1),t_ 4 <|.mov (ci 0),t_ 5 <|.mov (cb false)]
def r133_1 : List Op := [f_ 7 <|.mov (.g 0),f_ 8 <|.fn 138 [.g 3] [3],f_ 9 <|.call (.k 139) .no none [.l 0, .l 1],t_ 6 <|.mov (.l 2)]
def r133_2 : List Op := [f_ 10 <|.mov (.g 6),t_ 11 <|.bin .lss (.l 0) (ci 0)]
def r133_3 : List Op := [f_ 12 <|.mov (.g 0),f_ 13 <|.len false (.l 0),t_ 4 <|.mov (.l 1),t_ 5 <|.mov (cb false)]
def r133_4 : List Op := [f_ 14 <|.mov (.g 6),f_ 15 <|.mov (.g 0),f_ 16 <|.mov (.g 6),f_ 17 <|.iad 5 (.l 1) (.l 2),f_ 18 <|.fad (.l 3) 0,f_ 19 <|.load (.c) none (.l 4),f_ 20 <|.load (.v 3) none (.g 3),f_ 21 <|.bin .eql (.l 5) (.l 6),t_ 4 <|.mov (.l 0),t_ 5 <|.mov (.l 7)]
def c133 : C := .seq (.region false r133_0) (.seq (.region false r133_1) (.seq (.seq (.region false r133_2) (.cond (.g 11) (.seq (.region false r133_3) (.ret)) (.skip))) (.seq (.region true r133_4) (.ret))))
def F133 : F := ⟨2, [0, 1, 3, 4, 5, 6, 11], [.t 4, .t 5], none, c133⟩
attribute [go_sem] r133_0 r133_1 r133_2 r133_3 r133_4 c133 F133
def r137_0 : List Op := [t_ 4 <|.mov (ci 0)]
def r137_1 : List Op := [f_ 6 <|.mov (.g 0),t_ 7 <|.len false (.l 0),t_ 8 <|.mov (ci 0)]
def r137_2 : List Op := [t_ 9 <|.bin .lss (.g 8) (.g 7)]
def r137_3 : List Op := [f_ 10 <|.mov (.g 8),t_ 5 <|.mov (.l 0)]
def r137_4 : List Op := [f_ 11 <|.mov (.g 1),f_ 12 <|.mov (.g 0),f_ 13 <|.mov (.g 5),f_ 14 <|.iad 3 (.l 1) (.l 2),f_ 15 <|.load (.c) (some 3) (.l 3),t_ 16 <|.call (.v (.l 0)) .no none [.l 4]]
def r137_5 : List Op := [f_ 17 <|.mov (.g 5),t_ 4 <|.mov (.l 0)]
def r137_6 : List Op := [f_ 18 <|.bin .add (.g 8) (ci 1),t_ 8 <|.mov (.l 0)]
def b137_0 : C := .seq (.region false r137_2) (.seq (.cond (.g 9) (.skip) (.exit 0)) (.seq (.block 1 (.seq (.region false r137_3) (.seq (.region false r137_4) (.cond (.g 16) (.seq (.region false r137_5) (.ret)) (.skip))))) (.region false r137_6)))
def l137_0 : C := .loop [] [] [] [] b137_0
def r137_7 : List Op := [t_ 4 <|.mov (ci (-1))]
def c137 : C := .seq (.region false r137_0) (.seq (.seq (.region false r137_1) (.block 0 (l137_0))) (.seq (.region false r137_7) (.ret)))
def F137 : F := ⟨2, [0, 1, 4, 5, 7, 8, 9, 16], [.t 4], none, c137⟩
attribute [go_sem] r137_0 r137_1 r137_2 r137_3 r137_4 r137_5 r137_6 b137_0 r137_7 c137 F137
def r138_0 : List Op := [t_ 2 <|.box (.g 0),t_ 3 <|.mov (cb false)]
def r138_1 : List Op := [f_ 4 <|.fad (.g 2) 0,f_ 5 <|.load (.v 2) none (.l 0),f_ 6 <|.load (.c) none (.g 1),f_ 7 <|.bin .geq (.l 1) (.l 2),t_ 3 <|.mov (.l 3)]
def c138 : C := .seq (.region false r138_0) (.seq (.region false r138_1) (.ret))
def F138 : F := ⟨2, [0, 1, 2, 3], [.t 3], none, c138⟩
attribute [go_sem] r138_0 r138_1 c138 F138
def r139_0 : List Op := [t_ 4 <|.mov (ci 0)]
def r139_1 : List Op := [f_ 6 <|.mov (.g 0),t_ 7 <|.len false (.l 0),t_ 8 <|.mov (ci 0)]
def r139_2 : List Op := [t_ 9 <|.bin .lss (.g 8) (.g 7)]
def r139_3 : List Op := [f_ 10 <|.mov (.g 8),t_ 5 <|.mov (.l 0)]
def r139_4 : List Op := [f_ 11 <|.mov (.g 1),f_ 12 <|.mov (.g 0),f_ 13 <|.mov (.g 5),f_ 14 <|.iad 5 (.l 1) (.l 2),f_ 15 <|.load (.c) (some 5) (.l 3),t_ 16 <|.call (.v (.l 0)) .no none [.l 4]]
def r139_5 : List Op := [f_ 17 <|.mov (.g 5),t_ 4 <|.mov (.l 0)]
def r139_6 : List Op := [f_ 18 <|.bin .add (.g 8) (ci 1),t_ 8 <|.mov (.l 0)]
def b139_0 : C := .seq (.region false r139_2) (.seq (.cond (.g 9) (.skip) (.exit 0)) (.seq (.block 1 (.seq (.region false r139_3) (.seq (.region false r139_4) (.cond (.g 16) (.seq (.region false r139_5) (.ret)) (.skip))))) (.region false r139_6)))
def l139_0 : C := .loop [] [] [] [] b139_0
def r139_7 : List Op := [t_ 4 <|.mov (ci (-1))]
def c139 : C := .seq (.region false r139_0) (.seq (.seq (.region false r139_1) (.block 0 (l139_0))) (.seq (.region false r139_7) (.ret)))
def F139 : F := ⟨2, [0, 1, 4, 5, 7, 8, 9, 16], [.t 4], none, c139⟩
attribute [go_sem] r139_0 r139_1 r139_2 r139_3 r139_4 r139_5 r139_6 b139_0 r139_7 c139 F139
end Sg
namespace Sg
open _root_.Go (IntKind BinOp UnOp)
def r338_0 : List Op := [t_ 3 <|.box (.g 0),t_ 4 <|.box (.g 1),t_ 5 <|.box (.g 2),t_ 6 <|.mov (cb false)]
def r338_1 : List Op := [f_ 17 <|.load (.v 3) (some 29) (.g 3),f_ 18 <|.call (.k 324) .freeze none [.l 0],f_ 19 <|.call (.k 325) .borrow none [.l 1],f_ 20 <|.un .not (.l 2),f_ 21 <|.mov (.l 3),n_ 22 4 <|.load (.v 4) (some 36) (.g 4),n_ 23 4 <|.call (.k 339) .borrow none [.l 5],n_ 24 4 <|.un .not (.l 6),f_ 25 <|.pick (.l 4) (cb true) (.l 7),f_ 26 <|.mov (.l 8),n_ 27 9 <|.fad (.g 5) 5,n_ 28 9 <|.load (.v 5) none (.l 10),n_ 29 9 <|.len false (.l 11),n_ 30 9 <|.bin .gtr (.l 12) (ci 40),f_ 31 <|.pick (.l 9) (cb true) (.l 13),f_ 32 <|.mov (.l 14),n_ 33 15 <|.load (.v 3) (some 29) (.g 3),n_ 34 15 <|.call (.k 328) .borrow none [.l 16],n_ 35 15 <|.un .not (.l 17),f_ 36 <|.pick (.l 15) (cb true) (.l 18),f_ 37 <|.mov (.l 19),n_ 38 20 <|.fad (.g 4) 4,n_ 39 20 <|.load (.v 4) none (.l 21),n_ 40 20 <|.bin .gtr (.l 22) (ci 549755813888),t_ 41 <|.pick (.l 20) (cb true) (.l 23)]
def r338_2 : List Op := [f_ 42 <|.call (.k 326) .borrow none [],t_ 6 <|.mov (.l 0)]
def r338_3 : List Op := [f_ 43 <|.fad (.g 3) 1,t_ 44 <|.load (.v 3) none (.l 0),t_ 45 <|.len false (.l 1),t_ 46 <|.mov (ci 0)]
def r338_4 : List Op := [t_ 47 <|.bin .lss (.g 46) (.g 45)]
def r338_5 : List Op := [f_ 48 <|.iad 3 (.g 44) (.g 46),f_ 49 <|.load (.c) (some 3) (.l 0),t_ 8 <|.alloc [.int .i64 0, .slice 1 [], .bool false],u_ <|.store (.v 8) 3 (.l 2) (.l 1)]
def r338_6 : List Op := [f_ 50 <|.fad (.g 8) 0,f_ 51 <|.load (.v 8) none (.l 0),t_ 52 <|.bin .gtr (.l 1) (ci 549755813888)]
def r338_7 : List Op := [f_ 53 <|.call (.k 326) .borrow none [],t_ 6 <|.mov (.l 0)]
def r338_8 : List Op := [f_ 54 <|.bin .add (.g 46) (ci 1),t_ 46 <|.mov (.l 0)]
def b338_0 : C := .seq (.region false r338_4) (.seq (.cond (.g 47) (.skip) (.exit 0)) (.seq (.block 1 (.seq (.region false r338_5) (.seq (.region false r338_6) (.cond (.g 52) (.seq (.region false r338_7) (.ret)) (.skip))))) (.region false r338_8)))
def l338_0 : C := .loop [] [] [8] [] b338_0
def r338_9 : List Op := [f_ 56 <|.load (.v 3) (some 29) (.g 3),f_ 57 <|.load (.v 4) (some 36) (.g 4),f_ 58 <|.call (.k 340) .freeze (some 1) [.l 0, .l 1],f_ 55 <|.mov (.l 2),f_ 59 <|.ext (.l 3) 0,f_ 60 <|.ext (.l 3) 1,t_ 9 <|.alloc [.slice 5 [], .slice 3 [], .int .i64 0, .slice 5 [], .slice 3 [], .int .i64 0, .int .i64 0, .int .i64 0, .int .i64 0, .int .i64 0, .int .i64 0, .int .i64 0, .int .i64 0, .int .i64 0, .int .i64 0, .int .i64 0, .str [], .slice 1 [], .int .i64 0, .int .i64 0, .int .i64 0, .str [], .str [], .slice 1 [], .int .i64 0, .int .i64 0, .int .i64 0, .slice 1 [], .slice 7 []],u_ <|.store (.v 9) 29 (.l 6) (.l 4),t_ 10 <|.mov (.l 5)]
def r338_10 : List Op := [f_ 62 <|.load (.v 9) (some 29) (.g 9),f_ 63 <|.call (.k 335) .freeze none [.l 0],f_ 61 <|.mov (.l 1),f_ 64 <|.ext (.l 2) 0,f_ 65 <|.ext (.l 2) 1,t_ 11 <|.alloc [.slice 5 [], .slice 3 [], .int .i64 0, .slice 5 [], .slice 3 [], .int .i64 0, .int .i64 0, .int .i64 0, .int .i64 0, .int .i64 0, .int .i64 0, .int .i64 0, .int .i64 0, .int .i64 0, .int .i64 0, .int .i64 0, .str [], .slice 1 [], .int .i64 0, .int .i64 0, .int .i64 0, .str [], .str [], .slice 1 [], .int .i64 0, .int .i64 0, .int .i64 0, .slice 1 [], .slice 7 []],u_ <|.store (.v 11) 29 (.l 5) (.l 3),t_ 12 <|.mov (.l 4)]
def r338_11 : List Op := [f_ 67 <|.load (.v 9) (some 29) (.g 9),f_ 68 <|.load (.v 5) (some 6) (.g 5),f_ 69 <|.call (.k 331) .freeze none [.l 0, .l 1],f_ 66 <|.mov (.l 2),f_ 70 <|.ext (.l 3) 0,f_ 71 <|.ext (.l 3) 1,t_ 13 <|.alloc [.slice 5 [], .slice 3 [], .int .i64 0, .slice 5 [], .slice 3 [], .int .i64 0, .int .i64 0, .int .i64 0, .int .i64 0, .int .i64 0, .int .i64 0, .int .i64 0, .int .i64 0, .int .i64 0, .int .i64 0, .int .i64 0, .str [], .slice 1 [], .int .i64 0, .int .i64 0, .int .i64 0, .str [], .str [], .slice 1 [], .int .i64 0, .int .i64 0, .int .i64 0, .slice 1 [], .slice 7 []],u_ <|.store (.v 13) 29 (.l 6) (.l 4),f_ 14 <|.mov (.l 5)]
def r338_12 : List Op := [f_ 72 <|.mov (.g 10),f_ 73 <|.mov (.g 12),t_ 74 <|.app 58 36 (.l 0) (.l 1),t_ 75 <|.len false (.l 2),t_ 76 <|.mov (ci 0)]
def r338_13 : List Op := [t_ 77 <|.bin .lss (.g 76) (.g 75)]
def r338_14 : List Op := [f_ 78 <|.iad 36 (.g 74) (.g 76),f_ 79 <|.load (.e 58) (some 36) (.l 0),t_ 16 <|.alloc [.int .i64 0, .int .i64 0, .int .i64 0, .int .i64 0, .int .i64 0, .int .i64 0, .int .i64 0, .int .i64 0, .int .i64 0, .int .i64 0, .int .i64 0, .int .i64 0, .str [], .int .i64 0, .int .i64 0, .int .i64 0, .str [], .str [], .bool false, .str [], .int .i64 0, .int .i64 0, .int .i64 0, .str [], .int .i64 0, .int .i64 0, .int .i64 0, .int .i64 0, .int .i64 0, .bool false, .str [], .slice 2 [], .str [], .bool false, .slice 5 [], .slice 1 []],u_ <|.store (.v 16) 36 (.l 2) (.l 1)]
def r338_15 : List Op := [f_ 80 <|.load (.v 16) (some 36) (.g 16),f_ 81 <|.call (.k 341) .borrow none [.l 0],f_ 82 <|.un .not (.l 1),f_ 83 <|.mov (.l 2),n_ 84 3 <|.fad (.g 16) 1,n_ 85 3 <|.load (.v 16) none (.l 4),n_ 86 3 <|.bin .neq (.l 5) (ci 0),t_ 87 <|.pick (.l 3) (cb true) (.l 6)]
def r338_16 : List Op := [t_ 6 <|.mov (cb false)]
def r338_17 : List Op := [f_ 88 <|.bin .add (.g 76) (ci 1),t_ 76 <|.mov (.l 0)]
def b338_1 : C := .seq (.region false r338_13) (.seq (.cond (.g 77) (.skip) (.exit 2)) (.seq (.block 3 (.seq (.region false r338_14) (.seq (.region false r338_15) (.cond (.g 87) (.seq (.region false r338_16) (.ret)) (.skip))))) (.region false r338_17)))
def l338_1 : C := .loop [] [] [16] [] b338_1
def r338_18 : List Op := [f_ 89 <|.load (.v 9) (some 29) (.g 9),f_ 90 <|.call (.k 328) .borrow none [.l 0],f_ 91 <|.mov (.l 1),y_ 92 2 <|.load (.v 11) (some 29) (.g 11),y_ 93 2 <|.call (.k 328) .borrow none [.l 3],f_ 94 <|.pick (.l 2) (.l 4) (cb false),f_ 95 <|.mov (.l 5),y_ 96 6 <|.load (.v 13) (some 29) (.g 13),y_ 97 6 <|.call (.k 328) .borrow none [.l 7],f_ 98 <|.pick (.l 6) (.l 8) (cb false),f_ 99 <|.mov (.l 9),y_ 100 10 <|.fad (.g 9) 2,y_ 101 10 <|.load (.v 9) none (.l 11),y_ 102 10 <|.fad (.g 3) 2,y_ 103 10 <|.load (.v 3) none (.l 13),y_ 104 10 <|.bin .geq (.l 12) (.l 14),f_ 105 <|.pick (.l 10) (.l 15) (cb false),f_ 106 <|.mov (.l 16),y_ 107 17 <|.fad (.g 13) 2,y_ 108 17 <|.load (.v 13) none (.l 18),y_ 109 17 <|.fad (.g 9) 2,y_ 110 17 <|.load (.v 9) none (.l 20),y_ 111 17 <|.bin .geq (.l 19) (.l 21),f_ 112 <|.pick (.l 17) (.l 22) (cb false),f_ 113 <|.mov (.l 23),y_ 114 24 <|.call (.k 326) .borrow none [],f_ 115 <|.pick (.l 24) (.l 25) (cb false),t_ 6 <|.mov (.l 26)]
def c338 : C := .seq (.region false r338_0) (.seq (.seq (.region false r338_1) (.cond (.g 41) (.seq (.region false r338_2) (.ret)) (.skip))) (.seq (.seq (.region false r338_3) (.block 0 (l338_0))) (.seq (.region false r338_9) (.seq (.region false r338_10) (.seq (.region false r338_11) (.seq (.seq (.region false r338_12) (.block 2 (l338_1))) (.seq (.region false r338_18) (.ret))))))))
def F338 : F := ⟨3, [0, 1, 2, 3, 4, 5, 6, 8, 9, 10, 11, 12, 13, 16, 41, 44, 45, 46, 47, 52, 74, 75, 76, 77, 87], [.t 6], none, c338⟩
attribute [go_sem] r338_0 r338_1 r338_2 r338_3 r338_4 r338_5 r338_6 r338_7 r338_8 b338_0 r338_9 r338_10 r338_11 r338_12 r338_13 r338_14 r338_15 r338_16 r338_17 b338_1 r338_18 c338 F338
def r324_0 : List Op := [t_ 1 <|.box (.g 0),t_ 2 <|.alloc [.slice 5 [], .slice 3 [], .int .i64 0, .slice 5 [], .slice 3 [], .int .i64 0, .int .i64 0, .int .i64 0, .int .i64 0, .int .i64 0, .int .i64 0, .int .i64 0, .int .i64 0, .int .i64 0, .int .i64 0, .int .i64 0, .str [], .slice 1 [], .int .i64 0, .int .i64 0, .int .i64 0, .str [], .str [], .slice 1 [], .int .i64 0, .int .i64 0, .int .i64 0, .slice 1 [], .slice 7 []]]
def r324_1 : List Op := [f_ 8 <|.fad (.g 1) 0,f_ 9 <|.load (.v 1) none (.l 0),f_ 10 <|.fad (.g 1) 2,f_ 11 <|.load (.v 1) none (.l 2),f_ 12 <|.fad (.g 1) 3,f_ 13 <|.load (.v 1) none (.l 4),f_ 14 <|.fad (.g 1) 4,f_ 15 <|.load (.v 1) none (.l 6),f_ 16 <|.fad (.g 1) 5,f_ 17 <|.load (.v 1) (some 3) (.l 8),f_ 18 <|.fad (.g 1) 8,f_ 19 <|.load (.v 1) (some 20) (.l 10),f_ 20 <|.build [.slice 5 [], .nslice 3, .int .i64 0, .slice 5 [], .slice 3 [], .int .i64 0, .int .i64 0, .int .i64 0, .int .i64 0, .int .i64 0, .int .i64 0, .int .i64 0, .int .i64 0, .int .i64 0, .int .i64 0, .int .i64 0, .str [], .slice 1 [], .int .i64 0, .int .i64 0, .int .i64 0, .str [], .str [], .slice 1 [], .int .i64 0, .int .i64 0, .int .i64 0, .slice 1 [], .nslice 7] [(0, 1, .l 1), (2, 1, .l 3), (3, 1, .l 5), (4, 1, .l 7), (5, 3, .l 9), (8, 20, .l 11)],t_ 3 <|.alloc [.slice 5 [], .nslice 3, .int .i64 0, .slice 5 [], .slice 3 [], .int .i64 0, .int .i64 0, .int .i64 0, .int .i64 0, .int .i64 0, .int .i64 0, .int .i64 0, .int .i64 0, .int .i64 0, .int .i64 0, .int .i64 0, .str [], .slice 1 [], .int .i64 0, .int .i64 0, .int .i64 0, .str [], .str [], .slice 1 [], .int .i64 0, .int .i64 0, .int .i64 0, .slice 1 [], .nslice 7],u_ <|.store (.v 3) 29 (.l 13) (.l 12)]
def r324_2 : List Op := [f_ 21 <|.fad (.g 1) 1,t_ 22 <|.load (.v 1) none (.l 0),t_ 23 <|.len false (.l 1),t_ 24 <|.mov (ci 0)]
def r324_3 : List Op := [t_ 25 <|.bin .lss (.g 24) (.g 23)]
def r324_4 : List Op := [f_ 26 <|.iad 3 (.g 22) (.g 24),f_ 27 <|.load (.c) (some 3) (.l 0),t_ 5 <|.alloc [.int .i64 0, .slice 1 [], .bool false],u_ <|.store (.v 5) 3 (.l 2) (.l 1)]
def r324_5 : List Op := [f_ 28 <|.fad (.g 3) 1,f_ 29 <|.load (.v 3) none (.l 0),f_ 30 <|.load (.v 5) (some 3) (.g 5),f_ 31 <|.mks 3 1 [.int .i64 0, .slice 1 [], .bool false] [(0, .l 2)],f_ 32 <|.app 32 3 (.l 1) (.l 3),f_ 33 <|.fad (.g 3) 1,u_ <|.store (.v 3) 1 (.l 5) (.l 4)]
def r324_6 : List Op := [f_ 34 <|.bin .add (.g 24) (ci 1),t_ 24 <|.mov (.l 0)]
def b324_0 : C := .seq (.region false r324_3) (.seq (.cond (.g 25) (.skip) (.exit 0)) (.seq (.block 1 (.seq (.region false r324_4) (.region false r324_5))) (.region false r324_6)))
def l324_0 : C := .loop [] [] [5] [] b324_0
def r324_7 : List Op := [f_ 35 <|.fad (.g 1) 28,t_ 36 <|.load (.v 1) none (.l 0),t_ 37 <|.len false (.l 1),t_ 38 <|.mov (ci 0)]
def r324_8 : List Op := [t_ 39 <|.bin .lss (.g 38) (.g 37)]
def r324_9 : List Op := [f_ 40 <|.iad 7 (.g 36) (.g 38),f_ 41 <|.load (.c) (some 7) (.l 0),t_ 7 <|.alloc [.int .i64 0, .int .i64 0, .int .i64 0, .int .i64 0, .int .i64 0, .int .i64 0, .int .i64 0],u_ <|.store (.v 7) 7 (.l 2) (.l 1)]
def r324_10 : List Op := [f_ 42 <|.fad (.g 3) 28,f_ 43 <|.load (.v 3) none (.l 0),f_ 44 <|.load (.v 7) (some 7) (.g 7),f_ 45 <|.mks 7 1 [.int .i64 0, .int .i64 0, .int .i64 0, .int .i64 0, .int .i64 0, .int .i64 0, .int .i64 0] [(0, .l 2)],f_ 46 <|.app 46 7 (.l 1) (.l 3),f_ 47 <|.fad (.g 3) 28,u_ <|.store (.v 3) 1 (.l 5) (.l 4)]
def r324_11 : List Op := [f_ 48 <|.bin .add (.g 38) (ci 1),t_ 38 <|.mov (.l 0)]
def b324_1 : C := .seq (.region false r324_8) (.seq (.cond (.g 39) (.skip) (.exit 2)) (.seq (.block 3 (.seq (.region false r324_9) (.region false r324_10))) (.region false r324_11)))
def l324_1 : C := .loop [] [] [7] [] b324_1
def r324_12 : List Op := [f_ 49 <|.load (.v 3) (some 29) (.g 3),u_ <|.store (.v 2) 29 (.g 2) (.l 0)]
def c324 : C := .seq (.region false r324_0) (.seq (.region false r324_1) (.seq (.seq (.region false r324_2) (.block 0 (l324_0))) (.seq (.seq (.region false r324_7) (.block 2 (l324_1))) (.seq (.region false r324_12) (.ret)))))
def F324 : F := ⟨1, [0, 1, 2, 3, 5, 7, 22, 23, 24, 25, 36, 37, 38, 39], [.cell 2 (some 29)], none, c324⟩
attribute [go_sem] r324_0 r324_1 r324_2 r324_3 r324_4 r324_5 r324_6 b324_0 r324_7 r324_8 r324_9 r324_10 r324_11 b324_1 r324_12 c324 F324
def r325_0 : List Op := [t_ 1 <|.box (.g 0),t_ 2 <|.mov (cb false)]
def r325_1 : List Op := [f_ 3 <|.fad (.g 1) 0,f_ 4 <|.load (.v 1) none (.l 0),f_ 5 <|.len false (.l 1),f_ 6 <|.bin .leq (.l 2) (ci 40),f_ 7 <|.mov (.l 3),y_ 8 4 <|.fad (.g 1) 1,y_ 9 4 <|.load (.v 1) none (.l 5),y_ 10 4 <|.len false (.l 6),y_ 11 4 <|.bin .leq (.l 7) (ci 40),f_ 12 <|.pick (.l 4) (.l 8) (cb false),f_ 13 <|.mov (.l 9),y_ 14 10 <|.fad (.g 1) 4,y_ 15 10 <|.load (.v 1) none (.l 11),y_ 16 10 <|.len false (.l 12),y_ 17 10 <|.bin .leq (.l 13) (ci 40),f_ 18 <|.pick (.l 10) (.l 14) (cb false),f_ 19 <|.mov (.l 15),y_ 20 16 <|.fad (.g 1) 3,y_ 21 16 <|.load (.v 1) none (.l 17),y_ 22 16 <|.len false (.l 18),y_ 23 16 <|.bin .leq (.l 19) (ci 40),f_ 24 <|.pick (.l 16) (.l 20) (cb false),f_ 25 <|.mov (.l 21),y_ 26 22 <|.fad (.g 1) 28,y_ 27 22 <|.load (.v 1) none (.l 23),y_ 28 22 <|.len false (.l 24),y_ 29 22 <|.bin .leq (.l 25) (ci 40),f_ 30 <|.pick (.l 22) (.l 26) (cb false),f_ 31 <|.mov (.l 27),y_ 32 28 <|.fad (.g 1) 8,y_ 33 28 <|.fad (.l 29) 9,y_ 34 28 <|.load (.v 1) none (.l 30),y_ 35 28 <|.len false (.l 31),y_ 36 28 <|.bin .leq (.l 32) (ci 200),f_ 37 <|.pick (.l 28) (.l 33) (cb false),f_ 38 <|.mov (.l 34),y_ 39 35 <|.fad (.g 1) 8,y_ 40 35 <|.fad (.l 36) 15,y_ 41 35 <|.load (.v 1) none (.l 37),y_ 42 35 <|.len false (.l 38),y_ 43 35 <|.bin .leq (.l 39) (ci 100),f_ 44 <|.pick (.l 35) (.l 40) (cb false),f_ 45 <|.mov (.l 41),y_ 46 42 <|.fad (.g 1) 8,y_ 47 42 <|.fad (.l 43) 19,y_ 48 42 <|.load (.v 1) none (.l 44),y_ 49 42 <|.len false (.l 45),y_ 50 42 <|.bin .leq (.l 46) (ci 40),f_ 51 <|.pick (.l 42) (.l 47) (cb false),f_ 52 <|.mov (.l 48),y_ 53 49 <|.fad (.g 1) 1,y_ 54 49 <|.load (.v 1) none (.l 50),y_ 55 49 <|.call (.k 344) .no none [.l 51],f_ 56 <|.pick (.l 49) (.l 52) (cb false),t_ 2 <|.mov (.l 53)]
def c325 : C := .seq (.region false r325_0) (.seq (.region false r325_1) (.ret))
def F325 : F := ⟨1, [0, 1, 2], [.t 2], none, c325⟩
attribute [go_sem] r325_0 r325_1 c325 F325
def r326_0 : List Op := [t_ 0 <|.mov (cb false)]
def r326_1 : List Op := [f_ 7 <|.call (.k 327) .no none [],f_ 8 <|.build [.int .i64 0, .int .i64 0, .int .i64 0, .int .i64 0, .str [], .slice 1 []] [(0, 1, .c (.int .i64 2)), (1, 1, .c (.int .i64 1)), (4, 1, .c (.str [109]))],f_ 9 <|.call (.k 331) .no none [.l 0, .l 1],f_ 6 <|.mov (.l 2),f_ 10 <|.ext (.l 3) 0,f_ 11 <|.ext (.l 3) 1,t_ 1 <|.alloc [.slice 5 [], .slice 3 [], .int .i64 0, .slice 5 [], .slice 3 [], .int .i64 0, .int .i64 0, .int .i64 0, .int .i64 0, .int .i64 0, .int .i64 0, .int .i64 0, .int .i64 0, .int .i64 0, .int .i64 0, .int .i64 0, .str [], .slice 1 [], .int .i64 0, .int .i64 0, .int .i64 0, .str [], .str [], .slice 1 [], .int .i64 0, .int .i64 0, .int .i64 0, .slice 1 [], .slice 7 []],u_ <|.store (.v 1) 29 (.l 6) (.l 4),t_ 2 <|.mov (.l 5)]
def r326_2 : List Op := [f_ 13 <|.load (.v 1) (some 29) (.g 1),f_ 14 <|.call (.k 335) .no none [.l 0],f_ 12 <|.mov (.l 1),f_ 15 <|.ext (.l 2) 0,f_ 16 <|.ext (.l 2) 1,u_ <|.store (.v 1) 29 (.g 1) (.l 3),t_ 3 <|.mov (.l 4)]
def r326_3 : List Op := [f_ 18 <|.load (.v 1) (some 29) (.g 1),f_ 19 <|.build [.int .i64 0, .int .i64 0, .int .i64 0, .int .i64 0, .int .i64 0, .int .i64 0, .int .i64 0, .int .i64 0, .int .i64 0, .int .i64 0, .int .i64 0, .int .i64 0, .str [], .int .i64 0, .int .i64 0, .int .i64 0, .str [], .str [], .bool false, .str [], .int .i64 0, .int .i64 0, .int .i64 0, .str [], .int .i64 0, .int .i64 0, .int .i64 0, .int .i64 0, .int .i64 0, .bool false, .str [], .slice 2 [], .str [], .bool false, .slice 5 [], .slice 1 []] [(0, 1, .c (.int .i64 27)), (1, 1, .c (.int .i64 1)), (3, 1, .c (.int .i64 1)), (5, 1, .c (.int .i64 2))],f_ 20 <|.call (.k 340) .no none [.l 0, .l 1],f_ 17 <|.mov (.l 2),f_ 21 <|.ext (.l 3) 0,f_ 22 <|.ext (.l 3) 1,t_ 4 <|.alloc [.slice 5 [], .slice 3 [], .int .i64 0, .slice 5 [], .slice 3 [], .int .i64 0, .int .i64 0, .int .i64 0, .int .i64 0, .int .i64 0, .int .i64 0, .int .i64 0, .int .i64 0, .int .i64 0, .int .i64 0, .int .i64 0, .str [], .slice 1 [], .int .i64 0, .int .i64 0, .int .i64 0, .str [], .str [], .slice 1 [], .int .i64 0, .int .i64 0, .int .i64 0, .slice 1 [], .slice 7 []],u_ <|.store (.v 4) 29 (.l 6) (.l 4),f_ 5 <|.mov (.l 5)]
def r326_4 : List Op := [f_ 23 <|.mov (.g 2),f_ 24 <|.bin .eql (.l 0) (ci 0),f_ 25 <|.mov (.l 1),y_ 26 2 <|.mov (.g 3),y_ 27 2 <|.len false (.l 3),y_ 28 2 <|.bin .eql (.l 4) (ci 1),f_ 29 <|.pick (.l 2) (.l 5) (cb false),f_ 30 <|.mov (.l 6),y_ 31 7 <|.mov (.g 3),y_ 32 7 <|.iad 36 (.l 8) (ci 0),y_ 33 7 <|.fad (.l 9) 0,y_ 34 7 <|.load (.c) none (.l 10),y_ 35 7 <|.bin .eql (.l 11) (ci 26),f_ 36 <|.pick (.l 7) (.l 12) (cb false),f_ 37 <|.mov (.l 13),y_ 38 14 <|.mov (.g 3),y_ 39 14 <|.iad 36 (.l 15) (ci 0),y_ 40 14 <|.fad (.l 16) 2,y_ 41 14 <|.load (.c) none (.l 17),y_ 42 14 <|.bin .eql (.l 18) (ci 1),f_ 43 <|.pick (.l 14) (.l 19) (cb false),f_ 44 <|.mov (.l 20),y_ 45 21 <|.fad (.g 4) 0,y_ 46 21 <|.load (.v 4) none (.l 22),y_ 47 21 <|.len false (.l 23),y_ 48 21 <|.bin .eql (.l 24) (ci 2),f_ 49 <|.pick (.l 21) (.l 25) (cb false),f_ 50 <|.mov (.l 26),y_ 51 27 <|.load (.v 4) (some 29) (.g 4),y_ 52 27 <|.call (.k 328) .no none [.l 28],f_ 53 <|.pick (.l 27) (.l 29) (cb false),t_ 0 <|.mov (.l 30)]
def c326 : C := .seq (.region false r326_0) (.seq (.region false r326_1) (.seq (.region false r326_2) (.seq (.region false r326_3) (.seq (.region false r326_4) (.ret)))))
def F326 : F := ⟨0, [0, 1, 2, 3, 4], [.t 0], none, c326⟩
attribute [go_sem] r326_0 r326_1 r326_2 r326_3 r326_4 c326 F326
def r327_0 : List Op := [t_ 0 <|.alloc [.slice 5 [], .slice 3 [], .int .i64 0, .slice 5 [], .slice 3 [], .int .i64 0, .int .i64 0, .int .i64 0, .int .i64 0, .int .i64 0, .int .i64 0, .int .i64 0, .int .i64 0, .int .i64 0, .int .i64 0, .int .i64 0, .str [], .slice 1 [], .int .i64 0, .int .i64 0, .int .i64 0, .str [], .str [], .slice 1 [], .int .i64 0, .int .i64 0, .int .i64 0, .slice 1 [], .slice 7 []]]
def r327_1 : List Op := [f_ 3 <|.call (.k 154) .freeze none [],f_ 4 <|.mks 3 3 [.int .i64 0, .int .i64 0, .int .i64 0] [],f_ 5 <|.build [.slice 5 [], .nslice 3, .int .i64 0, .slice 5 [], .slice 3 [], .int .i64 0, .int .i64 0, .int .i64 0, .int .i64 0, .int .i64 0, .int .i64 0, .int .i64 0, .int .i64 0, .int .i64 0, .int .i64 0, .int .i64 0, .str [], .slice 1 [], .int .i64 0, .int .i64 0, .int .i64 0, .str [], .str [], .slice 1 [], .int .i64 0, .int .i64 0, .int .i64 0, .slice 1 [], .slice 7 []] [(0, 1, .l 0), (2, 1, .c (.int .i64 2)), (4, 1, .l 1)],t_ 1 <|.alloc [.slice 5 [], .nslice 3, .int .i64 0, .slice 5 [], .slice 3 [], .int .i64 0, .int .i64 0, .int .i64 0, .int .i64 0, .int .i64 0, .int .i64 0, .int .i64 0, .int .i64 0, .int .i64 0, .int .i64 0, .int .i64 0, .str [], .slice 1 [], .int .i64 0, .int .i64 0, .int .i64 0, .str [], .str [], .slice 1 [], .int .i64 0, .int .i64 0, .int .i64 0, .slice 1 [], .slice 7 []],u_ <|.store (.v 1) 29 (.l 3) (.l 2)]
def r327_2 : List Op := [t_ 2 <|.mov (ci 1)]
def r327_3 : List Op := [f_ 6 <|.mov (.g 2),t_ 7 <|.bin .leq (.l 0) (ci 3)]
def r327_4 : List Op := [f_ 10 <|.fad (.g 1) 1,f_ 11 <|.load (.v 1) none (.l 0),f_ 12 <|.mov (.g 2),f_ 13 <|.call (.k 345) .freeze none [.l 2],f_ 14 <|.build [.int .i64 0, .slice 1 [], .bool false] [(0, 1, .c (.int .i64 1)), (1, 1, .l 3), (2, 1, .c (.bool true))],f_ 15 <|.mks 3 1 [.int .i64 0, .slice 1 [], .bool false] [(0, .l 4)],f_ 16 <|.app 16 3 (.l 1) (.l 5),f_ 17 <|.fad (.g 1) 1,u_ <|.store (.v 1) 1 (.l 7) (.l 6)]
def r327_5 : List Op := [f_ 8 <|.mov (.g 2),f_ 9 <|.bin .add (.l 0) (ci 1),t_ 2 <|.mov (.l 1)]
def b327_0 : C := .seq (.seq (.region false r327_3) (.cond (.g 7) (.skip) (.exit 0))) (.seq (.block 1 (.region true r327_4)) (.region false r327_5))
def l327_0 : C := .loop [] [] [] [] b327_0
def r327_6 : List Op := [f_ 18 <|.load (.v 1) (some 29) (.g 1),u_ <|.store (.v 0) 29 (.g 0) (.l 0)]
def c327 : C := .seq (.region false r327_0) (.seq (.region true r327_1) (.seq (.seq (.region false r327_2) (.block 0 (l327_0))) (.seq (.region false r327_6) (.ret))))
def F327 : F := ⟨0, [0, 1, 2, 7], [.cell 0 (some 29)], none, c327⟩
attribute [go_sem] r327_0 r327_1 r327_2 r327_3 r327_4 r327_5 b327_0 r327_6 c327 F327
def r328_0 : List Op := [t_ 1 <|.box (.g 0),t_ 2 <|.mov (cb false)]
def r328_1 : List Op := [f_ 7 <|.fad (.g 1) 0,f_ 8 <|.load (.v 1) none (.l 0),f_ 9 <|.call (.k 141) .no none [.l 1],f_ 10 <|.un .not (.l 2),f_ 11 <|.mov (.l 3),n_ 12 4 <|.fad (.g 1) 3,n_ 13 4 <|.load (.v 1) none (.l 5),n_ 14 4 <|.call (.k 126) .no none [.l 6],n_ 15 4 <|.un .not (.l 7),f_ 16 <|.pick (.l 4) (cb true) (.l 8),f_ 17 <|.mov (.l 9),n_ 18 10 <|.fad (.g 1) 1,n_ 19 10 <|.load (.v 1) none (.l 11),n_ 20 10 <|.len false (.l 12),n_ 21 10 <|.bin .neq (.l 13) (ci 3),f_ 22 <|.pick (.l 10) (cb true) (.l 14),f_ 23 <|.mov (.l 15),n_ 24 16 <|.fad (.g 1) 4,n_ 25 16 <|.load (.v 1) none (.l 17),n_ 26 16 <|.len false (.l 18),n_ 27 16 <|.bin .neq (.l 19) (ci 3),f_ 28 <|.pick (.l 16) (cb true) (.l 20),f_ 29 <|.mov (.l 21),n_ 30 22 <|.fad (.g 1) 2,n_ 31 22 <|.load (.v 1) none (.l 23),n_ 32 22 <|.bin .lss (.l 24) (ci 2),f_ 33 <|.pick (.l 22) (cb true) (.l 25),f_ 34 <|.mov (.l 26),n_ 35 27 <|.fad (.g 1) 2,n_ 36 27 <|.load (.v 1) none (.l 28),n_ 37 27 <|.bin .gtr (.l 29) (ci 1099511627776),f_ 38 <|.pick (.l 27) (cb true) (.l 30),f_ 39 <|.mov (.l 31),n_ 40 32 <|.fad (.g 1) 5,n_ 41 32 <|.load (.v 1) (some 3) (.l 33),n_ 42 32 <|.call (.k 28) .no none [.l 34],n_ 43 32 <|.un .not (.l 35),f_ 44 <|.pick (.l 32) (cb true) (.l 36),f_ 45 <|.mov (.l 37),n_ 46 38 <|.fad (.g 1) 8,n_ 47 38 <|.load (.v 1) (some 20) (.l 39),n_ 48 38 <|.call (.k 346) .no none [.l 40],n_ 49 38 <|.un .not (.l 41),f_ 50 <|.pick (.l 38) (cb true) (.l 42),f_ 51 <|.mov (.l 43),n_ 52 44 <|.fad (.g 1) 28,n_ 53 44 <|.load (.v 1) none (.l 45),n_ 54 44 <|.len false (.l 46),n_ 55 44 <|.bin .gtr (.l 47) (ci 8),t_ 56 <|.pick (.l 44) (cb true) (.l 48)]
def r328_2 : List Op := [t_ 2 <|.mov (cb false)]
def r328_3 : List Op := [t_ 57 <|.mov (ci 0)]
def r328_4 : List Op := [t_ 58 <|.bin .lss (.g 57) (ci 3)]
def r328_5 : List Op := [f_ 59 <|.mov (.g 57),t_ 3 <|.mov (.l 0)]
def r328_6 : List Op := [f_ 60 <|.fad (.g 1) 1,f_ 61 <|.load (.v 1) none (.l 0),f_ 62 <|.mov (.g 3),f_ 63 <|.iad 3 (.l 1) (.l 2),f_ 64 <|.fad (.l 3) 0,f_ 65 <|.load (.c) none (.l 4),f_ 66 <|.mks 1 1 [.int .i64 0] [(0, .l 5)],f_ 67 <|.call (.k 347) .no none [.c (.int .i64 1), .l 6],f_ 68 <|.un .not (.l 7),f_ 69 <|.mov (.l 8),n_ 70 9 <|.fad (.g 1) 1,n_ 71 9 <|.load (.v 1) none (.l 10),n_ 72 9 <|.mov (.g 3),n_ 73 9 <|.iad 3 (.l 11) (.l 12),n_ 74 9 <|.fad (.l 13) 1,n_ 75 9 <|.load (.c) none (.l 14),n_ 76 9 <|.call (.k 348) .no none [.l 15],n_ 77 9 <|.un .not (.l 16),f_ 78 <|.pick (.l 9) (cb true) (.l 17),f_ 79 <|.mov (.l 18),n_ 80 19 <|.fad (.g 1) 4,n_ 81 19 <|.load (.v 1) none (.l 20),n_ 82 19 <|.mov (.g 3),n_ 83 19 <|.iad 3 (.l 21) (.l 22),n_ 84 19 <|.load (.c) (some 3) (.l 23),n_ 85 19 <|.call (.k 28) .no none [.l 24],n_ 86 19 <|.un .not (.l 25),t_ 87 <|.pick (.l 19) (cb true) (.l 26)]
def r328_7 : List Op := [t_ 2 <|.mov (cb false)]
def r328_8 : List Op := [f_ 88 <|.bin .add (.g 57) (ci 1),t_ 57 <|.mov (.l 0)]
def b328_0 : C := .seq (.region false r328_4) (.seq (.cond (.g 58) (.skip) (.exit 0)) (.seq (.block 1 (.seq (.region false r328_5) (.seq (.region false r328_6) (.cond (.g 87) (.seq (.region false r328_7) (.ret)) (.skip))))) (.region false r328_8)))
def l328_0 : C := .loop [] [] [] [] b328_0
def r328_9 : List Op := [t_ 4 <|.mov (ci 0)]
def r328_10 : List Op := [f_ 89 <|.fad (.g 1) 28,t_ 90 <|.load (.v 1) none (.l 0),t_ 91 <|.len false (.l 1),t_ 92 <|.mov (ci 0)]
def r328_11 : List Op := [t_ 93 <|.bin .lss (.g 92) (.g 91)]
def r328_12 : List Op := [f_ 94 <|.iad 7 (.g 90) (.g 92),f_ 95 <|.load (.c) (some 7) (.l 0),t_ 6 <|.alloc [.int .i64 0, .int .i64 0, .int .i64 0, .int .i64 0, .int .i64 0, .int .i64 0, .int .i64 0],u_ <|.store (.v 6) 7 (.l 2) (.l 1)]
def r328_13 : List Op := [f_ 96 <|.fad (.g 6) 0,f_ 97 <|.load (.v 6) none (.l 0),f_ 98 <|.mov (.g 4),f_ 99 <|.bin .leq (.l 1) (.l 2),f_ 100 <|.mov (.l 3),n_ 101 4 <|.fad (.g 6) 0,n_ 102 4 <|.load (.v 6) none (.l 5),n_ 103 4 <|.bin .gtr (.l 6) (ci 8),f_ 104 <|.pick (.l 4) (cb true) (.l 7),f_ 105 <|.mov (.l 8),n_ 106 9 <|.fad (.g 6) 1,n_ 107 9 <|.load (.v 6) none (.l 10),n_ 108 9 <|.fad (.g 6) 2,n_ 109 9 <|.load (.v 6) none (.l 12),n_ 110 9 <|.mks 1 2 [.int .i64 0] [(0, .l 11), (1, .l 13)],n_ 111 9 <|.call (.k 347) .no none [.c (.int .i64 0), .l 14],n_ 112 9 <|.un .not (.l 15),f_ 113 <|.pick (.l 9) (cb true) (.l 16),f_ 114 <|.mov (.l 17),n_ 115 18 <|.fad (.g 6) 3,n_ 116 18 <|.load (.v 6) (some 3) (.l 19),n_ 117 18 <|.call (.k 28) .no none [.l 20],n_ 118 18 <|.un .not (.l 21),f_ 119 <|.pick (.l 18) (cb true) (.l 22),f_ 120 <|.mov (.l 23),n_ 121 24 <|.fad (.g 6) 6,n_ 122 24 <|.load (.v 6) none (.l 25),n_ 123 24 <|.bin .lss (.l 26) (ci 0),f_ 124 <|.pick (.l 24) (cb true) (.l 27),f_ 125 <|.mov (.l 28),n_ 126 29 <|.fad (.g 6) 6,n_ 127 29 <|.load (.v 6) none (.l 30),n_ 128 29 <|.bin .gtr (.l 31) (ci 16),t_ 129 <|.pick (.l 29) (cb true) (.l 32)]
def r328_14 : List Op := [t_ 2 <|.mov (cb false)]
def r328_15 : List Op := [f_ 130 <|.fad (.g 6) 0,f_ 131 <|.load (.v 6) none (.l 0),t_ 4 <|.mov (.l 1)]
def r328_16 : List Op := [f_ 132 <|.bin .add (.g 92) (ci 1),t_ 92 <|.mov (.l 0)]
def b328_1 : C := .seq (.region false r328_11) (.seq (.cond (.g 93) (.skip) (.exit 2)) (.seq (.block 3 (.seq (.region false r328_12) (.seq (.seq (.region false r328_13) (.cond (.g 129) (.seq (.region false r328_14) (.ret)) (.skip))) (.region false r328_15)))) (.region false r328_16)))
def l328_1 : C := .loop [] [] [6] [] b328_1
def r328_17 : List Op := [t_ 2 <|.mov (cb true)]
def c328 : C := .seq (.region false r328_0) (.seq (.seq (.region false r328_1) (.cond (.g 56) (.seq (.region false r328_2) (.ret)) (.skip))) (.seq (.seq (.region false r328_3) (.block 0 (l328_0))) (.seq (.region false r328_9) (.seq (.seq (.region false r328_10) (.block 2 (l328_1))) (.seq (.region false r328_17) (.ret))))))
def F328 : F := ⟨1, [0, 1, 2, 3, 4, 6, 56, 57, 58, 87, 90, 91, 92, 93, 129], [.t 2], none, c328⟩
attribute [go_sem] r328_0 r328_1 r328_2 r328_3 r328_4 r328_5 r328_6 r328_7 r328_8 b328_0 r328_9 r328_10 r328_11 r328_12 r328_13 r328_14 r328_15 r328_16 b328_1 r328_17 c328 F328
def r331_0 : List Op := [t_ 2 <|.box (.g 0),t_ 3 <|.box (.g 1),t_ 4 <|.alloc [.slice 5 [], .slice 3 [], .int .i64 0, .slice 5 [], .slice 3 [], .int .i64 0, .int .i64 0, .int .i64 0, .int .i64 0, .int .i64 0, .int .i64 0, .int .i64 0, .int .i64 0, .int .i64 0, .int .i64 0, .int .i64 0, .str [], .slice 1 [], .int .i64 0, .int .i64 0, .int .i64 0, .str [], .str [], .slice 1 [], .int .i64 0, .int .i64 0, .int .i64 0, .slice 1 [], .slice 7 []],t_ 5 <|.mov (ci 0)]
def r331_1 : List Op := [f_ 11 <|.load (.v 2) (some 29) (.g 2),f_ 12 <|.call (.k 328) .no none [.l 0],f_ 13 <|.un .not (.l 1),f_ 14 <|.mov (.l 2),n_ 15 3 <|.fad (.g 3) 0,n_ 16 3 <|.load (.v 3) none (.l 4),n_ 17 3 <|.bin .lss (.l 5) (ci 1),f_ 18 <|.pick (.l 3) (cb true) (.l 6),f_ 19 <|.mov (.l 7),n_ 20 8 <|.fad (.g 3) 0,n_ 21 8 <|.load (.v 3) none (.l 9),n_ 22 8 <|.bin .gtr (.l 10) (ci 6),f_ 23 <|.pick (.l 8) (cb true) (.l 11),f_ 24 <|.mov (.l 12),n_ 25 13 <|.fad (.g 3) 0,n_ 26 13 <|.load (.v 3) none (.l 14),n_ 27 13 <|.bin .eql (.l 15) (ci 4),t_ 28 <|.pick (.l 13) (cb true) (.l 16)]
def r331_2 : List Op := [f_ 29 <|.load (.v 2) (some 29) (.g 2),u_ <|.store (.v 4) 29 (.g 4) (.l 0),t_ 5 <|.mov (ci 1)]
def r331_3 : List Op := [f_ 31 <|.fad (.g 3) 0,f_ 32 <|.load (.v 3) none (.l 0),f_ 33 <|.bin .eql (.l 1) (ci 6),t_ 30 <|.mov (.l 2)]
def r331_4 : List Op := [f_ 34 <|.load (.v 2) (some 29) (.g 2),f_ 35 <|.call (.k 352) .no none [.l 0],f_ 36 <|.ext (.l 1) 0,f_ 37 <|.ext (.l 1) 1,u_ <|.store (.v 4) 29 (.g 4) (.l 2),t_ 5 <|.mov (.l 3)]
def r331_5 : List Op := [f_ 39 <|.fad (.g 2) 8,f_ 40 <|.fad (.l 0) 0,f_ 41 <|.load (.v 2) none (.l 1),f_ 42 <|.bin .neq (.l 2) (ci 0),t_ 38 <|.mov (.l 3)]
def r331_6 : List Op := [f_ 43 <|.load (.v 2) (some 29) (.g 2),u_ <|.store (.v 4) 29 (.g 4) (.l 0),t_ 5 <|.mov (ci 11)]
def r331_7 : List Op := [f_ 45 <|.fad (.g 2) 2,f_ 46 <|.load (.v 2) none (.l 0),f_ 47 <|.bin .eql (.l 1) (ci 1099511627776),t_ 44 <|.mov (.l 2)]
def r331_8 : List Op := [f_ 48 <|.load (.v 2) (some 29) (.g 2),u_ <|.store (.v 4) 29 (.g 4) (.l 0),t_ 5 <|.mov (ci 6)]
def r331_9 : List Op := [f_ 49 <|.fad (.g 3) 0,f_ 50 <|.load (.v 3) none (.l 0),f_ 51 <|.fad (.g 2) 2,f_ 52 <|.load (.v 2) none (.l 2),f_ 53 <|.build [.int .i64 0, .int .i64 0, .int .i64 0, .int .i64 0, .int .i64 0, .int .i64 0, .int .i64 0, .int .i64 0, .str [], .slice 1 [], .int .i64 0, .int .i64 0, .int .i64 0, .str [], .str [], .slice 1 [], .int .i64 0, .int .i64 0, .int .i64 0, .slice 1 []] [(0, 1, .l 1), (1, 1, .c (.int .i64 1)), (2, 1, .l 3)],t_ 6 <|.alloc [.int .i64 0, .int .i64 0, .int .i64 0, .int .i64 0, .int .i64 0, .int .i64 0, .int .i64 0, .int .i64 0, .str [], .slice 1 [], .int .i64 0, .int .i64 0, .int .i64 0, .str [], .str [], .slice 1 [], .int .i64 0, .int .i64 0, .int .i64 0, .slice 1 []],u_ <|.store (.v 6) 20 (.l 5) (.l 4)]
def r331_10 : List Op := [f_ 54 <|.fad (.g 3) 0,f_ 55 <|.load (.v 3) none (.l 0),t_ 56 <|.bin .eql (.l 1) (ci 5)]
def r331_11 : List Op := [f_ 57 <|.fad (.g 3) 3,f_ 58 <|.load (.v 3) none (.l 0),f_ 59 <|.bin .lss (.l 1) (ci 1),f_ 60 <|.mov (.l 2),n_ 61 3 <|.fad (.g 3) 3,n_ 62 3 <|.load (.v 3) none (.l 4),n_ 63 3 <|.bin .gtr (.l 5) (ci 3),f_ 64 <|.pick (.l 3) (cb true) (.l 6),f_ 65 <|.mov (.l 7),n_ 66 8 <|.fad (.g 3) 5,n_ 67 8 <|.load (.v 3) none (.l 9),n_ 68 8 <|.call (.k 348) .no none [.l 10],n_ 69 8 <|.un .not (.l 11),t_ 70 <|.pick (.l 8) (cb true) (.l 12)]
def r331_12 : List Op := [f_ 71 <|.load (.v 2) (some 29) (.g 2),u_ <|.store (.v 4) 29 (.g 4) (.l 0),t_ 5 <|.mov (ci 1)]
def r331_13 : List Op := [f_ 72 <|.fad (.g 2) 1,f_ 73 <|.load (.v 2) none (.l 0),f_ 74 <|.fad (.g 3) 3,f_ 75 <|.load (.v 3) none (.l 2),f_ 76 <|.bin .sub (.l 3) (ci 1),f_ 77 <|.iad 3 (.l 1) (.l 4),f_ 78 <|.load (.c) (some 3) (.l 5),t_ 7 <|.alloc [.int .i64 0, .slice 1 [], .bool false],u_ <|.store (.v 7) 3 (.l 7) (.l 6)]
def r331_14 : List Op := [f_ 80 <|.fad (.g 7) 2,f_ 81 <|.load (.v 7) none (.l 0),f_ 82 <|.un .not (.l 1),t_ 79 <|.mov (.l 2)]
def r331_15 : List Op := [f_ 83 <|.load (.v 2) (some 29) (.g 2),u_ <|.store (.v 4) 29 (.g 4) (.l 0),t_ 5 <|.mov (ci 11)]
def r331_16 : List Op := [f_ 85 <|.fad (.g 7) 1,f_ 86 <|.load (.v 7) none (.l 0),f_ 87 <|.fad (.g 3) 5,f_ 88 <|.load (.v 3) none (.l 2),f_ 89 <|.iad 1 (.l 3) (ci 0),f_ 90 <|.load (.c) none (.l 4),f_ 91 <|.call (.k 65) .no none [.l 1, .l 5],f_ 92 <|.un .not (.l 6),t_ 84 <|.mov (.l 7)]
def r331_17 : List Op := [f_ 93 <|.load (.v 2) (some 29) (.g 2),u_ <|.store (.v 4) 29 (.g 4) (.l 0),t_ 5 <|.mov (ci 9)]
def r331_18 : List Op := [f_ 94 <|.fad (.g 3) 3,f_ 95 <|.load (.v 3) none (.l 0),f_ 96 <|.fad (.g 3) 5,f_ 97 <|.load (.v 3) none (.l 2),f_ 98 <|.call (.k 69) .no none [.l 3],f_ 99 <|.fad (.g 6) 5,u_ <|.store (.v 6) 1 (.l 5) (.l 1),f_ 100 <|.fad (.g 6) 19,u_ <|.store (.v 6) 1 (.l 7) (.l 4)]
def r331_19 : List Op := [t_ 8 <|.mov (ci 0)]
def r331_20 : List Op := [f_ 101 <|.fad (.g 3) 0,t_ 102 <|.load (.v 3) none (.l 0)]
def r331_21 : List Op := [f_ 104 <|.bin .eql (.g 102) (ci 1),t_ 103 <|.mov (.l 0)]
def r331_22 : List Op := [f_ 106 <|.fad (.g 2) 0,f_ 107 <|.load (.v 2) none (.l 0),f_ 108 <|.fad (.g 3) 1,f_ 109 <|.load (.v 3) none (.l 2),f_ 110 <|.fad (.g 3) 3,f_ 111 <|.load (.v 3) none (.l 4),f_ 112 <|.fad (.g 2) 2,f_ 113 <|.load (.v 2) none (.l 6),f_ 114 <|.call (.k 159) .no none [.l 1, .l 3, .l 5, .l 7],f_ 105 <|.mov (.l 8),f_ 115 <|.ext (.l 9) 0,f_ 116 <|.ext (.l 9) 1,t_ 8 <|.mov (.l 11)]
def r331_23 : List Op := [f_ 117 <|.fad (.g 3) 3,f_ 118 <|.load (.v 3) none (.l 0),f_ 119 <|.fad (.g 6) 6,u_ <|.store (.v 6) 1 (.l 2) (.l 1)]
def r331_24 : List Op := [f_ 121 <|.bin .eql (.g 102) (ci 2),t_ 120 <|.mov (.l 0)]
def r331_25 : List Op := [f_ 123 <|.fad (.g 2) 0,f_ 124 <|.load (.v 2) none (.l 0),f_ 125 <|.fad (.g 3) 1,f_ 126 <|.load (.v 3) none (.l 2),f_ 127 <|.fad (.g 3) 4,f_ 128 <|.load (.v 3) none (.l 4),f_ 129 <|.fad (.g 2) 2,f_ 130 <|.load (.v 2) none (.l 6),f_ 131 <|.fad (.g 2) 2,f_ 132 <|.load (.v 2) none (.l 8),f_ 133 <|.call (.k 156) .no none [.l 1, .l 3, .l 5, .l 7, .l 9],f_ 122 <|.mov (.l 10),f_ 134 <|.ext (.l 11) 0,f_ 135 <|.ext (.l 11) 1,t_ 8 <|.mov (.l 13)]
def r331_26 : List Op := [f_ 136 <|.fad (.g 3) 4,f_ 137 <|.load (.v 3) none (.l 0),f_ 138 <|.fad (.g 2) 2,f_ 139 <|.load (.v 2) none (.l 2),f_ 140 <|.fad (.g 6) 8,u_ <|.store (.v 6) 1 (.l 4) (.l 1),f_ 141 <|.fad (.g 6) 4,u_ <|.store (.v 6) 1 (.l 6) (.l 3)]
def r331_27 : List Op := [f_ 143 <|.bin .eql (.g 102) (ci 3),t_ 142 <|.mov (.l 0)]
def r331_28 : List Op := [f_ 145 <|.fad (.g 2) 0,f_ 146 <|.load (.v 2) none (.l 0),f_ 147 <|.fad (.g 3) 1,f_ 148 <|.load (.v 3) none (.l 2),f_ 149 <|.fad (.g 3) 2,f_ 150 <|.load (.v 3) none (.l 4),f_ 151 <|.fad (.g 2) 2,f_ 152 <|.load (.v 2) none (.l 6),f_ 153 <|.call (.k 157) .no none [.l 1, .l 3, .l 5, .l 7],f_ 144 <|.mov (.l 8),f_ 154 <|.ext (.l 9) 0,f_ 155 <|.ext (.l 9) 1,t_ 8 <|.mov (.l 11)]
def r331_29 : List Op := [f_ 156 <|.fad (.g 3) 2,f_ 157 <|.load (.v 3) none (.l 0),f_ 158 <|.fad (.g 6) 4,u_ <|.store (.v 6) 1 (.l 2) (.l 1)]
def r331_30 : List Op := [f_ 159 <|.mov (.g 8),t_ 160 <|.bin .neq (.l 0) (ci 0)]
def r331_31 : List Op := [f_ 161 <|.load (.v 2) (some 29) (.g 2),f_ 162 <|.mov (.g 8),u_ <|.store (.v 4) 29 (.g 4) (.l 0),t_ 5 <|.mov (.l 1)]
def r331_32 : List Op := [f_ 164 <|.fad (.g 2) 0,f_ 165 <|.load (.v 2) none (.l 0),f_ 166 <|.fad (.g 3) 1,f_ 167 <|.load (.v 3) none (.l 2),f_ 168 <|.call (.k 148) .no none [.l 1, .l 3],f_ 163 <|.mov (.l 4),f_ 169 <|.ext (.l 5) 0,f_ 170 <|.ext (.l 5) 1,t_ 9 <|.alloc [.str [], .str [], .int .i64 0, .int .i64 0, .int .i64 0],u_ <|.store (.v 9) 5 (.l 8) (.l 6),f_ 10 <|.mov (.l 7)]
def r331_33 : List Op := [f_ 171 <|.fad (.g 3) 1,f_ 172 <|.load (.v 3) none (.l 0),f_ 173 <|.fad (.g 9) 3,f_ 174 <|.load (.v 9) none (.l 2),f_ 175 <|.fad (.g 9) 4,f_ 176 <|.load (.v 9) none (.l 4),f_ 177 <|.fad (.g 6) 3,u_ <|.store (.v 6) 1 (.l 6) (.l 1),f_ 178 <|.fad (.g 6) 5,u_ <|.store (.v 6) 1 (.l 8) (.l 3),f_ 179 <|.fad (.g 6) 7,u_ <|.store (.v 6) 1 (.l 10) (.l 5)]
def r331_34 : List Op := [f_ 180 <|.load (.v 6) (some 20) (.g 6),f_ 181 <|.fad (.g 2) 8,u_ <|.store (.v 2) 20 (.l 1) (.l 0)]
def r331_35 : List Op := [f_ 182 <|.fad (.g 2) 2,f_ 183 <|.load (.v 2) none (.l 0),f_ 184 <|.bin .add (.l 1) (ci 1),f_ 185 <|.fad (.g 2) 2,u_ <|.store (.v 2) 1 (.l 3) (.l 2)]
def r331_36 : List Op := [f_ 186 <|.load (.v 2) (some 29) (.g 2),u_ <|.store (.v 4) 29 (.g 4) (.l 0),t_ 5 <|.mov (ci 0)]
def c331 : C := .seq (.region false r331_0) (.seq (.seq (.region false r331_1) (.cond (.g 28) (.seq (.region false r331_2) (.ret)) (.skip))) (.seq (.block 0 (.seq (.region false r331_3) (.cond (.g 30) (.seq (.region false r331_4) (.ret)) (.seq (.region false r331_5) (.cond (.g 38) (.seq (.region false r331_6) (.ret)) (.seq (.region false r331_7) (.cond (.g 44) (.seq (.region false r331_8) (.ret)) (.skip)))))))) (.seq (.region false r331_9) (.seq (.seq (.region false r331_10) (.cond (.g 56) (.seq (.seq (.region false r331_11) (.cond (.g 70) (.seq (.region false r331_12) (.ret)) (.skip))) (.seq (.seq (.region false r331_13) (.block 1 (.seq (.region false r331_14) (.cond (.g 79) (.seq (.region false r331_15) (.ret)) (.seq (.region true r331_16) (.cond (.g 84) (.seq (.region false r331_17) (.ret)) (.skip))))))) (.region true r331_18))) (.seq (.region false r331_19) (.seq (.seq (.region false r331_20) (.block 2 (.seq (.region false r331_21) (.cond (.g 103) (.seq (.region false r331_22) (.region false r331_23)) (.seq (.region false r331_24) (.cond (.g 120) (.seq (.region false r331_25) (.region true r331_26)) (.seq (.region false r331_27) (.cond (.g 142) (.seq (.region false r331_28) (.region false r331_29)) (.skip))))))))) (.seq (.seq (.region false r331_30) (.cond (.g 160) (.seq (.region false r331_31) (.ret)) (.skip))) (.seq (.region false r331_32) (.region true r331_33))))))) (.seq (.region false r331_34) (.seq (.region false r331_35) (.seq (.region false r331_36) (.ret))))))))
def F331 : F := ⟨2, [0, 1, 2, 3, 4, 5, 6, 7, 8, 9, 28, 30, 38, 44, 56, 70, 79, 84, 102, 103, 120, 142, 160], [.cell 4 (some 29), .t 5], none, c331⟩
attribute [go_sem] r331_0 r331_1 r331_2 r331_3 r331_4 r331_5 r331_6 r331_7 r331_8 r331_9 r331_10 r331_11 r331_12 r331_13 r331_14 r331_15 r331_16 r331_17 r331_18 r331_19 r331_20 r331_21 r331_22 r331_23 r331_24 r331_25 r331_26 r331_27 r331_28 r331_29 r331_30 r331_31 r331_32 r331_33 r331_34 r331_35 r331_36 c331 F331
def r335_0 : List Op := [t_ 1 <|.box (.g 0),t_ 2 <|.alloc [.slice 5 [], .slice 3 [], .int .i64 0, .slice 5 [], .slice 3 [], .int .i64 0, .int .i64 0, .int .i64 0, .int .i64 0, .int .i64 0, .int .i64 0, .int .i64 0, .int .i64 0, .int .i64 0, .int .i64 0, .int .i64 0, .str [], .slice 1 [], .int .i64 0, .int .i64 0, .int .i64 0, .str [], .str [], .slice 1 [], .int .i64 0, .int .i64 0, .int .i64 0, .slice 1 [], .slice 7 []],t_ 3 <|.mov (.c (.slice 36 []))]
def r335_1 : List Op := [f_ 10 <|.load (.v 1) (some 29) (.g 1),f_ 11 <|.call (.k 328) .no none [.l 0],t_ 12 <|.un .not (.l 1)]
def r335_2 : List Op := [f_ 13 <|.load (.v 1) (some 29) (.g 1),u_ <|.store (.v 2) 29 (.g 2) (.l 0),t_ 3 <|.mov (.c (.slice 36 []))]
def r335_3 : List Op := [f_ 14 <|.fad (.g 1) 3,f_ 15 <|.load (.v 1) none (.l 0),f_ 16 <|.call (.k 112) .no none [.l 1],f_ 17 <|.fad (.g 1) 3,u_ <|.store (.v 1) 1 (.l 3) (.l 2)]
def r335_4 : List Op := [f_ 18 <|.load (.v 1) (some 29) (.g 1),f_ 19 <|.call (.k 355) .no (some 0) [.l 0],t_ 4 <|.mov (.l 1)]
def r335_5 : List Op := [f_ 20 <|.fad (.g 1) 8,f_ 21 <|.fad (.l 0) 0,f_ 22 <|.load (.v 1) none (.l 1),t_ 23 <|.bin .eql (.l 2) (ci 0)]
def r335_6 : List Op := [f_ 25 <|.fad (.g 1) 3,f_ 26 <|.load (.v 1) none (.l 0),f_ 27 <|.call (.k 113) .no none [.l 1],f_ 24 <|.mov (.l 2),f_ 28 <|.ext (.l 3) 0,f_ 29 <|.ext (.l 3) 1,t_ 5 <|.alloc [.int .i64 0, .int .i64 0, .int .i64 0],u_ <|.store (.v 5) 3 (.l 6) (.l 4),t_ 6 <|.mov (.l 5)]
def r335_7 : List Op := [f_ 30 <|.mov (.g 6),t_ 31 <|.un .not (.l 0)]
def r335_8 : List Op := [f_ 32 <|.fad (.g 1) 4,f_ 33 <|.load (.v 1) none (.l 0),f_ 34 <|.call (.k 356) .no none [.l 1, .f 15],u_ <|.store (.v 5) 3 (.g 5) (.l 2)]
def r335_9 : List Op := [t_ 7 <|.mov (ci 1)]
def r335_10 : List Op := [f_ 35 <|.mov (.g 7),t_ 36 <|.bin .leq (.l 0) (ci 3)]
def r335_11 : List Op := [f_ 39 <|.mov (.g 4),f_ 40 <|.load (.v 1) (some 29) (.g 1),f_ 41 <|.mov (.g 7),f_ 42 <|.call (.k 357) .no none [.l 1, .l 2],f_ 43 <|.mov (.g 7),f_ 44 <|.load (.v 5) (some 3) (.g 5),f_ 45 <|.build [.int .i64 0, .int .i64 0, .int .i64 0, .int .i64 0, .int .i64 0, .int .i64 0, .int .i64 0, .int .i64 0, .int .i64 0, .int .i64 0, .int .i64 0, .int .i64 0, .str [], .int .i64 0, .int .i64 0, .int .i64 0, .str [], .str [], .bool false, .str [], .int .i64 0, .int .i64 0, .int .i64 0, .str [], .int .i64 0, .int .i64 0, .int .i64 0, .int .i64 0, .int .i64 0, .bool false, .str [], .slice 2 [], .str [], .bool false, .slice 5 [], .slice 1 []] [(0, 1, .c (.int .i64 30)), (2, 1, .l 3), (7, 1, .l 4), (9, 3, .l 5)],f_ 46 <|.mks 36 1 [.int .i64 0, .int .i64 0, .int .i64 0, .int .i64 0, .int .i64 0, .int .i64 0, .int .i64 0, .int .i64 0, .int .i64 0, .int .i64 0, .int .i64 0, .int .i64 0, .str [], .int .i64 0, .int .i64 0, .int .i64 0, .str [], .str [], .bool false, .str [], .int .i64 0, .int .i64 0, .int .i64 0, .str [], .int .i64 0, .int .i64 0, .int .i64 0, .int .i64 0, .int .i64 0, .bool false, .str [], .slice 2 [], .str [], .bool false, .slice 5 [], .slice 1 []] [(0, .l 6)],f_ 47 <|.app 19 36 (.l 0) (.l 7),t_ 4 <|.mov (.l 8)]
def r335_12 : List Op := [f_ 48 <|.fad (.g 1) 5,f_ 49 <|.load (.v 1) (some 3) (.l 0),f_ 50 <|.build [.int .i64 0, .int .i64 0, .int .i64 0] [],t_ 51 <|.eqa true [.i, .i, .i] (.l 1) (.l 2)]
def r335_13 : List Op := [f_ 52 <|.mov (.g 4),f_ 53 <|.load (.v 1) (some 29) (.g 1),f_ 54 <|.mov (.g 7),f_ 55 <|.call (.k 357) .no none [.l 1, .l 2],f_ 56 <|.mov (.g 7),f_ 57 <|.fad (.g 1) 5,f_ 58 <|.load (.v 1) (some 3) (.l 5),f_ 59 <|.build [.int .i64 0, .int .i64 0, .int .i64 0, .int .i64 0, .int .i64 0, .int .i64 0, .int .i64 0, .int .i64 0, .int .i64 0, .int .i64 0, .int .i64 0, .int .i64 0, .str [], .int .i64 0, .int .i64 0, .int .i64 0, .str [], .str [], .bool false, .str [], .int .i64 0, .int .i64 0, .int .i64 0, .str [], .int .i64 0, .int .i64 0, .int .i64 0, .int .i64 0, .int .i64 0, .bool false, .str [], .slice 2 [], .str [], .bool false, .slice 5 [], .slice 1 []] [(0, 1, .c (.int .i64 32)), (2, 1, .l 3), (7, 1, .l 4), (9, 3, .l 6)],f_ 60 <|.mks 36 1 [.int .i64 0, .int .i64 0, .int .i64 0, .int .i64 0, .int .i64 0, .int .i64 0, .int .i64 0, .int .i64 0, .int .i64 0, .int .i64 0, .int .i64 0, .int .i64 0, .str [], .int .i64 0, .int .i64 0, .int .i64 0, .str [], .str [], .bool false, .str [], .int .i64 0, .int .i64 0, .int .i64 0, .str [], .int .i64 0, .int .i64 0, .int .i64 0, .int .i64 0, .int .i64 0, .bool false, .str [], .slice 2 [], .str [], .bool false, .slice 5 [], .slice 1 []] [(0, .l 7)],f_ 61 <|.app 19 36 (.l 0) (.l 8),t_ 4 <|.mov (.l 9)]
def r335_14 : List Op := [f_ 37 <|.mov (.g 7),f_ 38 <|.bin .add (.l 0) (ci 1),t_ 7 <|.mov (.l 1)]
def b335_0 : C := .seq (.seq (.region false r335_10) (.cond (.g 36) (.skip) (.exit 0))) (.seq (.block 1 (.seq (.region true r335_11) (.seq (.region false r335_12) (.cond (.g 51) (.region true r335_13) (.skip))))) (.region false r335_14))
def l335_0 : C := .loop [] [] [] [] b335_0
def r335_15 : List Op := [f_ 62 <|.fad (.g 1) 1,t_ 63 <|.load (.v 1) none (.l 0),t_ 64 <|.len false (.l 1),t_ 65 <|.mov (ci 0)]
def r335_16 : List Op := [t_ 66 <|.bin .lss (.g 65) (.g 64)]
def r335_17 : List Op := [f_ 67 <|.mov (.g 65),f_ 68 <|.iad 3 (.g 63) (.g 65),f_ 69 <|.load (.c) (some 3) (.l 1),t_ 9 <|.alloc [.int .i64 0, .slice 1 [], .bool false],t_ 8 <|.mov (.l 0),u_ <|.store (.v 9) 3 (.l 3) (.l 2)]
def r335_18 : List Op := [f_ 70 <|.fad (.g 9) 2,f_ 71 <|.load (.v 9) none (.l 0),t_ 72 <|.un .not (.l 1)]
def r335_19 : List Op := [f_ 73 <|.mov (.g 4),f_ 74 <|.fad (.g 9) 1,f_ 75 <|.load (.v 9) none (.l 1),f_ 76 <|.iad 1 (.l 2) (ci 0),f_ 77 <|.load (.c) none (.l 3),f_ 78 <|.mov (.g 8),f_ 79 <|.bin .add (.l 5) (ci 1),f_ 80 <|.fad (.g 9) 0,f_ 81 <|.load (.v 9) none (.l 7),f_ 82 <|.fad (.g 9) 1,f_ 83 <|.load (.v 9) none (.l 9),f_ 84 <|.call (.k 69) .no none [.l 10],f_ 85 <|.build [.int .i64 0, .int .i64 0, .int .i64 0, .int .i64 0, .int .i64 0, .int .i64 0, .int .i64 0, .int .i64 0, .int .i64 0, .int .i64 0, .int .i64 0, .int .i64 0, .str [], .int .i64 0, .int .i64 0, .int .i64 0, .str [], .str [], .bool false, .str [], .int .i64 0, .int .i64 0, .int .i64 0, .str [], .int .i64 0, .int .i64 0, .int .i64 0, .int .i64 0, .int .i64 0, .bool false, .str [], .slice 2 [], .str [], .bool false, .slice 5 [], .slice 1 []] [(0, 1, .c (.int .i64 33)), (2, 1, .l 4), (7, 1, .l 6), (4, 1, .l 8), (35, 1, .l 11)],f_ 86 <|.mks 36 1 [.int .i64 0, .int .i64 0, .int .i64 0, .int .i64 0, .int .i64 0, .int .i64 0, .int .i64 0, .int .i64 0, .int .i64 0, .int .i64 0, .int .i64 0, .int .i64 0, .str [], .int .i64 0, .int .i64 0, .int .i64 0, .str [], .str [], .bool false, .str [], .int .i64 0, .int .i64 0, .int .i64 0, .str [], .int .i64 0, .int .i64 0, .int .i64 0, .int .i64 0, .int .i64 0, .bool false, .str [], .slice 2 [], .str [], .bool false, .slice 5 [], .slice 1 []] [(0, .l 12)],f_ 87 <|.app 19 36 (.l 0) (.l 13),t_ 4 <|.mov (.l 14)]
def r335_20 : List Op := [f_ 88 <|.bin .add (.g 65) (ci 1),t_ 65 <|.mov (.l 0)]
def b335_1 : C := .seq (.region false r335_16) (.seq (.cond (.g 66) (.skip) (.exit 2)) (.seq (.block 3 (.seq (.region false r335_17) (.seq (.region false r335_18) (.cond (.g 72) (.region true r335_19) (.skip))))) (.region false r335_20)))
def l335_1 : C := .loop [] [] [9] [] b335_1
def r335_21 : List Op := [f_ 89 <|.load (.v 1) (some 29) (.g 1),f_ 90 <|.mov (.g 4),u_ <|.store (.v 2) 29 (.g 2) (.l 0),t_ 3 <|.mov (.l 1)]
def c335 : C := .seq (.region false r335_0) (.seq (.seq (.region false r335_1) (.cond (.g 12) (.seq (.region false r335_2) (.ret)) (.skip))) (.seq (.region false r335_3) (.seq (.region false r335_4) (.seq (.seq (.region false r335_5) (.cond (.g 23) (.seq (.region false r335_6) (.seq (.seq (.region false r335_7) (.cond (.g 31) (.region false r335_8) (.skip))) (.seq (.region false r335_9) (.block 0 (l335_0))))) (.skip))) (.seq (.seq (.region false r335_15) (.block 2 (l335_1))) (.seq (.region false r335_21) (.ret)))))))
def F335 : F := ⟨1, [0, 1, 2, 3, 4, 5, 6, 7, 8, 9, 12, 23, 31, 36, 51, 63, 64, 65, 66, 72], [.cell 2 (some 29), .t 3], none, c335⟩
attribute [go_sem] r335_0 r335_1 r335_2 r335_3 r335_4 r335_5 r335_6 r335_7 r335_8 r335_9 r335_10 r335_11 r335_12 r335_13 r335_14 b335_0 r335_15 r335_16 r335_17 r335_18 r335_19 r335_20 b335_1 r335_21 c335 F335
def r339_0 : List Op := [t_ 1 <|.box (.g 0),t_ 2 <|.mov (cb false)]
def r339_1 : List Op := [f_ 3 <|.fad (.g 1) 25,f_ 4 <|.fad (.l 0) 6,f_ 5 <|.load (.v 1) none (.l 1),f_ 6 <|.len false (.l 2),f_ 7 <|.bin .leq (.l 3) (ci 40),f_ 8 <|.mov (.l 4),y_ 9 5 <|.fad (.g 1) 34,y_ 10 5 <|.load (.v 1) none (.l 6),y_ 11 5 <|.len false (.l 7),y_ 12 5 <|.bin .leq (.l 8) (ci 40),f_ 13 <|.pick (.l 5) (.l 9) (cb false),f_ 14 <|.mov (.l 10),y_ 15 11 <|.fad (.g 1) 35,y_ 16 11 <|.load (.v 1) none (.l 12),y_ 17 11 <|.len false (.l 13),y_ 18 11 <|.bin .leq (.l 14) (ci 40),f_ 19 <|.pick (.l 11) (.l 15) (cb false),f_ 20 <|.mov (.l 16),y_ 21 17 <|.fad (.g 1) 12,y_ 22 17 <|.load (.v 1) none (.l 18),y_ 23 17 <|.len true (.l 19),y_ 24 17 <|.bin .leq (.l 20) (ci 8192),f_ 25 <|.pick (.l 17) (.l 21) (cb false),t_ 2 <|.mov (.l 22)]
def c339 : C := .seq (.region false r339_0) (.seq (.region false r339_1) (.ret))
def F339 : F := ⟨1, [0, 1, 2], [.t 2], none, c339⟩
attribute [go_sem] r339_0 r339_1 c339 F339
def r340_0 : List Op := [t_ 2 <|.box (.g 0),t_ 3 <|.box (.g 1),t_ 4 <|.alloc [.slice 5 [], .slice 3 [], .int .i64 0, .slice 5 [], .slice 3 [], .int .i64 0, .int .i64 0, .int .i64 0, .int .i64 0, .int .i64 0, .int .i64 0, .int .i64 0, .int .i64 0, .int .i64 0, .int .i64 0, .int .i64 0, .str [], .slice 1 [], .int .i64 0, .int .i64 0, .int .i64 0, .str [], .str [], .slice 1 [], .int .i64 0, .int .i64 0, .int .i64 0, .slice 1 [], .slice 7 []],t_ 5 <|.mov (.c (.slice 36 []))]
def r340_1 : List Op := [f_ 13 <|.load (.v 2) (some 29) (.g 2),f_ 14 <|.call (.k 328) .borrow none [.l 0],f_ 15 <|.un .not (.l 1),f_ 16 <|.mov (.l 2),n_ 17 3 <|.load (.v 3) (some 36) (.g 3),n_ 18 3 <|.call (.k 341) .borrow none [.l 4],n_ 19 3 <|.un .not (.l 5),f_ 20 <|.pick (.l 3) (cb true) (.l 6),f_ 21 <|.mov (.l 7),n_ 22 8 <|.fad (.g 3) 2,n_ 23 8 <|.load (.v 3) none (.l 9),n_ 24 8 <|.bin .neq (.l 10) (ci 0),t_ 25 <|.pick (.l 8) (cb true) (.l 11)]
def r340_2 : List Op := [f_ 26 <|.load (.v 2) (some 29) (.g 2),u_ <|.store (.v 4) 29 (.g 4) (.l 0),t_ 5 <|.mko 36]
def r340_3 : List Op := [f_ 27 <|.fad (.g 3) 7,f_ 28 <|.load (.v 3) none (.l 0),f_ 29 <|.bin .geq (.l 1) (ci 1),f_ 30 <|.mov (.l 2),y_ 31 3 <|.fad (.g 3) 7,y_ 32 3 <|.load (.v 3) none (.l 4),y_ 33 3 <|.bin .leq (.l 5) (ci 3),f_ 34 <|.pick (.l 3) (.l 6) (cb false),t_ 6 <|.mov (.l 7)]
def r340_4 : List Op := [f_ 35 <|.fad (.g 3) 0,t_ 36 <|.load (.v 3) none (.l 0)]
def r340_5 : List Op := [f_ 66 <|.bin .eql (.g 36) (ci 3),t_ 65 <|.mov (.l 0)]
def r340_6 : List Op := [f_ 67 <|.fad (.g 3) 1,f_ 68 <|.load (.v 3) none (.l 0),f_ 69 <|.fad (.g 2) 0,f_ 70 <|.load (.v 2) none (.l 2),f_ 71 <|.call (.k 179) .freeze none [.l 3],f_ 72 <|.build [.int .i64 0, .int .i64 0, .int .i64 0, .int .i64 0, .int .i64 0, .int .i64 0, .int .i64 0, .int .i64 0, .int .i64 0, .int .i64 0, .int .i64 0, .int .i64 0, .str [], .int .i64 0, .int .i64 0, .int .i64 0, .str [], .str [], .bool false, .str [], .int .i64 0, .int .i64 0, .int .i64 0, .str [], .int .i64 0, .int .i64 0, .int .i64 0, .int .i64 0, .int .i64 0, .bool false, .str [], .slice 2 [], .str [], .bool false, .slice 5 [], .nslice 1] [(0, 1, .c (.int .i64 4)), (2, 1, .l 1), (34, 1, .l 4)],t_ 7 <|.alloc [.int .i64 0, .int .i64 0, .int .i64 0, .int .i64 0, .int .i64 0, .int .i64 0, .int .i64 0, .int .i64 0, .int .i64 0, .int .i64 0, .int .i64 0, .int .i64 0, .str [], .int .i64 0, .int .i64 0, .int .i64 0, .str [], .str [], .bool false, .str [], .int .i64 0, .int .i64 0, .int .i64 0, .str [], .int .i64 0, .int .i64 0, .int .i64 0, .int .i64 0, .int .i64 0, .bool false, .str [], .slice 2 [], .str [], .bool false, .slice 5 [], .nslice 1],u_ <|.store (.v 7) 36 (.l 6) (.l 5)]
def r340_7 : List Op := [t_ 8 <|.mov (ci 1)]
def r340_8 : List Op := [f_ 73 <|.mov (.g 8),t_ 74 <|.bin .leq (.l 0) (ci 3)]
def r340_9 : List Op := [f_ 77 <|.fad (.g 7) 35,f_ 78 <|.load (.v 7) none (.l 0),f_ 79 <|.load (.v 2) (some 29) (.g 2),f_ 80 <|.mov (.g 8),f_ 81 <|.call (.k 357) .borrow none [.l 2, .l 3],f_ 82 <|.mks 1 1 [.int .i64 0] [(0, .l 4)],f_ 83 <|.app 83 1 (.l 1) (.l 5),f_ 84 <|.fad (.g 7) 35,u_ <|.store (.v 7) 1 (.l 7) (.l 6)]
def r340_10 : List Op := [f_ 75 <|.mov (.g 8),f_ 76 <|.bin .add (.l 0) (ci 1),t_ 8 <|.mov (.l 1)]
def b340_0 : C := .seq (.seq (.region false r340_8) (.cond (.g 74) (.skip) (.exit 1))) (.seq (.block 2 (.region true r340_9)) (.region false r340_10))
def l340_0 : C := .loop [] [] [] [] b340_0
def r340_11 : List Op := [f_ 85 <|.load (.v 2) (some 29) (.g 2),f_ 86 <|.ldf 83 7 36 (.g 7),f_ 87 <|.mkb 36 1 [.int .i64 0, .int .i64 0, .int .i64 0, .int .i64 0, .int .i64 0, .int .i64 0, .int .i64 0, .int .i64 0, .int .i64 0, .int .i64 0, .int .i64 0, .int .i64 0, .str [], .int .i64 0, .int .i64 0, .int .i64 0, .str [], .str [], .bool false, .str [], .int .i64 0, .int .i64 0, .int .i64 0, .str [], .int .i64 0, .int .i64 0, .int .i64 0, .int .i64 0, .int .i64 0, .bool false, .str [], .slice 2 [], .str [], .bool false, .slice 5 [], .slice 1 []] [(0, .l 1)],u_ <|.store (.v 4) 29 (.g 4) (.l 0),t_ 5 <|.mov (.l 2)]
def r340_12 : List Op := [f_ 89 <|.bin .eql (.g 36) (ci 7),t_ 88 <|.mov (.l 0)]
def r340_13 : List Op := [f_ 91 <|.fad (.g 2) 3,f_ 92 <|.load (.v 2) none (.l 0),f_ 93 <|.fad (.g 3) 6,f_ 94 <|.load (.v 3) none (.l 2),f_ 95 <|.call (.k 121) .freeze none [.l 1, .l 3],f_ 90 <|.mov (.l 4),f_ 96 <|.ext (.l 5) 0,f_ 97 <|.ext (.l 5) 1,t_ 9 <|.mov (.l 6),t_ 10 <|.mov (.l 7)]
def r340_14 : List Op := [f_ 98 <|.mov (.g 10),t_ 99 <|.bin .eql (.l 0) (ci 0)]
def r340_15 : List Op := [f_ 100 <|.mov (.g 9),f_ 101 <|.fad (.g 2) 3,u_ <|.store (.v 2) 1 (.l 1) (.l 0)]
def r340_16 : List Op := [f_ 103 <|.bin .eql (.g 36) (ci 31),t_ 102 <|.mov (.l 0)]
def r340_17 : List Op := [t_ 104 <|.mov (.g 6)]
def r340_18 : List Op := [f_ 105 <|.load (.v 2) (some 29) (.g 2),f_ 106 <|.load (.v 3) (some 36) (.g 3),f_ 107 <|.call (.k 361) .freeze none [.l 0, .l 1],u_ <|.store (.v 4) 29 (.g 4) (.l 2),t_ 5 <|.mko 36]
def r340_19 : List Op := [f_ 109 <|.bin .eql (.g 36) (ci 34),t_ 108 <|.mov (.l 0)]
def r340_20 : List Op := [t_ 110 <|.mov (.g 6)]
def r340_21 : List Op := [f_ 111 <|.load (.v 2) (some 29) (.g 2),f_ 112 <|.load (.v 3) (some 36) (.g 3),f_ 113 <|.call (.k 362) .freeze none [.l 0, .l 1],u_ <|.store (.v 4) 29 (.g 4) (.l 2),t_ 5 <|.mko 36]
def r340_22 : List Op := [f_ 115 <|.bin .eql (.g 36) (ci 5),t_ 114 <|.mov (.l 0)]
def r340_23 : List Op := [f_ 116 <|.load (.v 2) (some 29) (.g 2),f_ 117 <|.load (.v 3) (some 36) (.g 3),f_ 118 <|.call (.k 363) .freeze (some 1) [.l 0, .l 1],f_ 119 <|.ext (.l 2) 0,f_ 120 <|.ext (.l 2) 1,u_ <|.store (.v 4) 29 (.g 4) (.l 3),t_ 5 <|.mov (.l 4)]
def r340_24 : List Op := [f_ 122 <|.bin .eql (.g 36) (ci 9),t_ 121 <|.mov (.l 0)]
def r340_25 : List Op := [f_ 123 <|.bin .eql (.g 36) (ci 11),t_ 121 <|.mov (.l 0)]
def r340_26 : List Op := [f_ 124 <|.fad (.g 2) 8,f_ 125 <|.fad (.l 0) 0,f_ 126 <|.load (.v 2) none (.l 1),f_ 127 <|.bin .eql (.l 2) (ci 4),f_ 128 <|.mov (.l 3),y_ 129 4 <|.fad (.g 2) 8,y_ 130 4 <|.fad (.l 5) 2,y_ 131 4 <|.load (.v 2) none (.l 6),y_ 132 4 <|.fad (.g 3) 6,y_ 133 4 <|.load (.v 3) none (.l 8),y_ 134 4 <|.bin .eql (.l 7) (.l 9),t_ 135 <|.pick (.l 4) (.l 10) (cb false)]
def r340_27 : List Op := [f_ 136 <|.load (.v 2) (some 29) (.g 2),f_ 137 <|.load (.v 3) (some 36) (.g 3),f_ 138 <|.call (.k 364) .freeze (some 1) [.l 0, .l 1],f_ 139 <|.ext (.l 2) 0,f_ 140 <|.ext (.l 2) 1,u_ <|.store (.v 4) 29 (.g 4) (.l 3),t_ 5 <|.mov (.l 4)]
def r340_28 : List Op := [f_ 37 <|.fad (.g 2) 8,f_ 38 <|.fad (.l 0) 0,f_ 39 <|.load (.v 2) none (.l 1),f_ 40 <|.bin .geq (.l 2) (ci 1),f_ 41 <|.mov (.l 3),y_ 42 4 <|.fad (.g 2) 8,y_ 43 4 <|.fad (.l 5) 0,y_ 44 4 <|.load (.v 2) none (.l 6),y_ 45 4 <|.bin .leq (.l 7) (ci 3),f_ 46 <|.pick (.l 4) (.l 8) (cb false),f_ 47 <|.mov (.l 9),y_ 48 10 <|.fad (.g 2) 8,y_ 49 10 <|.fad (.l 11) 2,y_ 50 10 <|.load (.v 2) none (.l 12),y_ 51 10 <|.fad (.g 3) 5,y_ 52 10 <|.load (.v 3) none (.l 14),y_ 53 10 <|.bin .eql (.l 13) (.l 15),t_ 54 <|.pick (.l 10) (.l 16) (cb false)]
def r340_29 : List Op := [f_ 56 <|.load (.v 2) (some 29) (.g 2),f_ 57 <|.load (.v 3) (some 36) (.g 3),f_ 58 <|.call (.k 365) .freeze none [.l 0, .l 1],f_ 55 <|.mov (.l 2),f_ 59 <|.ext (.l 3) 0,f_ 60 <|.ext (.l 3) 1,t_ 11 <|.alloc [.slice 5 [], .slice 3 [], .int .i64 0, .slice 5 [], .slice 3 [], .int .i64 0, .int .i64 0, .int .i64 0, .int .i64 0, .int .i64 0, .int .i64 0, .int .i64 0, .int .i64 0, .int .i64 0, .int .i64 0, .int .i64 0, .str [], .slice 1 [], .int .i64 0, .int .i64 0, .int .i64 0, .str [], .str [], .slice 1 [], .int .i64 0, .int .i64 0, .int .i64 0, .slice 1 [], .slice 7 []],u_ <|.store (.v 11) 29 (.l 6) (.l 4),t_ 12 <|.mov (.l 5)]
def r340_30 : List Op := [t_ 61 <|.mov (.g 12)]
def r340_31 : List Op := [f_ 62 <|.load (.v 11) (some 29) (.g 11),f_ 63 <|.load (.v 11) (some 29) (.g 11),f_ 64 <|.call (.k 355) .freeze (some 0) [.l 1],u_ <|.store (.v 4) 29 (.g 4) (.l 0),t_ 5 <|.mov (.l 2)]
def r340_32 : List Op := [f_ 141 <|.load (.v 2) (some 29) (.g 2),u_ <|.store (.v 4) 29 (.g 4) (.l 0),t_ 5 <|.mko 36]
def c340 : C := .seq (.region false r340_0) (.seq (.seq (.region false r340_1) (.cond (.g 25) (.seq (.region false r340_2) (.ret)) (.skip))) (.seq (.region false r340_3) (.seq (.seq (.region false r340_4) (.block 0 (.seq (.region false r340_5) (.cond (.g 65) (.seq (.region true r340_6) (.seq (.seq (.region false r340_7) (.block 1 (l340_0))) (.seq (.region true r340_11) (.ret)))) (.seq (.region false r340_12) (.cond (.g 88) (.seq (.region false r340_13) (.seq (.region false r340_14) (.cond (.g 99) (.region false r340_15) (.skip)))) (.seq (.region false r340_16) (.cond (.g 102) (.seq (.region false r340_17) (.cond (.g 104) (.seq (.region false r340_18) (.ret)) (.skip))) (.seq (.region false r340_19) (.cond (.g 108) (.seq (.region false r340_20) (.cond (.g 110) (.seq (.region false r340_21) (.ret)) (.skip))) (.seq (.region false r340_22) (.cond (.g 114) (.seq (.region false r340_23) (.ret)) (.seq (.seq (.region false r340_24) (.cond (.g 121) (.skip) (.region false r340_25))) (.cond (.g 121) (.seq (.region false r340_26) (.cond (.g 135) (.seq (.region false r340_27) (.ret)) (.skip))) (.seq (.region false r340_28) (.cond (.g 54) (.seq (.region false r340_29) (.seq (.region false r340_30) (.cond (.g 61) (.seq (.region true r340_31) (.ret)) (.skip)))) (.skip))))))))))))))))) (.seq (.region false r340_32) (.ret)))))
def F340 : F := ⟨2, [0, 1, 2, 3, 4, 5, 6, 7, 8, 9, 10, 11, 12, 25, 36, 54, 61, 65, 74, 88, 99, 102, 104, 108, 110, 114, 121, 135], [.cell 4 (some 29), .t 5], some 1, c340⟩
attribute [go_sem] r340_0 r340_1 r340_2 r340_3 r340_4 r340_5 r340_6 r340_7 r340_8 r340_9 r340_10 b340_0 r340_11 r340_12 r340_13 r340_14 r340_15 r340_16 r340_17 r340_18 r340_19 r340_20 r340_21 r340_22 r340_23 r340_24 r340_25 r340_26 r340_27 r340_28 r340_29 r340_30 r340_31 r340_32 c340 F340
def r341_0 : List Op := [t_ 1 <|.box (.g 0),t_ 2 <|.mov (cb false)]
def r341_1 : List Op := [f_ 3 <|.fad (.g 1) 0,f_ 4 <|.load (.v 1) none (.l 0),f_ 5 <|.bin .lss (.l 1) (ci 1),f_ 6 <|.mov (.l 2),n_ 7 3 <|.fad (.g 1) 0,n_ 8 3 <|.load (.v 1) none (.l 4),n_ 9 3 <|.bin .gtr (.l 5) (ci 37),f_ 10 <|.pick (.l 3) (cb true) (.l 6),f_ 11 <|.mov (.l 7),n_ 12 8 <|.fad (.g 1) 25,n_ 13 8 <|.fad (.l 9) 0,n_ 14 8 <|.load (.v 1) none (.l 10),n_ 15 8 <|.bin .lss (.l 11) (ci 0),f_ 16 <|.pick (.l 8) (cb true) (.l 12),f_ 17 <|.mov (.l 13),n_ 18 14 <|.fad (.g 1) 25,n_ 19 14 <|.fad (.l 15) 0,n_ 20 14 <|.load (.v 1) none (.l 16),n_ 21 14 <|.bin .gtr (.l 17) (ci 16),f_ 22 <|.pick (.l 14) (cb true) (.l 18),f_ 23 <|.mov (.l 19),n_ 24 20 <|.fad (.g 1) 25,n_ 25 20 <|.fad (.l 21) 6,n_ 26 20 <|.load (.v 1) none (.l 22),n_ 27 20 <|.len false (.l 23),n_ 28 20 <|.bin .gtr (.l 24) (ci 8),f_ 29 <|.pick (.l 20) (cb true) (.l 25),f_ 30 <|.mov (.l 26),n_ 31 27 <|.fad (.g 1) 34,n_ 32 27 <|.load (.v 1) none (.l 28),n_ 33 27 <|.len false (.l 29),n_ 34 27 <|.bin .gtr (.l 30) (ci 8),f_ 35 <|.pick (.l 27) (cb true) (.l 31),f_ 36 <|.mov (.l 32),n_ 37 33 <|.fad (.g 1) 35,n_ 38 33 <|.load (.v 1) none (.l 34),n_ 39 33 <|.len false (.l 35),n_ 40 33 <|.bin .gtr (.l 36) (ci 8),t_ 41 <|.pick (.l 33) (cb true) (.l 37)]
def r341_2 : List Op := [t_ 2 <|.mov (cb false)]
def r341_3 : List Op := [f_ 42 <|.load (.v 1) (some 36) (.g 1),f_ 43 <|.call (.k 366) .no none [.l 0],t_ 44 <|.call (.k 67) .no none [.l 1, .f 367]]
def r341_4 : List Op := [t_ 2 <|.mov (cb false)]
def r341_5 : List Op := [f_ 45 <|.fad (.g 1) 9,f_ 46 <|.load (.v 1) (some 3) (.l 0),f_ 47 <|.call (.k 28) .no none [.l 1],f_ 48 <|.mov (.l 2),y_ 49 3 <|.fad (.g 1) 13,y_ 50 3 <|.fad (.l 4) 7,y_ 51 3 <|.load (.v 1) (some 3) (.l 5),y_ 52 3 <|.call (.k 28) .no none [.l 6],f_ 53 <|.pick (.l 3) (.l 7) (cb false),f_ 54 <|.mov (.l 8),y_ 55 9 <|.fad (.g 1) 25,y_ 56 9 <|.fad (.l 10) 1,y_ 57 9 <|.load (.v 1) (some 3) (.l 11),y_ 58 9 <|.call (.k 28) .no none [.l 12],f_ 59 <|.pick (.l 9) (.l 13) (cb false),t_ 2 <|.mov (.l 14)]
def c341 : C := .seq (.region false r341_0) (.seq (.seq (.region false r341_1) (.cond (.g 41) (.seq (.region false r341_2) (.ret)) (.skip))) (.seq (.seq (.region false r341_3) (.cond (.g 44) (.seq (.region false r341_4) (.ret)) (.skip))) (.seq (.region false r341_5) (.ret))))
def F341 : F := ⟨1, [0, 1, 2, 41, 44], [.t 2], none, c341⟩
attribute [go_sem] r341_0 r341_1 r341_2 r341_3 r341_4 r341_5 c341 F341
def r344_0 : List Op := [t_ 2 <|.mov (cb false)]
def r344_1 : List Op := [t_ 3 <|.mov (ci 0)]
def r344_2 : List Op := [f_ 4 <|.mov (.g 3),f_ 5 <|.mov (.g 0),f_ 6 <|.len false (.l 1),t_ 7 <|.bin .lss (.l 0) (.l 2)]
def r344_3 : List Op := [f_ 10 <|.mov (.g 0),f_ 11 <|.mov (.g 3),f_ 12 <|.iad 3 (.l 0) (.l 1),f_ 13 <|.fad (.l 2) 1,f_ 14 <|.load (.c) none (.l 3),f_ 15 <|.len false (.l 4),t_ 16 <|.bin .gtr (.l 5) (ci 40)]
def r344_4 : List Op := [t_ 2 <|.mov (cb false)]
def r344_5 : List Op := [f_ 8 <|.mov (.g 3),f_ 9 <|.bin .add (.l 0) (ci 1),t_ 3 <|.mov (.l 1)]
def b344_0 : C := .seq (.seq (.region false r344_2) (.cond (.g 7) (.skip) (.exit 0))) (.seq (.block 1 (.seq (.region false r344_3) (.cond (.g 16) (.seq (.region false r344_4) (.ret)) (.skip)))) (.region false r344_5))
def l344_0 : C := .loop [] [] [] [] b344_0
def r344_6 : List Op := [t_ 2 <|.mov (cb true)]
def c344 : C := .seq (.region false r344_0) (.seq (.seq (.region false r344_1) (.block 0 (l344_0))) (.seq (.region false r344_6) (.ret)))
def F344 : F := ⟨1, [0, 2, 3, 7, 16], [.t 2], none, c344⟩
attribute [go_sem] r344_0 r344_1 r344_2 r344_3 r344_4 r344_5 b344_0 r344_6 c344 F344
def r345_0 : List Op := [t_ 2 <|.mov (.c (.slice 1 []))]
def r345_1 : List Op := [f_ 3 <|.mov (.g 0),f_ 4 <|.call (.k 368) .no none [.l 0],t_ 5 <|.un .not (.l 1)]
def r345_2 : List Op := [t_ 2 <|.mov (.c (.slice 1 []))]
def r345_3 : List Op := [f_ 6 <|.mov (.g 0),f_ 7 <|.mov (.g 0),f_ 8 <|.bin .rem (.l 1) (ci 3),f_ 9 <|.bin .add (.l 2) (ci 1),f_ 10 <|.mks 1 2 [.int .i64 0] [(0, .l 0), (1, .l 3)],t_ 2 <|.mov (.l 4)]
def c345 : C := .seq (.region false r345_0) (.seq (.seq (.region false r345_1) (.cond (.g 5) (.seq (.region false r345_2) (.ret)) (.skip))) (.seq (.region false r345_3) (.ret)))
def F345 : F := ⟨1, [0, 2, 5], [.t 2], none, c345⟩
attribute [go_sem] r345_0 r345_1 r345_2 r345_3 c345 F345
def r346_0 : List Op := [t_ 1 <|.box (.g 0),t_ 2 <|.mov (cb false)]
def r346_1 : List Op := [f_ 3 <|.fad (.g 1) 0,f_ 4 <|.load (.v 1) none (.l 0),f_ 5 <|.bin .lss (.l 1) (ci 0),f_ 6 <|.mov (.l 2),n_ 7 3 <|.fad (.g 1) 0,n_ 8 3 <|.load (.v 1) none (.l 4),n_ 9 3 <|.bin .gtr (.l 5) (ci 5),f_ 10 <|.pick (.l 3) (cb true) (.l 6),f_ 11 <|.mov (.l 7),n_ 12 8 <|.fad (.g 1) 1,n_ 13 8 <|.load (.v 1) none (.l 9),n_ 14 8 <|.bin .lss (.l 10) (ci 0),f_ 15 <|.pick (.l 8) (cb true) (.l 11),f_ 16 <|.mov (.l 12),n_ 17 13 <|.fad (.g 1) 1,n_ 18 13 <|.load (.v 1) none (.l 14),n_ 19 13 <|.bin .gtr (.l 15) (ci 7),f_ 20 <|.pick (.l 13) (cb true) (.l 16),f_ 21 <|.mov (.l 17),n_ 22 18 <|.fad (.g 1) 2,n_ 23 18 <|.load (.v 1) none (.l 19),n_ 24 18 <|.fad (.g 1) 3,n_ 25 18 <|.load (.v 1) none (.l 21),n_ 26 18 <|.fad (.g 1) 4,n_ 27 18 <|.load (.v 1) none (.l 23),n_ 28 18 <|.fad (.g 1) 7,n_ 29 18 <|.load (.v 1) none (.l 25),n_ 30 18 <|.fad (.g 1) 10,n_ 31 18 <|.load (.v 1) none (.l 27),n_ 32 18 <|.fad (.g 1) 11,n_ 33 18 <|.load (.v 1) none (.l 29),n_ 34 18 <|.fad (.g 1) 12,n_ 35 18 <|.load (.v 1) none (.l 31),n_ 36 18 <|.mks 1 7 [.int .i64 0] [(0, .l 20), (1, .l 22), (2, .l 24), (3, .l 26), (4, .l 28), (5, .l 30), (6, .l 32)],n_ 37 18 <|.call (.k 347) .no none [.c (.int .i64 0), .l 33],n_ 38 18 <|.un .not (.l 34),f_ 39 <|.pick (.l 18) (cb true) (.l 35),f_ 40 <|.mov (.l 36),n_ 41 37 <|.fad (.g 1) 15,n_ 42 37 <|.load (.v 1) none (.l 38),n_ 43 37 <|.call (.k 347) .no none [.c (.int .i64 0), .l 39],n_ 44 37 <|.un .not (.l 40),f_ 45 <|.pick (.l 37) (cb true) (.l 41),f_ 46 <|.mov (.l 42),n_ 47 43 <|.fad (.g 1) 16,n_ 48 43 <|.load (.v 1) (some 3) (.l 44),n_ 49 43 <|.call (.k 28) .no none [.l 45],n_ 50 43 <|.un .not (.l 46),t_ 51 <|.pick (.l 43) (cb true) (.l 47)]
def r346_2 : List Op := [t_ 2 <|.mov (cb false)]
def r346_3 : List Op := [f_ 52 <|.fad (.g 1) 5,f_ 53 <|.load (.v 1) none (.l 0),f_ 54 <|.bin .lss (.l 1) (ci 0),f_ 55 <|.mov (.l 2),n_ 56 3 <|.fad (.g 1) 5,n_ 57 3 <|.load (.v 1) none (.l 4),n_ 58 3 <|.bin .gtr (.l 5) (ci 3),f_ 59 <|.pick (.l 3) (cb true) (.l 6),f_ 60 <|.mov (.l 7),n_ 61 8 <|.fad (.g 1) 6,n_ 62 8 <|.load (.v 1) none (.l 9),n_ 63 8 <|.bin .lss (.l 10) (ci 0),f_ 64 <|.pick (.l 8) (cb true) (.l 11),f_ 65 <|.mov (.l 12),n_ 66 13 <|.fad (.g 1) 6,n_ 67 13 <|.load (.v 1) none (.l 14),n_ 68 13 <|.bin .gtr (.l 15) (ci 3),f_ 69 <|.pick (.l 13) (cb true) (.l 16),f_ 70 <|.mov (.l 17),n_ 71 18 <|.fad (.g 1) 19,n_ 72 18 <|.load (.v 1) none (.l 19),n_ 73 18 <|.len false (.l 20),n_ 74 18 <|.bin .gtr (.l 21) (ci 0),n_ 75 18 <|.mov (.l 22),y_ 76 23 <|.fad (.g 1) 19,y_ 77 23 <|.load (.v 1) none (.l 24),y_ 78 23 <|.call (.k 348) .no none [.l 25],y_ 79 23 <|.un .not (.l 26),n_ 80 18 <|.pick (.l 23) (.l 27) (cb false),t_ 81 <|.pick (.l 18) (cb true) (.l 28)]
def r346_4 : List Op := [t_ 2 <|.mov (cb false)]
def r346_5 : List Op := [f_ 82 <|.fad (.g 1) 0,t_ 83 <|.load (.v 1) none (.l 0)]
def r346_6 : List Op := [f_ 85 <|.bin .eql (.g 83) (ci 5),t_ 84 <|.mov (.l 0)]
def r346_7 : List Op := [f_ 86 <|.fad (.g 1) 5,f_ 87 <|.load (.v 1) none (.l 0),f_ 88 <|.bin .gtr (.l 1) (ci 0),f_ 89 <|.mov (.l 2),y_ 90 3 <|.fad (.g 1) 19,y_ 91 3 <|.load (.v 1) none (.l 4),y_ 92 3 <|.len false (.l 5),y_ 93 3 <|.bin .gtr (.l 6) (ci 0),f_ 94 <|.pick (.l 3) (.l 7) (cb false),t_ 2 <|.mov (.l 8)]
def r346_8 : List Op := [f_ 96 <|.bin .eql (.g 83) (ci 1),t_ 95 <|.mov (.l 0)]
def r346_9 : List Op := [f_ 97 <|.fad (.g 1) 5,f_ 98 <|.load (.v 1) none (.l 0),f_ 99 <|.bin .gtr (.l 1) (ci 0),f_ 100 <|.mov (.l 2),y_ 101 3 <|.fad (.g 1) 6,y_ 102 3 <|.load (.v 1) none (.l 4),y_ 103 3 <|.bin .gtr (.l 5) (ci 0),f_ 104 <|.pick (.l 3) (.l 6) (cb false),t_ 2 <|.mov (.l 7)]
def r346_10 : List Op := [f_ 106 <|.bin .eql (.g 83) (ci 2),t_ 105 <|.mov (.l 0)]
def r346_11 : List Op := [f_ 107 <|.bin .eql (.g 83) (ci 3),t_ 105 <|.mov (.l 0)]
def r346_12 : List Op := [f_ 108 <|.fad (.g 1) 5,f_ 109 <|.load (.v 1) none (.l 0),f_ 110 <|.bin .gtr (.l 1) (ci 0),t_ 2 <|.mov (.l 2)]
def r346_13 : List Op := [t_ 2 <|.mov (cb true)]
def c346 : C := .seq (.region false r346_0) (.seq (.seq (.region false r346_1) (.cond (.g 51) (.seq (.region false r346_2) (.ret)) (.skip))) (.seq (.seq (.region false r346_3) (.cond (.g 81) (.seq (.region false r346_4) (.ret)) (.skip))) (.seq (.seq (.region false r346_5) (.block 0 (.seq (.region false r346_6) (.cond (.g 84) (.seq (.region false r346_7) (.ret)) (.seq (.region false r346_8) (.cond (.g 95) (.seq (.region false r346_9) (.ret)) (.seq (.seq (.region false r346_10) (.cond (.g 105) (.skip) (.region false r346_11))) (.cond (.g 105) (.seq (.region false r346_12) (.ret)) (.skip))))))))) (.seq (.region false r346_13) (.ret)))))
def F346 : F := ⟨1, [0, 1, 2, 51, 81, 83, 84, 95, 105], [.t 2], none, c346⟩
attribute [go_sem] r346_0 r346_1 r346_2 r346_3 r346_4 r346_5 r346_6 r346_7 r346_8 r346_9 r346_10 r346_11 r346_12 r346_13 c346 F346
def r347_0 : List Op := [t_ 2 <|.box (.g 0),t_ 4 <|.mov (cb false)]
def r347_1 : List Op := [f_ 5 <|.mov (.g 1),f_ 6 <|.fn 369 [.g 2] [2],f_ 7 <|.call (.k 67) .no none [.l 0, .l 1],f_ 8 <|.un .not (.l 2),t_ 4 <|.mov (.l 3)]
def c347 : C := .seq (.region false r347_0) (.seq (.region false r347_1) (.ret))
def F347 : F := ⟨2, [0, 1, 2, 4], [.t 4], none, c347⟩
attribute [go_sem] r347_0 r347_1 c347 F347
def r348_0 : List Op := [t_ 2 <|.mov (cb false)]
def r348_1 : List Op := [t_ 5 <|.mov (.g 0),t_ 6 <|.len false (.l 0),t_ 7 <|.mov (ci 0)]
def r348_2 : List Op := [t_ 8 <|.bin .lss (.g 7) (.g 6)]
def r348_3 : List Op := [f_ 9 <|.mov (.g 7),f_ 10 <|.iad 1 (.g 5) (.g 7),f_ 11 <|.load (.c) none (.l 1),t_ 3 <|.mov (.l 0),t_ 4 <|.mov (.l 2)]
def r348_4 : List Op := [f_ 12 <|.mov (.g 4),f_ 13 <|.bin .lss (.l 0) (ci 1),f_ 14 <|.mov (.l 1),n_ 15 2 <|.mov (.g 4),n_ 16 2 <|.bin .gtr (.l 3) (ci 3),f_ 17 <|.pick (.l 2) (cb true) (.l 4),f_ 18 <|.mov (.l 5),n_ 19 6 <|.mov (.g 0),n_ 20 6 <|.mov (.g 3),n_ 21 6 <|.sl false 1 (.l 7) none (some (.l 8)),n_ 22 6 <|.mov (.g 4),n_ 23 6 <|.call (.k 65) .no none [.l 9, .l 10],t_ 24 <|.pick (.l 6) (cb true) (.l 11)]
def r348_5 : List Op := [t_ 2 <|.mov (cb false)]
def r348_6 : List Op := [f_ 25 <|.bin .add (.g 7) (ci 1),t_ 7 <|.mov (.l 0)]
def b348_0 : C := .seq (.region false r348_2) (.seq (.cond (.g 8) (.skip) (.exit 0)) (.seq (.block 1 (.seq (.region false r348_3) (.seq (.region false r348_4) (.cond (.g 24) (.seq (.region false r348_5) (.ret)) (.skip))))) (.region false r348_6)))
def l348_0 : C := .loop [] [] [] [] b348_0
def r348_7 : List Op := [f_ 26 <|.mov (.g 0),f_ 27 <|.len false (.l 0),f_ 28 <|.bin .gtr (.l 1) (ci 0),t_ 2 <|.mov (.l 2)]
def c348 : C := .seq (.region false r348_0) (.seq (.seq (.region false r348_1) (.block 0 (l348_0))) (.seq (.region false r348_7) (.ret)))
def F348 : F := ⟨1, [0, 2, 3, 4, 5, 6, 7, 8, 24], [.t 2], none, c348⟩
attribute [go_sem] r348_0 r348_1 r348_2 r348_3 r348_4 r348_5 r348_6 b348_0 r348_7 c348 F348
def r352_0 : List Op := [t_ 1 <|.box (.g 0),t_ 2 <|.alloc [.slice 5 [], .slice 3 [], .int .i64 0, .slice 5 [], .slice 3 [], .int .i64 0, .int .i64 0, .int .i64 0, .int .i64 0, .int .i64 0, .int .i64 0, .int .i64 0, .int .i64 0, .int .i64 0, .int .i64 0, .int .i64 0, .str [], .slice 1 [], .int .i64 0, .int .i64 0, .int .i64 0, .str [], .str [], .slice 1 [], .int .i64 0, .int .i64 0, .int .i64 0, .slice 1 [], .slice 7 []],t_ 3 <|.mov (ci 0)]
def r352_1 : List Op := [f_ 5 <|.fad (.g 1) 8,f_ 6 <|.load (.v 1) (some 20) (.l 0),t_ 4 <|.alloc [.int .i64 0, .int .i64 0, .int .i64 0, .int .i64 0, .int .i64 0, .int .i64 0, .int .i64 0, .int .i64 0, .str [], .slice 1 [], .int .i64 0, .int .i64 0, .int .i64 0, .str [], .str [], .slice 1 [], .int .i64 0, .int .i64 0, .int .i64 0, .slice 1 []],u_ <|.store (.v 4) 20 (.l 2) (.l 1)]
def r352_2 : List Op := [f_ 9 <|.fad (.g 4) 0,f_ 10 <|.load (.v 4) none (.l 0),f_ 11 <|.bin .eql (.l 1) (ci 1),f_ 12 <|.mov (.l 2),y_ 13 3 <|.fad (.g 4) 1,y_ 14 3 <|.load (.v 4) none (.l 4),y_ 15 3 <|.bin .leq (.l 5) (ci 3),f_ 16 <|.pick (.l 3) (.l 6) (cb false),t_ 8 <|.mov (.l 7)]
def r352_3 : List Op := [f_ 17 <|.fad (.g 1) 8,f_ 18 <|.fad (.l 0) 1,u_ <|.store (.v 1) 1 (.l 1) (ci 6)]
def r352_4 : List Op := [f_ 20 <|.fad (.g 4) 0,f_ 21 <|.load (.v 4) none (.l 0),f_ 22 <|.bin .eql (.l 1) (ci 2),f_ 23 <|.mov (.l 2),n_ 24 3 <|.fad (.g 4) 0,n_ 25 3 <|.load (.v 4) none (.l 4),n_ 26 3 <|.bin .eql (.l 5) (ci 3),f_ 27 <|.pick (.l 3) (cb true) (.l 6),f_ 28 <|.mov (.l 7),y_ 29 8 <|.fad (.g 4) 1,y_ 30 8 <|.load (.v 4) none (.l 9),y_ 31 8 <|.bin .eql (.l 10) (ci 1),f_ 32 <|.pick (.l 8) (.l 11) (cb false),t_ 19 <|.mov (.l 12)]
def r352_5 : List Op := [f_ 33 <|.fad (.g 1) 8,f_ 34 <|.fad (.l 0) 1,u_ <|.store (.v 1) 1 (.l 1) (ci 7)]
def r352_6 : List Op := [f_ 7 <|.load (.v 1) (some 29) (.g 1),u_ <|.store (.v 2) 29 (.g 2) (.l 0),t_ 3 <|.mov (ci 7)]
def r352_7 : List Op := [f_ 35 <|.load (.v 1) (some 29) (.g 1),u_ <|.store (.v 2) 29 (.g 2) (.l 0),t_ 3 <|.mov (ci 0)]
def c352 : C := .seq (.region false r352_0) (.seq (.seq (.region false r352_1) (.block 0 (.seq (.region false r352_2) (.cond (.g 8) (.region false r352_3) (.seq (.region false r352_4) (.cond (.g 19) (.region false r352_5) (.seq (.region false r352_6) (.ret)))))))) (.seq (.region false r352_7) (.ret)))
def F352 : F := ⟨1, [0, 1, 2, 3, 4, 8, 19], [.cell 2 (some 29), .t 3], none, c352⟩
attribute [go_sem] r352_0 r352_1 r352_2 r352_3 r352_4 r352_5 r352_6 r352_7 c352 F352
def r355_0 : List Op := [t_ 1 <|.box (.g 0),t_ 2 <|.mov (.c (.slice 36 []))]
def r355_1 : List Op := [f_ 4 <|.fad (.g 1) 8,f_ 5 <|.load (.v 1) (some 20) (.l 0),t_ 3 <|.alloc [.int .i64 0, .int .i64 0, .int .i64 0, .int .i64 0, .int .i64 0, .int .i64 0, .int .i64 0, .int .i64 0, .str [], .slice 1 [], .int .i64 0, .int .i64 0, .int .i64 0, .str [], .str [], .slice 1 [], .int .i64 0, .int .i64 0, .int .i64 0, .slice 1 []],u_ <|.store (.v 3) 20 (.l 2) (.l 1)]
def r355_2 : List Op := [f_ 6 <|.fad (.g 3) 0,t_ 7 <|.load (.v 3) none (.l 0)]
def r355_3 : List Op := [f_ 9 <|.bin .eql (.g 7) (ci 4),t_ 8 <|.mov (.l 0)]
def r355_4 : List Op := [f_ 10 <|.load (.v 1) (some 29) (.g 1),f_ 11 <|.call (.k 370) .no (some 0) [.l 0],t_ 2 <|.mov (.l 1)]
def r355_5 : List Op := [f_ 13 <|.bin .eql (.g 7) (ci 5),t_ 12 <|.mov (.l 0)]
def r355_6 : List Op := [f_ 14 <|.fad (.g 3) 1,f_ 15 <|.load (.v 3) none (.l 0),t_ 16 <|.bin .neq (.l 1) (ci 1)]
def r355_7 : List Op := [t_ 2 <|.mko 36]
def r355_8 : List Op := [f_ 17 <|.fad (.g 3) 19,f_ 18 <|.load (.v 3) none (.l 0),f_ 19 <|.iad 1 (.l 1) (ci 0),f_ 20 <|.load (.c) none (.l 2),f_ 21 <|.fad (.g 3) 5,f_ 22 <|.load (.v 3) none (.l 4),f_ 23 <|.fad (.g 1) 1,f_ 24 <|.load (.v 1) none (.l 6),f_ 25 <|.fad (.g 3) 5,f_ 26 <|.load (.v 3) none (.l 8),f_ 27 <|.bin .sub (.l 9) (ci 1),f_ 28 <|.iad 3 (.l 7) (.l 10),f_ 29 <|.fad (.l 11) 0,f_ 30 <|.load (.c) none (.l 12),f_ 31 <|.bin .add (.l 13) (ci 1),f_ 32 <|.fad (.g 3) 19,f_ 33 <|.load (.v 3) none (.l 15),f_ 34 <|.call (.k 69) .no none [.l 16],f_ 35 <|.build [.int .i64 0, .int .i64 0, .int .i64 0, .int .i64 0, .int .i64 0, .int .i64 0, .int .i64 0, .int .i64 0, .int .i64 0, .int .i64 0, .int .i64 0, .int .i64 0, .str [], .int .i64 0, .int .i64 0, .int .i64 0, .str [], .str [], .bool false, .str [], .int .i64 0, .int .i64 0, .int .i64 0, .str [], .int .i64 0, .int .i64 0, .int .i64 0, .int .i64 0, .int .i64 0, .bool false, .str [], .slice 2 [], .str [], .bool false, .slice 5 [], .slice 1 []] [(0, 1, .c (.int .i64 33)), (2, 1, .l 3), (7, 1, .l 5), (4, 1, .l 14), (35, 1, .l 17)],f_ 36 <|.mkb 36 1 [.int .i64 0, .int .i64 0, .int .i64 0, .int .i64 0, .int .i64 0, .int .i64 0, .int .i64 0, .int .i64 0, .int .i64 0, .int .i64 0, .int .i64 0, .int .i64 0, .str [], .int .i64 0, .int .i64 0, .int .i64 0, .str [], .str [], .bool false, .str [], .int .i64 0, .int .i64 0, .int .i64 0, .str [], .int .i64 0, .int .i64 0, .int .i64 0, .int .i64 0, .int .i64 0, .bool false, .str [], .slice 2 [], .str [], .bool false, .slice 5 [], .slice 1 []] [(0, .l 18)],t_ 2 <|.mov (.l 19)]
def r355_9 : List Op := [f_ 38 <|.bin .eql (.g 7) (ci 1),t_ 37 <|.mov (.l 0)]
def r355_10 : List Op := [f_ 39 <|.bin .eql (.g 7) (ci 2),t_ 37 <|.mov (.l 0)]
def r355_11 : List Op := [f_ 40 <|.bin .eql (.g 7) (ci 3),t_ 37 <|.mov (.l 0)]
def r355_12 : List Op := [f_ 41 <|.load (.v 1) (some 29) (.g 1),f_ 42 <|.call (.k 371) .no (some 0) [.l 0],t_ 2 <|.mov (.l 1)]
def r355_13 : List Op := [t_ 2 <|.mko 36]
def c355 : C := .seq (.region false r355_0) (.seq (.region false r355_1) (.seq (.seq (.region false r355_2) (.block 0 (.seq (.region false r355_3) (.cond (.g 8) (.seq (.region false r355_4) (.ret)) (.seq (.region false r355_5) (.cond (.g 12) (.seq (.seq (.region false r355_6) (.cond (.g 16) (.seq (.region false r355_7) (.ret)) (.skip))) (.seq (.region true r355_8) (.ret))) (.seq (.seq (.region false r355_9) (.cond (.g 37) (.skip) (.seq (.region false r355_10) (.cond (.g 37) (.skip) (.region false r355_11))))) (.cond (.g 37) (.seq (.region false r355_12) (.ret)) (.skip))))))))) (.seq (.region false r355_13) (.ret))))
def F355 : F := ⟨1, [0, 1, 2, 3, 7, 8, 12, 16, 37], [.t 2], some 0, c355⟩
attribute [go_sem] r355_0 r355_1 r355_2 r355_3 r355_4 r355_5 r355_6 r355_7 r355_8 r355_9 r355_10 r355_11 r355_12 r355_13 c355 F355
def r356_0 : List Op := [t_ 4 <|.alloc [.int .i64 0, .int .i64 0, .int .i64 0]]
def r356_1 : List Op := [f_ 7 <|.mov (.g 0),f_ 8 <|.len false (.l 0),t_ 9 <|.bin .lss (.l 1) (ci 1)]
def r356_2 : List Op := [f_ 10 <|.bad,u_ <|.bad]
def r356_3 : List Op := [f_ 11 <|.mov (.g 0),f_ 12 <|.iad 3 (.l 0) (ci 0),f_ 13 <|.load (.c) (some 3) (.l 1),t_ 5 <|.alloc [.int .i64 0, .int .i64 0, .int .i64 0],u_ <|.store (.v 5) 3 (.l 3) (.l 2)]
def r356_4 : List Op := [t_ 6 <|.mov (ci 1)]
def r356_5 : List Op := [f_ 14 <|.mov (.g 6),f_ 15 <|.mov (.g 0),f_ 16 <|.len false (.l 1),t_ 17 <|.bin .lss (.l 0) (.l 2)]
def r356_6 : List Op := [f_ 20 <|.mov (.g 1),f_ 21 <|.mov (.g 0),f_ 22 <|.mov (.g 6),f_ 23 <|.iad 3 (.l 1) (.l 2),f_ 24 <|.load (.c) (some 3) (.l 3),f_ 25 <|.load (.v 5) (some 3) (.g 5),f_ 26 <|.call (.v (.l 0)) .no none [.l 4, .l 5],t_ 27 <|.bin .gtr (.l 6) (ci 0)]
def r356_7 : List Op := [f_ 28 <|.mov (.g 0),f_ 29 <|.mov (.g 6),f_ 30 <|.iad 3 (.l 0) (.l 1),f_ 31 <|.load (.c) (some 3) (.l 2),u_ <|.store (.v 5) 3 (.g 5) (.l 3)]
def r356_8 : List Op := [f_ 18 <|.mov (.g 6),f_ 19 <|.bin .add (.l 0) (ci 1),t_ 6 <|.mov (.l 1)]
def b356_0 : C := .seq (.seq (.region false r356_5) (.cond (.g 17) (.skip) (.exit 0))) (.seq (.block 1 (.seq (.region true r356_6) (.cond (.g 27) (.region false r356_7) (.skip)))) (.region false r356_8))
def l356_0 : C := .loop [] [] [] [] b356_0
def r356_9 : List Op := [f_ 32 <|.load (.v 5) (some 3) (.g 5),u_ <|.store (.v 4) 3 (.g 4) (.l 0)]
def c356 : C := .seq (.region false r356_0) (.seq (.seq (.region false r356_1) (.cond (.g 9) (.region false r356_2) (.skip))) (.seq (.region false r356_3) (.seq (.seq (.region false r356_4) (.block 0 (l356_0))) (.seq (.region false r356_9) (.ret)))))
def F356 : F := ⟨2, [0, 1, 4, 5, 6, 9, 17, 27], [.cell 4 (some 3)], none, c356⟩
attribute [go_sem] r356_0 r356_1 r356_2 r356_3 r356_4 r356_5 r356_6 r356_7 r356_8 b356_0 r356_9 c356 F356
def r357_0 : List Op := [t_ 2 <|.box (.g 0),t_ 4 <|.mov (ci 0)]
def r357_1 : List Op := [f_ 5 <|.fad (.g 2) 1,f_ 6 <|.load (.v 2) none (.l 0),f_ 7 <|.mov (.g 1),f_ 8 <|.bin .sub (.l 2) (ci 1),f_ 9 <|.iad 3 (.l 1) (.l 3),f_ 10 <|.fad (.l 4) 1,f_ 11 <|.load (.c) none (.l 5),f_ 12 <|.iad 1 (.l 6) (ci 0),f_ 13 <|.load (.c) none (.l 7),t_ 4 <|.mov (.l 8)]
def c357 : C := .seq (.region false r357_0) (.seq (.region false r357_1) (.ret))
def F357 : F := ⟨2, [0, 1, 2, 4], [.t 4], none, c357⟩
attribute [go_sem] r357_0 r357_1 c357 F357
def r361_0 : List Op := [t_ 2 <|.box (.g 0),t_ 3 <|.box (.g 1),t_ 4 <|.alloc [.slice 5 [], .slice 3 [], .int .i64 0, .slice 5 [], .slice 3 [], .int .i64 0, .int .i64 0, .int .i64 0, .int .i64 0, .int .i64 0, .int .i64 0, .int .i64 0, .int .i64 0, .int .i64 0, .int .i64 0, .int .i64 0, .str [], .slice 1 [], .int .i64 0, .int .i64 0, .int .i64 0, .str [], .str [], .slice 1 [], .int .i64 0, .int .i64 0, .int .i64 0, .slice 1 [], .slice 7 []]]
def r361_1 : List Op := [f_ 5 <|.fad (.g 2) 4,f_ 6 <|.load (.v 2) none (.l 0),f_ 7 <|.call (.k 373) .freeze (some 0) [.l 1],f_ 8 <|.fad (.g 2) 4,u_ <|.store (.v 2) 1 (.l 3) (.l 2)]
def r361_2 : List Op := [f_ 9 <|.fad (.g 2) 4,f_ 10 <|.load (.v 2) none (.l 0),f_ 11 <|.fad (.g 3) 7,f_ 12 <|.load (.v 3) none (.l 2),f_ 13 <|.bin .sub (.l 3) (ci 1),f_ 14 <|.fad (.g 2) 4,f_ 15 <|.load (.v 2) none (.l 5),f_ 16 <|.fad (.g 3) 7,f_ 17 <|.load (.v 3) none (.l 7),f_ 18 <|.bin .sub (.l 8) (ci 1),f_ 19 <|.iad 3 (.l 6) (.l 9),f_ 20 <|.load (.e 7) (some 3) (.l 10),f_ 21 <|.fad (.g 3) 9,f_ 22 <|.load (.v 3) (some 3) (.l 12),f_ 23 <|.call (.k 21) .freeze none [.l 11, .l 13],f_ 24 <|.iad 3 (.l 1) (.l 4),u_ <|.store (.e 7) 3 (.l 15) (.l 14)]
def r361_3 : List Op := [f_ 25 <|.fad (.g 2) 8,f_ 26 <|.fad (.l 0) 0,f_ 27 <|.load (.v 2) none (.l 1),t_ 28 <|.bin .eql (.l 2) (ci 0)]
def r361_4 : List Op := [f_ 29 <|.fad (.g 2) 5,f_ 30 <|.load (.v 2) (some 3) (.l 0),f_ 31 <|.fad (.g 2) 4,f_ 32 <|.load (.v 2) none (.l 2),f_ 33 <|.fad (.g 2) 3,f_ 34 <|.load (.v 2) none (.l 4),f_ 35 <|.call (.k 109) .freeze none [.l 1, .l 3, .l 5],f_ 36 <|.fad (.g 2) 5,u_ <|.store (.v 2) 3 (.l 7) (.l 6)]
def r361_5 : List Op := [f_ 37 <|.load (.v 2) (some 29) (.g 2),u_ <|.store (.v 4) 29 (.g 4) (.l 0)]
def c361 : C := .seq (.region false r361_0) (.seq (.region false r361_1) (.seq (.region true r361_2) (.seq (.seq (.region false r361_3) (.cond (.g 28) (.region false r361_4) (.skip))) (.seq (.region false r361_5) (.ret)))))
def F361 : F := ⟨2, [0, 1, 2, 3, 4, 28], [.cell 4 (some 29)], none, c361⟩
attribute [go_sem] r361_0 r361_1 r361_2 r361_3 r361_4 r361_5 c361 F361
def r362_0 : List Op := [t_ 2 <|.box (.g 0),t_ 3 <|.box (.g 1),t_ 4 <|.alloc [.slice 5 [], .slice 3 [], .int .i64 0, .slice 5 [], .slice 3 [], .int .i64 0, .int .i64 0, .int .i64 0, .int .i64 0, .int .i64 0, .int .i64 0, .int .i64 0, .int .i64 0, .int .i64 0, .int .i64 0, .int .i64 0, .str [], .slice 1 [], .int .i64 0, .int .i64 0, .int .i64 0, .str [], .str [], .slice 1 [], .int .i64 0, .int .i64 0, .int .i64 0, .slice 1 [], .slice 7 []]]
def r362_1 : List Op := [f_ 6 <|.fad (.g 2) 1,f_ 7 <|.load (.v 2) none (.l 0),f_ 8 <|.fad (.g 3) 7,f_ 9 <|.load (.v 3) none (.l 2),f_ 10 <|.bin .sub (.l 3) (ci 1),f_ 11 <|.iad 3 (.l 1) (.l 4),f_ 12 <|.load (.c) (some 3) (.l 5),t_ 5 <|.alloc [.int .i64 0, .slice 1 [], .bool false],u_ <|.store (.v 5) 3 (.l 7) (.l 6)]
def r362_2 : List Op := [f_ 15 <|.fad (.g 2) 8,f_ 16 <|.fad (.l 0) 0,f_ 17 <|.load (.v 2) none (.l 1),f_ 18 <|.bin .eql (.l 2) (ci 5),f_ 19 <|.mov (.l 3),y_ 20 4 <|.fad (.g 2) 8,y_ 21 4 <|.fad (.l 5) 5,y_ 22 4 <|.load (.v 2) none (.l 6),y_ 23 4 <|.fad (.g 3) 7,y_ 24 4 <|.load (.v 3) none (.l 8),y_ 25 4 <|.bin .eql (.l 7) (.l 9),f_ 26 <|.pick (.l 4) (.l 10) (cb false),f_ 27 <|.mov (.l 11),y_ 28 12 <|.fad (.g 3) 4,y_ 29 12 <|.load (.v 3) none (.l 13),y_ 30 12 <|.fad (.g 5) 0,y_ 31 12 <|.load (.v 5) none (.l 15),y_ 32 12 <|.bin .add (.l 16) (ci 1),y_ 33 12 <|.bin .eql (.l 14) (.l 17),f_ 34 <|.pick (.l 12) (.l 18) (cb false),t_ 14 <|.mov (.l 19)]
def r362_3 : List Op := [f_ 35 <|.fad (.g 3) 4,f_ 36 <|.load (.v 3) none (.l 0),f_ 37 <|.fad (.g 2) 8,f_ 38 <|.fad (.l 2) 19,f_ 39 <|.load (.v 2) none (.l 3),f_ 40 <|.fad (.g 3) 8,f_ 41 <|.load (.v 3) none (.l 5),f_ 42 <|.bin .eql (.l 6) (ci 1),f_ 43 <|.build [.int .i64 0, .slice 1 [], .bool false] [(0, 1, .l 1), (1, 1, .l 4), (2, 1, .l 7)],u_ <|.store (.v 5) 3 (.g 5) (.l 8)]
def r362_4 : List Op := [f_ 44 <|.build [.int .i64 0, .int .i64 0, .int .i64 0, .int .i64 0, .int .i64 0, .int .i64 0, .int .i64 0, .int .i64 0, .str [], .slice 1 [], .int .i64 0, .int .i64 0, .int .i64 0, .str [], .str [], .slice 1 [], .int .i64 0, .int .i64 0, .int .i64 0, .slice 1 []] [],f_ 45 <|.fad (.g 2) 8,u_ <|.store (.v 2) 20 (.l 1) (.l 0)]
def r362_5 : List Op := [f_ 47 <|.fad (.g 3) 4,f_ 48 <|.load (.v 3) none (.l 0),f_ 49 <|.fad (.g 5) 0,f_ 50 <|.load (.v 5) none (.l 2),f_ 51 <|.bin .eql (.l 1) (.l 3),f_ 52 <|.mov (.l 4),y_ 53 5 <|.fad (.g 3) 8,y_ 54 5 <|.load (.v 3) none (.l 6),y_ 55 5 <|.bin .eql (.l 7) (ci 1),f_ 56 <|.pick (.l 5) (.l 8) (cb false),t_ 46 <|.mov (.l 9)]
def r362_6 : List Op := [f_ 57 <|.fad (.g 5) 2,u_ <|.store (.v 5) 1 (.l 0) (cb true)]
def r362_7 : List Op := [f_ 13 <|.load (.v 2) (some 29) (.g 2),u_ <|.store (.v 4) 29 (.g 4) (.l 0)]
def r362_8 : List Op := [f_ 58 <|.fad (.g 2) 1,f_ 59 <|.load (.v 2) none (.l 0),f_ 60 <|.call (.k 374) .freeze (some 0) [.l 1],f_ 61 <|.fad (.g 2) 1,u_ <|.store (.v 2) 1 (.l 3) (.l 2)]
def r362_9 : List Op := [f_ 62 <|.fad (.g 2) 1,f_ 63 <|.load (.v 2) none (.l 0),f_ 64 <|.fad (.g 3) 7,f_ 65 <|.load (.v 3) none (.l 2),f_ 66 <|.bin .sub (.l 3) (ci 1),f_ 67 <|.load (.v 5) (some 3) (.g 5),f_ 68 <|.iad 3 (.l 1) (.l 4),u_ <|.store (.e 60) 3 (.l 6) (.l 5)]
def r362_10 : List Op := [f_ 69 <|.load (.v 2) (some 29) (.g 2),u_ <|.store (.v 4) 29 (.g 4) (.l 0)]
def c362 : C := .seq (.region false r362_0) (.seq (.region false r362_1) (.seq (.block 0 (.seq (.region false r362_2) (.cond (.g 14) (.seq (.region false r362_3) (.region false r362_4)) (.seq (.region false r362_5) (.cond (.g 46) (.region false r362_6) (.seq (.region false r362_7) (.ret))))))) (.seq (.region false r362_8) (.seq (.region false r362_9) (.seq (.region false r362_10) (.ret))))))
def F362 : F := ⟨2, [0, 1, 2, 3, 4, 5, 14, 46], [.cell 4 (some 29)], none, c362⟩
attribute [go_sem] r362_0 r362_1 r362_2 r362_3 r362_4 r362_5 r362_6 r362_7 r362_8 r362_9 r362_10 c362 F362
def r363_0 : List Op := [t_ 2 <|.box (.g 0),t_ 3 <|.box (.g 1),t_ 4 <|.alloc [.slice 5 [], .slice 3 [], .int .i64 0, .slice 5 [], .slice 3 [], .int .i64 0, .int .i64 0, .int .i64 0, .int .i64 0, .int .i64 0, .int .i64 0, .int .i64 0, .int .i64 0, .int .i64 0, .int .i64 0, .int .i64 0, .str [], .slice 1 [], .int .i64 0, .int .i64 0, .int .i64 0, .str [], .str [], .slice 1 [], .int .i64 0, .int .i64 0, .int .i64 0, .slice 1 [], .slice 7 []],t_ 5 <|.mov (.c (.slice 36 []))]
def r363_1 : List Op := [f_ 10 <|.fad (.g 3) 1,f_ 11 <|.load (.v 3) none (.l 0),f_ 12 <|.bin .sub (.l 1) (ci 10),f_ 13 <|.fad (.g 3) 7,f_ 14 <|.load (.v 3) none (.l 3),f_ 15 <|.build [.int .i64 0, .int .i64 0, .int .i64 0, .int .i64 0, .int .i64 0, .int .i64 0, .int .i64 0] [(0, 1, .l 2), (1, 1, .l 4)],t_ 6 <|.alloc [.int .i64 0, .int .i64 0, .int .i64 0, .int .i64 0, .int .i64 0, .int .i64 0, .int .i64 0],u_ <|.store (.v 6) 7 (.l 6) (.l 5)]
def r363_2 : List Op := [f_ 16 <|.fad (.g 6) 0,f_ 17 <|.load (.v 6) none (.l 0),f_ 18 <|.bin .lss (.l 1) (ci 1),f_ 19 <|.mov (.l 2),n_ 20 3 <|.fad (.g 6) 0,n_ 21 3 <|.load (.v 6) none (.l 4),n_ 22 3 <|.bin .gtr (.l 5) (ci 8),t_ 23 <|.pick (.l 3) (cb true) (.l 6)]
def r363_3 : List Op := [f_ 24 <|.load (.v 2) (some 29) (.g 2),u_ <|.store (.v 4) 29 (.g 4) (.l 0),t_ 5 <|.mko 36]
def r363_4 : List Op := [f_ 25 <|.fad (.g 2) 28,t_ 26 <|.load (.v 2) none (.l 0),t_ 27 <|.len false (.l 1),t_ 28 <|.mov (ci 0)]
def r363_5 : List Op := [t_ 29 <|.bin .lss (.g 28) (.g 27)]
def r363_6 : List Op := [f_ 30 <|.iad 7 (.g 26) (.g 28),f_ 31 <|.load (.c) (some 7) (.l 0),t_ 8 <|.alloc [.int .i64 0, .int .i64 0, .int .i64 0, .int .i64 0, .int .i64 0, .int .i64 0, .int .i64 0],u_ <|.store (.v 8) 7 (.l 2) (.l 1)]
def r363_7 : List Op := [f_ 34 <|.fad (.g 8) 0,f_ 35 <|.load (.v 8) none (.l 0),f_ 36 <|.fad (.g 6) 0,f_ 37 <|.load (.v 6) none (.l 2),f_ 38 <|.bin .neq (.l 1) (.l 3),f_ 39 <|.mov (.l 4),n_ 40 5 <|.fad (.g 8) 1,n_ 41 5 <|.load (.v 8) none (.l 6),n_ 42 5 <|.fad (.g 6) 1,n_ 43 5 <|.load (.v 6) none (.l 8),n_ 44 5 <|.bin .lss (.l 7) (.l 9),f_ 45 <|.pick (.l 5) (cb true) (.l 10),t_ 33 <|.mov (.l 11)]
def r363_8 : List Op := [f_ 47 <|.fad (.g 8) 1,f_ 48 <|.load (.v 8) none (.l 0),f_ 49 <|.fad (.g 6) 1,f_ 50 <|.load (.v 6) none (.l 2),f_ 51 <|.bin .eql (.l 1) (.l 3),t_ 46 <|.mov (.l 4)]
def r363_9 : List Op := [f_ 52 <|.load (.v 2) (some 29) (.g 2),f_ 53 <|.load (.v 8) (some 7) (.g 8),f_ 54 <|.call (.k 375) .no (some 0) [.l 1],u_ <|.store (.v 4) 29 (.g 4) (.l 0),t_ 5 <|.mov (.l 2)]
def r363_10 : List Op := [f_ 32 <|.load (.v 2) (some 29) (.g 2),u_ <|.store (.v 4) 29 (.g 4) (.l 0),t_ 5 <|.mko 36]
def r363_11 : List Op := [f_ 55 <|.bin .add (.g 28) (ci 1),t_ 28 <|.mov (.l 0)]
def b363_0 : C := .seq (.region false r363_5) (.seq (.cond (.g 29) (.skip) (.exit 0)) (.seq (.block 1 (.seq (.region false r363_6) (.block 2 (.seq (.region false r363_7) (.cond (.g 33) (.skip) (.seq (.region false r363_8) (.cond (.g 46) (.seq (.region true r363_9) (.ret)) (.seq (.region false r363_10) (.ret))))))))) (.region false r363_11)))
def l363_0 : C := .loop [] [] [8] [54, 5] b363_0
def r363_12 : List Op := [f_ 56 <|.fad (.g 3) 13,f_ 57 <|.fad (.l 0) 3,f_ 58 <|.load (.v 3) none (.l 1),f_ 59 <|.fad (.g 3) 13,f_ 60 <|.fad (.l 3) 10,f_ 61 <|.load (.v 3) none (.l 4),f_ 62 <|.build [.str [], .str []] [(0, 1, .l 2), (1, 1, .l 5)],t_ 9 <|.alloc [.str [], .str []],u_ <|.store (.v 9) 2 (.l 7) (.l 6)]
def r363_13 : List Op := [f_ 64 <|.load (.v 9) (some 2) (.g 9),f_ 65 <|.call (.k 186) .no none [.l 0],f_ 66 <|.un .not (.l 1),t_ 63 <|.mov (.l 2)]
def r363_14 : List Op := [f_ 67 <|.fad (.g 6) 6,u_ <|.store (.v 6) 1 (.l 0) (ci 1)]
def r363_15 : List Op := [f_ 68 <|.load (.v 2) (some 29) (.g 2),f_ 69 <|.load (.v 6) (some 7) (.g 6),f_ 70 <|.call (.k 376) .no none [.l 0, .l 1],f_ 71 <|.load (.v 6) (some 7) (.g 6),f_ 72 <|.call (.k 375) .no (some 0) [.l 3],u_ <|.store (.v 4) 29 (.g 4) (.l 2),t_ 5 <|.mov (.l 4)]
def r363_16 : List Op := [f_ 74 <|.fad (.g 2) 8,f_ 75 <|.fad (.l 0) 0,f_ 76 <|.load (.v 2) none (.l 1),f_ 77 <|.bin .neq (.l 2) (ci 0),t_ 73 <|.mov (.l 3)]
def r363_17 : List Op := [f_ 78 <|.load (.v 2) (some 29) (.g 2),u_ <|.store (.v 4) 29 (.g 4) (.l 0),t_ 5 <|.mko 36]
def r363_18 : List Op := [f_ 80 <|.fad (.g 2) 2,f_ 81 <|.load (.v 2) none (.l 0),f_ 82 <|.bin .eql (.l 1) (ci 1099511627776),f_ 83 <|.mov (.l 2),n_ 84 3 <|.fad (.g 2) 3,n_ 85 3 <|.load (.v 2) none (.l 4),n_ 86 3 <|.len false (.l 5),n_ 87 3 <|.bin .eql (.l 6) (ci 4),f_ 88 <|.pick (.l 3) (cb true) (.l 7),t_ 79 <|.mov (.l 8)]
def r363_19 : List Op := [f_ 89 <|.fad (.g 6) 6,u_ <|.store (.v 6) 1 (.l 0) (ci 6)]
def r363_20 : List Op := [f_ 90 <|.load (.v 2) (some 29) (.g 2),f_ 91 <|.load (.v 6) (some 7) (.g 6),f_ 92 <|.call (.k 376) .no none [.l 0, .l 1],f_ 93 <|.load (.v 6) (some 7) (.g 6),f_ 94 <|.call (.k 375) .no (some 0) [.l 3],u_ <|.store (.v 4) 29 (.g 4) (.l 2),t_ 5 <|.mov (.l 4)]
def r363_21 : List Op := [f_ 95 <|.fad (.g 2) 2,f_ 96 <|.load (.v 2) none (.l 0),f_ 97 <|.fad (.g 6) 0,f_ 98 <|.load (.v 6) none (.l 2),f_ 99 <|.fad (.g 6) 1,f_ 100 <|.load (.v 6) none (.l 4),f_ 101 <|.load (.v 9) (some 2) (.g 9),f_ 102 <|.load (.v 2) (some 29) (.g 2),f_ 103 <|.load (.v 9) (some 2) (.g 9),f_ 104 <|.call (.k 377) .no none [.l 7, .l 8],f_ 105 <|.build [.int .i64 0, .int .i64 0, .int .i64 0, .int .i64 0, .int .i64 0, .int .i64 0, .int .i64 0, .int .i64 0, .str [], .slice 1 [], .int .i64 0, .int .i64 0, .int .i64 0, .str [], .str [], .slice 1 [], .int .i64 0, .int .i64 0, .int .i64 0, .slice 1 []] [(0, 1, .c (.int .i64 4)), (1, 1, .c (.int .i64 1)), (2, 1, .l 1), (11, 1, .l 3), (12, 1, .l 5), (13, 2, .l 6), (15, 1, .l 9)],f_ 106 <|.fad (.g 2) 8,u_ <|.store (.v 2) 20 (.l 11) (.l 10)]
def r363_22 : List Op := [f_ 107 <|.fad (.g 2) 2,f_ 108 <|.load (.v 2) none (.l 0),f_ 109 <|.bin .add (.l 1) (ci 1),f_ 110 <|.fad (.g 2) 2,u_ <|.store (.v 2) 1 (.l 3) (.l 2)]
def r363_23 : List Op := [f_ 111 <|.load (.v 2) (some 29) (.g 2),f_ 112 <|.load (.v 2) (some 29) (.g 2),f_ 113 <|.call (.k 355) .no (some 0) [.l 1],u_ <|.store (.v 4) 29 (.g 4) (.l 0),t_ 5 <|.mov (.l 2)]
def c363 : C := .seq (.region false r363_0) (.seq (.region false r363_1) (.seq (.seq (.region false r363_2) (.cond (.g 23) (.seq (.region false r363_3) (.ret)) (.skip))) (.seq (.seq (.region false r363_4) (.block 0 (l363_0))) (.seq (.region false r363_12) (.seq (.block 3 (.seq (.region false r363_13) (.cond (.g 63) (.seq (.region false r363_14) (.seq (.region true r363_15) (.ret))) (.seq (.region false r363_16) (.cond (.g 73) (.seq (.region false r363_17) (.ret)) (.seq (.region false r363_18) (.cond (.g 79) (.seq (.region false r363_19) (.seq (.region true r363_20) (.ret))) (.skip)))))))) (.seq (.region true r363_21) (.seq (.region false r363_22) (.seq (.region true r363_23) (.ret)))))))))
def F363 : F := ⟨2, [0, 1, 2, 3, 4, 5, 6, 8, 9, 23, 26, 27, 28, 29, 33, 46, 63, 73, 79], [.cell 4 (some 29), .t 5], some 1, c363⟩
attribute [go_sem] r363_0 r363_1 r363_2 r363_3 r363_4 r363_5 r363_6 r363_7 r363_8 r363_9 r363_10 r363_11 b363_0 r363_12 r363_13 r363_14 r363_15 r363_16 r363_17 r363_18 r363_19 r363_20 r363_21 r363_22 r363_23 c363 F363
def r364_0 : List Op := [t_ 2 <|.box (.g 0),t_ 3 <|.box (.g 1),t_ 4 <|.alloc [.slice 5 [], .slice 3 [], .int .i64 0, .slice 5 [], .slice 3 [], .int .i64 0, .int .i64 0, .int .i64 0, .int .i64 0, .int .i64 0, .int .i64 0, .int .i64 0, .int .i64 0, .int .i64 0, .int .i64 0, .int .i64 0, .str [], .slice 1 [], .int .i64 0, .int .i64 0, .int .i64 0, .str [], .str [], .slice 1 [], .int .i64 0, .int .i64 0, .int .i64 0, .slice 1 [], .slice 7 []],t_ 5 <|.mov (.c (.slice 36 []))]
def r364_1 : List Op := [f_ 8 <|.fad (.g 2) 8,f_ 9 <|.load (.v 2) (some 20) (.l 0),t_ 6 <|.alloc [.int .i64 0, .int .i64 0, .int .i64 0, .int .i64 0, .int .i64 0, .int .i64 0, .int .i64 0, .int .i64 0, .str [], .slice 1 [], .int .i64 0, .int .i64 0, .int .i64 0, .str [], .str [], .slice 1 [], .int .i64 0, .int .i64 0, .int .i64 0, .slice 1 []],u_ <|.store (.v 6) 20 (.l 2) (.l 1)]
def r364_2 : List Op := [f_ 10 <|.fad (.g 6) 15,f_ 11 <|.load (.v 6) none (.l 0),f_ 12 <|.fad (.g 3) 3,f_ 13 <|.load (.v 3) none (.l 2),f_ 14 <|.call (.k 75) .borrow none [.l 1, .l 3],t_ 7 <|.mov (.l 4)]
def r364_3 : List Op := [f_ 15 <|.mov (.g 7),f_ 16 <|.bin .lss (.l 0) (ci 0),f_ 17 <|.mov (.l 1),n_ 18 2 <|.fad (.g 3) 0,n_ 19 2 <|.load (.v 3) none (.l 3),n_ 20 2 <|.bin .eql (.l 4) (ci 9),n_ 21 2 <|.mov (.l 5),y_ 22 6 <|.fad (.g 6) 1,y_ 23 6 <|.load (.v 6) none (.l 7),y_ 24 6 <|.bin .neq (.l 8) (ci 1),n_ 25 2 <|.pick (.l 6) (.l 9) (cb false),f_ 26 <|.pick (.l 2) (cb true) (.l 10),f_ 27 <|.mov (.l 11),n_ 28 12 <|.fad (.g 3) 0,n_ 29 12 <|.load (.v 3) none (.l 13),n_ 30 12 <|.bin .eql (.l 14) (ci 11),n_ 31 12 <|.mov (.l 15),y_ 32 16 <|.fad (.g 6) 1,y_ 33 16 <|.load (.v 6) none (.l 17),y_ 34 16 <|.bin .neq (.l 18) (ci 2),n_ 35 12 <|.pick (.l 16) (.l 19) (cb false),t_ 36 <|.pick (.l 12) (cb true) (.l 20)]
def r364_4 : List Op := [f_ 37 <|.load (.v 2) (some 29) (.g 2),u_ <|.store (.v 4) 29 (.g 4) (.l 0),t_ 5 <|.mko 36]
def r364_5 : List Op := [f_ 38 <|.fad (.g 6) 15,f_ 39 <|.load (.v 6) none (.l 0),f_ 40 <|.call (.k 69) .freeze (some 0) [.l 1],f_ 41 <|.mov (.g 7),f_ 42 <|.mov (.g 7),f_ 43 <|.bin .add (.l 4) (ci 1),f_ 44 <|.del 378 40 1 (.l 2) (.l 3) (.l 5),f_ 45 <|.fad (.g 6) 15,u_ <|.store (.v 6) 1 (.l 7) (.l 6)]
def r364_6 : List Op := [f_ 46 <|.fad (.g 6) 1,f_ 47 <|.load (.v 6) none (.l 0),t_ 48 <|.bin .eql (.l 1) (ci 1)]
def r364_7 : List Op := [f_ 49 <|.fad (.g 6) 16,f_ 50 <|.load (.v 6) (some 3) (.l 0),f_ 51 <|.fad (.g 3) 9,f_ 52 <|.load (.v 3) (some 3) (.l 2),f_ 53 <|.call (.k 21) .freeze none [.l 1, .l 3],f_ 54 <|.fad (.g 6) 16,u_ <|.store (.v 6) 3 (.l 5) (.l 4)]
def r364_8 : List Op := [f_ 60 <|.fad (.g 6) 15,f_ 61 <|.load (.v 6) none (.l 0),f_ 62 <|.len false (.l 1),f_ 63 <|.bin .gtr (.l 2) (ci 0),t_ 59 <|.mov (.l 3)]
def r364_9 : List Op := [f_ 65 <|.fad (.g 6) 1,f_ 66 <|.load (.v 6) none (.l 0),f_ 67 <|.bin .eql (.l 1) (ci 1),t_ 64 <|.mov (.l 2)]
def r364_10 : List Op := [f_ 68 <|.load (.v 2) (some 29) (.g 2),f_ 69 <|.fad (.g 6) 13,f_ 70 <|.load (.v 6) (some 2) (.l 1),f_ 71 <|.call (.k 377) .freeze none [.l 0, .l 2],f_ 72 <|.fad (.g 6) 16,f_ 73 <|.load (.v 6) (some 3) (.l 4),f_ 74 <|.fad (.g 2) 5,f_ 75 <|.load (.v 2) (some 3) (.l 6),f_ 76 <|.call (.k 21) .freeze none [.l 5, .l 7],f_ 77 <|.fad (.g 6) 1,u_ <|.store (.v 6) 1 (.l 9) (ci 2),f_ 78 <|.fad (.g 6) 15,u_ <|.store (.v 6) 1 (.l 11) (.l 3),f_ 79 <|.fad (.g 6) 16,u_ <|.store (.v 6) 3 (.l 13) (.l 8)]
def r364_11 : List Op := [f_ 55 <|.load (.v 2) (some 29) (.g 2),f_ 56 <|.call (.k 379) .freeze (some 1) [.l 0],f_ 57 <|.ext (.l 1) 0,f_ 58 <|.ext (.l 1) 1,u_ <|.store (.v 4) 29 (.g 4) (.l 2),t_ 5 <|.mov (.l 3)]
def r364_12 : List Op := [f_ 80 <|.load (.v 6) (some 20) (.g 6),f_ 81 <|.fad (.g 2) 8,u_ <|.store (.v 2) 20 (.l 1) (.l 0)]
def r364_13 : List Op := [f_ 82 <|.load (.v 2) (some 29) (.g 2),f_ 83 <|.load (.v 2) (some 29) (.g 2),f_ 84 <|.call (.k 355) .freeze (some 0) [.l 1],u_ <|.store (.v 4) 29 (.g 4) (.l 0),t_ 5 <|.mov (.l 2)]
def c364 : C := .seq (.region false r364_0) (.seq (.region false r364_1) (.seq (.region false r364_2) (.seq (.seq (.region false r364_3) (.cond (.g 36) (.seq (.region false r364_4) (.ret)) (.skip))) (.seq (.region false r364_5) (.seq (.seq (.region false r364_6) (.cond (.g 48) (.region false r364_7) (.skip))) (.seq (.block 0 (.seq (.region false r364_8) (.cond (.g 59) (.skip) (.seq (.region false r364_9) (.cond (.g 64) (.region true r364_10) (.seq (.region false r364_11) (.ret))))))) (.seq (.region false r364_12) (.seq (.region true r364_13) (.ret)))))))))
def F364 : F := ⟨2, [0, 1, 2, 3, 4, 5, 6, 7, 36, 48, 59, 64], [.cell 4 (some 29), .t 5], some 1, c364⟩
attribute [go_sem] r364_0 r364_1 r364_2 r364_3 r364_4 r364_5 r364_6 r364_7 r364_8 r364_9 r364_10 r364_11 r364_12 r364_13 c364 F364
def r365_0 : List Op := [t_ 2 <|.box (.g 0),t_ 3 <|.box (.g 1),t_ 4 <|.alloc [.slice 5 [], .slice 3 [], .int .i64 0, .slice 5 [], .slice 3 [], .int .i64 0, .int .i64 0, .int .i64 0, .int .i64 0, .int .i64 0, .int .i64 0, .int .i64 0, .int .i64 0, .int .i64 0, .int .i64 0, .int .i64 0, .str [], .slice 1 [], .int .i64 0, .int .i64 0, .int .i64 0, .str [], .str [], .slice 1 [], .int .i64 0, .int .i64 0, .int .i64 0, .slice 1 [], .slice 7 []],t_ 5 <|.mov (cb false)]
def r365_1 : List Op := [f_ 10 <|.fad (.g 2) 8,f_ 11 <|.load (.v 2) (some 20) (.l 0),t_ 6 <|.alloc [.int .i64 0, .int .i64 0, .int .i64 0, .int .i64 0, .int .i64 0, .int .i64 0, .int .i64 0, .int .i64 0, .str [], .slice 1 [], .int .i64 0, .int .i64 0, .int .i64 0, .str [], .str [], .slice 1 [], .int .i64 0, .int .i64 0, .int .i64 0, .slice 1 []],u_ <|.store (.v 6) 20 (.l 2) (.l 1)]
def r365_2 : List Op := [f_ 12 <|.fad (.g 6) 0,f_ 13 <|.load (.v 6) none (.l 0),f_ 14 <|.bin .eql (.l 1) (ci 1),t_ 7 <|.mov (.l 2)]
def r365_3 : List Op := [f_ 17 <|.fad (.g 3) 0,f_ 18 <|.load (.v 3) none (.l 0),f_ 19 <|.bin .eql (.l 1) (ci 13),f_ 20 <|.mov (.l 2),y_ 21 3 <|.mov (.g 7),f_ 22 <|.pick (.l 3) (.l 4) (cb false),f_ 23 <|.mov (.l 5),y_ 24 6 <|.fad (.g 6) 1,y_ 25 6 <|.load (.v 6) none (.l 7),y_ 26 6 <|.bin .eql (.l 8) (ci 1),f_ 27 <|.pick (.l 6) (.l 9) (cb false),t_ 16 <|.mov (.l 10)]
def r365_4 : List Op := [f_ 28 <|.fad (.g 3) 8,f_ 29 <|.load (.v 3) none (.l 0),f_ 30 <|.fad (.g 2) 8,f_ 31 <|.fad (.l 2) 1,u_ <|.store (.v 2) 1 (.l 3) (ci 2),f_ 32 <|.fad (.g 2) 8,f_ 33 <|.fad (.l 5) 10,u_ <|.store (.v 2) 1 (.l 6) (.l 1)]
def r365_5 : List Op := [f_ 35 <|.fad (.g 3) 0,f_ 36 <|.load (.v 3) none (.l 0),f_ 37 <|.bin .eql (.l 1) (ci 15),f_ 38 <|.mov (.l 2),y_ 39 3 <|.mov (.g 7),f_ 40 <|.pick (.l 3) (.l 4) (cb false),f_ 41 <|.mov (.l 5),y_ 42 6 <|.fad (.g 6) 1,y_ 43 6 <|.load (.v 6) none (.l 7),y_ 44 6 <|.bin .eql (.l 8) (ci 2),f_ 45 <|.pick (.l 6) (.l 9) (cb false),f_ 46 <|.mov (.l 10),y_ 47 11 <|.fad (.g 3) 8,y_ 48 11 <|.load (.v 3) none (.l 12),y_ 49 11 <|.fad (.g 6) 9,y_ 50 11 <|.load (.v 6) none (.l 14),y_ 51 11 <|.len false (.l 15),y_ 52 11 <|.bin .eql (.l 13) (.l 16),f_ 53 <|.pick (.l 11) (.l 17) (cb false),f_ 54 <|.mov (.l 18),y_ 55 19 <|.fad (.g 3) 4,y_ 56 19 <|.load (.v 3) none (.l 20),y_ 57 19 <|.fad (.g 6) 10,y_ 58 19 <|.load (.v 6) none (.l 22),y_ 59 19 <|.bin .eql (.l 21) (.l 23),f_ 60 <|.pick (.l 19) (.l 24) (cb false),t_ 34 <|.mov (.l 25)]
def r365_6 : List Op := [f_ 61 <|.fad (.g 6) 9,f_ 62 <|.load (.v 6) none (.l 0),f_ 63 <|.call (.k 380) .freeze (some 0) [.l 1],f_ 64 <|.fad (.g 3) 12,f_ 65 <|.load (.v 3) none (.l 3),f_ 66 <|.mks 1 1 [.str []] [(0, .l 4)],f_ 67 <|.app 63 1 (.l 2) (.l 5),f_ 68 <|.fad (.g 2) 8,f_ 69 <|.fad (.l 7) 9,u_ <|.store (.v 2) 1 (.l 8) (.l 6)]
def r365_7 : List Op := [f_ 70 <|.fad (.g 2) 8,f_ 71 <|.fad (.l 0) 9,f_ 72 <|.load (.v 2) none (.l 1),f_ 73 <|.len false (.l 2),f_ 74 <|.fad (.g 6) 10,f_ 75 <|.load (.v 6) none (.l 4),t_ 76 <|.bin .eql (.l 3) (.l 5)]
def r365_8 : List Op := [f_ 77 <|.fad (.g 2) 8,f_ 78 <|.fad (.l 0) 1,u_ <|.store (.v 2) 1 (.l 1) (ci 3)]
def r365_9 : List Op := [f_ 80 <|.fad (.g 3) 0,f_ 81 <|.load (.v 3) none (.l 0),f_ 82 <|.bin .eql (.l 1) (ci 17),f_ 83 <|.mov (.l 2),y_ 84 3 <|.mov (.g 7),f_ 85 <|.pick (.l 3) (.l 4) (cb false),f_ 86 <|.mov (.l 5),y_ 87 6 <|.fad (.g 6) 1,y_ 88 6 <|.load (.v 6) none (.l 7),y_ 89 6 <|.bin .eql (.l 8) (ci 3),f_ 90 <|.pick (.l 6) (.l 9) (cb false),t_ 79 <|.mov (.l 10)]
def r365_10 : List Op := [f_ 92 <|.fad (.g 2) 0,f_ 93 <|.load (.v 2) none (.l 0),f_ 94 <|.fad (.g 6) 3,f_ 95 <|.load (.v 6) none (.l 2),f_ 96 <|.fad (.g 6) 6,f_ 97 <|.load (.v 6) none (.l 4),f_ 98 <|.fad (.g 6) 2,f_ 99 <|.load (.v 6) none (.l 6),f_ 100 <|.call (.k 159) .freeze none [.l 1, .l 3, .l 5, .l 7],f_ 91 <|.mov (.l 8),f_ 101 <|.ext (.l 9) 0,f_ 102 <|.ext (.l 9) 1,t_ 8 <|.mov (.l 10),t_ 9 <|.mov (.l 11)]
def r365_11 : List Op := [f_ 103 <|.mov (.g 9),t_ 104 <|.bin .eql (.l 0) (ci 0)]
def r365_12 : List Op := [f_ 105 <|.mov (.g 8),f_ 106 <|.fad (.g 2) 0,u_ <|.store (.v 2) 1 (.l 1) (.l 0)]
def r365_13 : List Op := [f_ 107 <|.fad (.g 2) 8,f_ 108 <|.fad (.l 0) 1,u_ <|.store (.v 2) 1 (.l 1) (ci 4)]
def r365_14 : List Op := [f_ 110 <|.fad (.g 3) 0,f_ 111 <|.load (.v 3) none (.l 0),f_ 112 <|.bin .eql (.l 1) (ci 19),f_ 113 <|.mov (.l 2),y_ 114 3 <|.mov (.g 7),f_ 115 <|.pick (.l 3) (.l 4) (cb false),f_ 116 <|.mov (.l 5),y_ 117 6 <|.fad (.g 6) 1,y_ 118 6 <|.load (.v 6) none (.l 7),y_ 119 6 <|.bin .eql (.l 8) (ci 4),f_ 120 <|.pick (.l 6) (.l 9) (cb false),t_ 109 <|.mov (.l 10)]
def r365_15 : List Op := [f_ 121 <|.fad (.g 2) 8,f_ 122 <|.fad (.l 0) 1,u_ <|.store (.v 2) 1 (.l 1) (ci 5)]
def r365_16 : List Op := [f_ 124 <|.fad (.g 3) 0,f_ 125 <|.load (.v 3) none (.l 0),f_ 126 <|.bin .eql (.l 1) (ci 21),f_ 127 <|.mov (.l 2),y_ 128 3 <|.mov (.g 7),f_ 129 <|.pick (.l 3) (.l 4) (cb false),f_ 130 <|.mov (.l 5),y_ 131 6 <|.fad (.g 6) 1,y_ 132 6 <|.load (.v 6) none (.l 7),y_ 133 6 <|.bin .eql (.l 8) (ci 5),f_ 134 <|.pick (.l 6) (.l 9) (cb false),t_ 123 <|.mov (.l 10)]
def r365_17 : List Op := [f_ 135 <|.build [.int .i64 0, .int .i64 0, .int .i64 0, .int .i64 0, .int .i64 0, .int .i64 0, .int .i64 0, .int .i64 0, .str [], .slice 1 [], .int .i64 0, .int .i64 0, .int .i64 0, .str [], .str [], .slice 1 [], .int .i64 0, .int .i64 0, .int .i64 0, .slice 1 []] [],f_ 136 <|.fad (.g 2) 8,u_ <|.store (.v 2) 20 (.l 1) (.l 0)]
def r365_18 : List Op := [f_ 138 <|.fad (.g 3) 0,f_ 139 <|.load (.v 3) none (.l 0),f_ 140 <|.bin .eql (.l 1) (ci 25),f_ 141 <|.mov (.l 2),y_ 142 3 <|.mov (.g 7),f_ 143 <|.pick (.l 3) (.l 4) (cb false),f_ 144 <|.mov (.l 5),y_ 145 6 <|.fad (.g 6) 1,y_ 146 6 <|.load (.v 6) none (.l 7),y_ 147 6 <|.bin .eql (.l 8) (ci 6),f_ 148 <|.pick (.l 6) (.l 9) (cb false),t_ 137 <|.mov (.l 10)]
def r365_19 : List Op := [f_ 149 <|.fad (.g 2) 8,f_ 150 <|.fad (.l 0) 1,u_ <|.store (.v 2) 1 (.l 1) (ci 7)]
def r365_20 : List Op := [f_ 152 <|.fad (.g 3) 0,f_ 153 <|.load (.v 3) none (.l 0),f_ 154 <|.bin .eql (.l 1) (ci 27),f_ 155 <|.mov (.l 2),y_ 156 3 <|.fad (.g 6) 0,y_ 157 3 <|.load (.v 6) none (.l 4),y_ 158 3 <|.bin .eql (.l 5) (ci 2),f_ 159 <|.pick (.l 3) (.l 6) (cb false),f_ 160 <|.mov (.l 7),n_ 161 8 <|.fad (.g 3) 0,n_ 162 8 <|.load (.v 3) none (.l 9),n_ 163 8 <|.bin .eql (.l 10) (ci 29),n_ 164 8 <|.mov (.l 11),y_ 165 12 <|.fad (.g 6) 0,y_ 166 12 <|.load (.v 6) none (.l 13),y_ 167 12 <|.bin .eql (.l 14) (ci 3),n_ 168 8 <|.pick (.l 12) (.l 15) (cb false),f_ 169 <|.pick (.l 8) (cb true) (.l 16),f_ 170 <|.mov (.l 17),y_ 171 18 <|.fad (.g 6) 1,y_ 172 18 <|.load (.v 6) none (.l 19),y_ 173 18 <|.bin .eql (.l 20) (ci 1),y_ 174 18 <|.mov (.l 21),n_ 175 22 <|.fad (.g 6) 1,n_ 176 22 <|.load (.v 6) none (.l 23),n_ 177 22 <|.bin .eql (.l 24) (ci 7),y_ 178 18 <|.pick (.l 22) (cb true) (.l 25),f_ 179 <|.pick (.l 18) (.l 26) (cb false),t_ 151 <|.mov (.l 27)]
def r365_21 : List Op := [f_ 180 <|.load (.v 2) (some 29) (.g 2),f_ 181 <|.call (.k 381) .freeze none [.l 0],u_ <|.store (.v 2) 29 (.g 2) (.l 1)]
def r365_22 : List Op := [f_ 183 <|.fad (.g 3) 0,f_ 184 <|.load (.v 3) none (.l 0),f_ 185 <|.bin .eql (.l 1) (ci 23),f_ 186 <|.mov (.l 2),y_ 187 3 <|.fad (.g 6) 1,y_ 188 3 <|.load (.v 6) none (.l 4),y_ 189 3 <|.bin .eql (.l 5) (ci 7),f_ 190 <|.pick (.l 3) (.l 6) (cb false),t_ 182 <|.mov (.l 7)]
def r365_23 : List Op := [f_ 191 <|.mov (.g 7),f_ 192 <|.un .not (.l 0),f_ 193 <|.mov (.l 1),y_ 194 2 <|.fad (.g 3) 4,y_ 195 2 <|.load (.v 3) none (.l 3),y_ 196 2 <|.fad (.g 6) 2,y_ 197 2 <|.load (.v 6) none (.l 5),y_ 198 2 <|.bin .eql (.l 4) (.l 6),t_ 199 <|.pick (.l 2) (.l 7) (cb false)]
def r365_24 : List Op := [f_ 200 <|.load (.v 2) (some 29) (.g 2),f_ 201 <|.call (.k 381) .freeze none [.l 0],u_ <|.store (.v 2) 29 (.g 2) (.l 1)]
def r365_25 : List Op := [f_ 202 <|.build [.int .i64 0, .int .i64 0, .int .i64 0, .int .i64 0, .int .i64 0, .int .i64 0, .int .i64 0, .int .i64 0, .str [], .slice 1 [], .int .i64 0, .int .i64 0, .int .i64 0, .str [], .str [], .slice 1 [], .int .i64 0, .int .i64 0, .int .i64 0, .slice 1 []] [],f_ 203 <|.fad (.g 2) 8,u_ <|.store (.v 2) 20 (.l 1) (.l 0)]
def r365_26 : List Op := [f_ 15 <|.load (.v 2) (some 29) (.g 2),u_ <|.store (.v 4) 29 (.g 4) (.l 0),t_ 5 <|.mov (cb false)]
def r365_27 : List Op := [f_ 204 <|.load (.v 2) (some 29) (.g 2),u_ <|.store (.v 4) 29 (.g 4) (.l 0),t_ 5 <|.mov (cb true)]
def c365 : C := .seq (.region false r365_0) (.seq (.region false r365_1) (.seq (.region false r365_2) (.seq (.block 0 (.seq (.region false r365_3) (.cond (.g 16) (.region true r365_4) (.seq (.region false r365_5) (.cond (.g 34) (.seq (.region true r365_6) (.seq (.region false r365_7) (.cond (.g 76) (.region false r365_8) (.skip)))) (.seq (.region false r365_9) (.cond (.g 79) (.seq (.seq (.region false r365_10) (.seq (.region false r365_11) (.cond (.g 104) (.region false r365_12) (.skip)))) (.region false r365_13)) (.seq (.region false r365_14) (.cond (.g 109) (.region false r365_15) (.seq (.region false r365_16) (.cond (.g 123) (.region false r365_17) (.seq (.region false r365_18) (.cond (.g 137) (.region false r365_19) (.seq (.region false r365_20) (.cond (.g 151) (.region false r365_21) (.seq (.region false r365_22) (.cond (.g 182) (.seq (.seq (.region false r365_23) (.cond (.g 199) (.region false r365_24) (.skip))) (.region false r365_25)) (.seq (.region false r365_26) (.ret))))))))))))))))))) (.seq (.region false r365_27) (.ret)))))
def F365 : F := ⟨2, [0, 1, 2, 3, 4, 5, 6, 7, 8, 9, 16, 34, 76, 79, 104, 109, 123, 137, 151, 182, 199], [.cell 4 (some 29), .t 5], none, c365⟩
attribute [go_sem] r365_0 r365_1 r365_2 r365_3 r365_4 r365_5 r365_6 r365_7 r365_8 r365_9 r365_10 r365_11 r365_12 r365_13 r365_14 r365_15 r365_16 r365_17 r365_18 r365_19 r365_20 r365_21 r365_22 r365_23 r365_24 r365_25 r365_26 r365_27 c365 F365
def r366_0 : List Op := [t_ 1 <|.box (.g 0),t_ 2 <|.mov (.c (.slice 1 []))]
def r366_1 : List Op := [f_ 6 <|.fad (.g 1) 0,f_ 7 <|.load (.v 1) none (.l 0),f_ 8 <|.fad (.g 1) 1,f_ 9 <|.load (.v 1) none (.l 2),f_ 10 <|.fad (.g 1) 2,f_ 11 <|.load (.v 1) none (.l 4),f_ 12 <|.fad (.g 1) 3,f_ 13 <|.load (.v 1) none (.l 6),f_ 14 <|.fad (.g 1) 4,f_ 15 <|.load (.v 1) none (.l 8),f_ 16 <|.fad (.g 1) 5,f_ 17 <|.load (.v 1) none (.l 10),f_ 18 <|.fad (.g 1) 6,f_ 19 <|.load (.v 1) none (.l 12),f_ 20 <|.fad (.g 1) 7,f_ 21 <|.load (.v 1) none (.l 14),f_ 22 <|.fad (.g 1) 8,f_ 23 <|.load (.v 1) none (.l 16),f_ 24 <|.fad (.g 1) 13,f_ 25 <|.fad (.l 18) 0,f_ 26 <|.load (.v 1) none (.l 19),f_ 27 <|.fad (.g 1) 13,f_ 28 <|.fad (.l 21) 1,f_ 29 <|.load (.v 1) none (.l 22),f_ 30 <|.fad (.g 1) 13,f_ 31 <|.fad (.l 24) 2,f_ 32 <|.load (.v 1) none (.l 25),f_ 33 <|.fad (.g 1) 13,f_ 34 <|.fad (.l 27) 11,f_ 35 <|.load (.v 1) none (.l 28),f_ 36 <|.mkb 1 13 [.int .i64 0] [(0, .l 1), (1, .l 3), (2, .l 5), (3, .l 7), (4, .l 9), (5, .l 11), (6, .l 13), (7, .l 15), (8, .l 17), (9, .l 20), (10, .l 23), (11, .l 26), (12, .l 29)],t_ 3 <|.mov (.l 30)]
def r366_2 : List Op := [f_ 37 <|.fad (.g 1) 34,t_ 38 <|.load (.v 1) none (.l 0),t_ 39 <|.len false (.l 1),t_ 40 <|.mov (ci 0)]
def r366_3 : List Op := [t_ 41 <|.bin .lss (.g 40) (.g 39)]
def r366_4 : List Op := [f_ 42 <|.iad 5 (.g 38) (.g 40),f_ 43 <|.load (.c) (some 5) (.l 0),t_ 5 <|.alloc [.str [], .str [], .int .i64 0, .int .i64 0, .int .i64 0],u_ <|.store (.v 5) 5 (.l 2) (.l 1)]
def r366_5 : List Op := [f_ 44 <|.mov (.g 3),f_ 45 <|.fad (.g 5) 2,f_ 46 <|.load (.v 5) none (.l 1),f_ 47 <|.fad (.g 5) 3,f_ 48 <|.load (.v 5) none (.l 3),f_ 49 <|.fad (.g 5) 4,f_ 50 <|.load (.v 5) none (.l 5),f_ 51 <|.mks 1 3 [.int .i64 0] [(0, .l 2), (1, .l 4), (2, .l 6)],f_ 52 <|.app 36 1 (.l 0) (.l 7),t_ 3 <|.mov (.l 8)]
def r366_6 : List Op := [f_ 53 <|.bin .add (.g 40) (ci 1),t_ 40 <|.mov (.l 0)]
def b366_0 : C := .seq (.region false r366_3) (.seq (.cond (.g 41) (.skip) (.exit 0)) (.seq (.block 1 (.seq (.region false r366_4) (.region false r366_5))) (.region false r366_6)))
def l366_0 : C := .loop [] [] [5] [] b366_0
def r366_7 : List Op := [f_ 54 <|.mov (.g 3),f_ 55 <|.fad (.g 1) 35,f_ 56 <|.load (.v 1) none (.l 1),f_ 57 <|.app 36 1 (.l 0) (.l 2),t_ 2 <|.mov (.l 3)]
def c366 : C := .seq (.region false r366_0) (.seq (.region false r366_1) (.seq (.seq (.region false r366_2) (.block 0 (l366_0))) (.seq (.region false r366_7) (.ret))))
def F366 : F := ⟨1, [0, 1, 2, 3, 5, 38, 39, 40, 41], [.t 2], none, c366⟩
attribute [go_sem] r366_0 r366_1 r366_2 r366_3 r366_4 r366_5 r366_6 b366_0 r366_7 c366 F366
def r367_0 : List Op := [t_ 2 <|.mov (cb false)]
def r367_1 : List Op := [f_ 3 <|.mov (.g 0),f_ 4 <|.bin .lss (.l 0) (ci 0),f_ 5 <|.mov (.l 1),n_ 6 2 <|.mov (.g 0),n_ 7 2 <|.bin .gtr (.l 3) (ci 1099511627776),f_ 8 <|.pick (.l 2) (cb true) (.l 4),t_ 2 <|.mov (.l 5)]
def c367 : C := .seq (.region false r367_0) (.seq (.region false r367_1) (.ret))
def F367 : F := ⟨1, [0, 2], [.t 2], none, c367⟩
attribute [go_sem] r367_0 r367_1 c367 F367
def r368_0 : List Op := [t_ 2 <|.mov (cb false)]
def r368_1 : List Op := [f_ 3 <|.mov (.g 0),f_ 4 <|.bin .geq (.l 0) (ci 1),f_ 5 <|.mov (.l 1),y_ 6 2 <|.mov (.g 0),y_ 7 2 <|.bin .leq (.l 3) (ci 3),f_ 8 <|.pick (.l 2) (.l 4) (cb false),t_ 2 <|.mov (.l 5)]
def c368 : C := .seq (.region false r368_0) (.seq (.region false r368_1) (.ret))
def F368 : F := ⟨1, [0, 2], [.t 2], none, c368⟩
attribute [go_sem] r368_0 r368_1 c368 F368
def r369_0 : List Op := [t_ 3 <|.mov (cb false)]
def r369_1 : List Op := [f_ 4 <|.mov (.g 0),f_ 5 <|.load (.c) none (.g 1),f_ 6 <|.bin .lss (.l 0) (.l 1),f_ 7 <|.mov (.l 2),n_ 8 3 <|.mov (.g 0),n_ 9 3 <|.bin .gtr (.l 4) (ci 1099511627776),f_ 10 <|.pick (.l 3) (cb true) (.l 5),t_ 3 <|.mov (.l 6)]
def c369 : C := .seq (.region false r369_0) (.seq (.region false r369_1) (.ret))
def F369 : F := ⟨2, [0, 1, 3], [.t 3], none, c369⟩
attribute [go_sem] r369_0 r369_1 c369 F369
def r370_0 : List Op := [t_ 1 <|.box (.g 0),t_ 2 <|.mov (.c (.slice 36 []))]
def r370_1 : List Op := [t_ 3 <|.mko 36]
def r370_2 : List Op := [f_ 8 <|.fad (.g 1) 8,f_ 9 <|.fad (.l 0) 15,t_ 10 <|.load (.v 1) none (.l 1),t_ 11 <|.len false (.l 2),t_ 12 <|.mov (ci 0)]
def r370_3 : List Op := [t_ 13 <|.bin .lss (.g 12) (.g 11)]
def r370_4 : List Op := [f_ 14 <|.iad 1 (.g 10) (.g 12),f_ 15 <|.load (.c) none (.l 0),t_ 5 <|.mov (.l 1)]
def r370_5 : List Op := [f_ 17 <|.fad (.g 1) 0,f_ 18 <|.load (.v 1) none (.l 0),f_ 19 <|.mov (.g 5),f_ 20 <|.call (.k 148) .no none [.l 1, .l 2],f_ 16 <|.mov (.l 3),f_ 21 <|.ext (.l 4) 0,f_ 22 <|.ext (.l 4) 1,t_ 6 <|.alloc [.str [], .str [], .int .i64 0, .int .i64 0, .int .i64 0],u_ <|.store (.v 6) 5 (.l 7) (.l 5),t_ 7 <|.mov (.l 6)]
def r370_6 : List Op := [f_ 24 <|.mov (.g 7),f_ 25 <|.un .not (.l 0),t_ 23 <|.mov (.l 1)]
def r370_7 : List Op := [f_ 27 <|.fad (.g 1) 8,f_ 28 <|.fad (.l 0) 1,f_ 29 <|.load (.v 1) none (.l 1),f_ 30 <|.bin .eql (.l 2) (ci 1),t_ 26 <|.mov (.l 3)]
def r370_8 : List Op := [f_ 31 <|.mov (.g 3),f_ 32 <|.load (.v 1) (some 29) (.g 1),f_ 33 <|.fad (.g 6) 3,f_ 34 <|.load (.v 6) none (.l 2),f_ 35 <|.call (.k 357) .no none [.l 1, .l 3],f_ 36 <|.fad (.g 6) 3,f_ 37 <|.load (.v 6) none (.l 5),f_ 38 <|.mov (.g 5),f_ 39 <|.fad (.g 6) 4,f_ 40 <|.load (.v 6) none (.l 8),f_ 41 <|.fad (.g 1) 8,f_ 42 <|.fad (.l 10) 2,f_ 43 <|.load (.v 1) none (.l 11),f_ 44 <|.build [.int .i64 0, .int .i64 0, .int .i64 0, .int .i64 0, .int .i64 0, .int .i64 0, .int .i64 0, .int .i64 0, .int .i64 0, .int .i64 0, .int .i64 0, .int .i64 0, .str [], .int .i64 0, .int .i64 0, .int .i64 0, .str [], .str [], .bool false, .str [], .int .i64 0, .int .i64 0, .int .i64 0, .str [], .int .i64 0, .int .i64 0, .int .i64 0, .int .i64 0, .int .i64 0, .bool false, .str [], .slice 2 [], .str [], .bool false, .slice 5 [], .slice 1 []] [(0, 1, .c (.int .i64 8)), (2, 1, .l 4), (7, 1, .l 6), (3, 1, .l 7), (4, 1, .l 9), (6, 1, .l 12)],f_ 45 <|.mks 36 1 [.int .i64 0, .int .i64 0, .int .i64 0, .int .i64 0, .int .i64 0, .int .i64 0, .int .i64 0, .int .i64 0, .int .i64 0, .int .i64 0, .int .i64 0, .int .i64 0, .str [], .int .i64 0, .int .i64 0, .int .i64 0, .str [], .str [], .bool false, .str [], .int .i64 0, .int .i64 0, .int .i64 0, .str [], .int .i64 0, .int .i64 0, .int .i64 0, .int .i64 0, .int .i64 0, .bool false, .str [], .slice 2 [], .str [], .bool false, .slice 5 [], .slice 1 []] [(0, .l 13)],f_ 46 <|.app 3 36 (.l 0) (.l 14),t_ 3 <|.mov (.l 15)]
def r370_9 : List Op := [f_ 48 <|.fad (.g 1) 8,f_ 49 <|.fad (.l 0) 1,f_ 50 <|.load (.v 1) none (.l 1),f_ 51 <|.bin .eql (.l 2) (ci 2),t_ 47 <|.mov (.l 3)]
def r370_10 : List Op := [f_ 52 <|.mov (.g 3),f_ 53 <|.load (.v 1) (some 29) (.g 1),f_ 54 <|.fad (.g 6) 3,f_ 55 <|.load (.v 6) none (.l 2),f_ 56 <|.call (.k 357) .no none [.l 1, .l 3],f_ 57 <|.fad (.g 6) 3,f_ 58 <|.load (.v 6) none (.l 5),f_ 59 <|.mov (.g 5),f_ 60 <|.fad (.g 1) 8,f_ 61 <|.fad (.l 8) 2,f_ 62 <|.load (.v 1) none (.l 9),f_ 63 <|.fad (.g 1) 8,f_ 64 <|.fad (.l 11) 16,f_ 65 <|.load (.v 1) (some 3) (.l 12),f_ 66 <|.build [.int .i64 0, .int .i64 0, .int .i64 0, .int .i64 0, .int .i64 0, .int .i64 0, .int .i64 0, .int .i64 0, .int .i64 0, .int .i64 0, .int .i64 0, .int .i64 0, .str [], .int .i64 0, .int .i64 0, .int .i64 0, .str [], .str [], .bool false, .str [], .int .i64 0, .int .i64 0, .int .i64 0, .str [], .int .i64 0, .int .i64 0, .int .i64 0, .int .i64 0, .int .i64 0, .bool false, .str [], .slice 2 [], .str [], .bool false, .slice 5 [], .slice 1 []] [(0, 1, .c (.int .i64 10)), (2, 1, .l 4), (7, 1, .l 6), (3, 1, .l 7), (6, 1, .l 10), (9, 3, .l 13)],f_ 67 <|.mks 36 1 [.int .i64 0, .int .i64 0, .int .i64 0, .int .i64 0, .int .i64 0, .int .i64 0, .int .i64 0, .int .i64 0, .int .i64 0, .int .i64 0, .int .i64 0, .int .i64 0, .str [], .int .i64 0, .int .i64 0, .int .i64 0, .str [], .str [], .bool false, .str [], .int .i64 0, .int .i64 0, .int .i64 0, .str [], .int .i64 0, .int .i64 0, .int .i64 0, .int .i64 0, .int .i64 0, .bool false, .str [], .slice 2 [], .str [], .bool false, .slice 5 [], .slice 1 []] [(0, .l 14)],f_ 68 <|.app 3 36 (.l 0) (.l 15),t_ 3 <|.mov (.l 16)]
def r370_11 : List Op := [f_ 69 <|.bin .add (.g 12) (ci 1),t_ 12 <|.mov (.l 0)]
def b370_0 : C := .seq (.region false r370_3) (.seq (.cond (.g 13) (.skip) (.exit 0)) (.seq (.block 1 (.seq (.region false r370_4) (.seq (.region false r370_5) (.block 2 (.seq (.region false r370_6) (.cond (.g 23) (.skip) (.seq (.region false r370_7) (.cond (.g 26) (.region true r370_8) (.seq (.region false r370_9) (.cond (.g 47) (.region true r370_10) (.skip))))))))))) (.region false r370_11)))
def l370_0 : C := .loop [] [] [6] [] b370_0
def r370_12 : List Op := [f_ 70 <|.mov (.g 3),t_ 2 <|.mov (.l 0)]
def c370 : C := .seq (.region false r370_0) (.seq (.region false r370_1) (.seq (.seq (.region false r370_2) (.block 0 (l370_0))) (.seq (.region false r370_12) (.ret))))
def F370 : F := ⟨1, [0, 1, 2, 3, 5, 6, 7, 10, 11, 12, 13, 23, 26, 47], [.t 2], some 0, c370⟩
attribute [go_sem] r370_0 r370_1 r370_2 r370_3 r370_4 r370_5 r370_6 r370_7 r370_8 r370_9 r370_10 r370_11 b370_0 r370_12 c370 F370
def r371_0 : List Op := [t_ 1 <|.box (.g 0),t_ 2 <|.mov (.c (.slice 36 []))]
def r371_1 : List Op := [f_ 5 <|.fad (.g 1) 8,f_ 6 <|.load (.v 1) (some 20) (.l 0),t_ 3 <|.alloc [.int .i64 0, .int .i64 0, .int .i64 0, .int .i64 0, .int .i64 0, .int .i64 0, .int .i64 0, .int .i64 0, .str [], .slice 1 [], .int .i64 0, .int .i64 0, .int .i64 0, .str [], .str [], .slice 1 [], .int .i64 0, .int .i64 0, .int .i64 0, .slice 1 []],u_ <|.store (.v 3) 20 (.l 2) (.l 1)]
def r371_2 : List Op := [f_ 7 <|.load (.v 1) (some 29) (.g 1),f_ 8 <|.fad (.g 3) 5,f_ 9 <|.load (.v 3) none (.l 1),f_ 10 <|.call (.k 357) .no none [.l 0, .l 2],f_ 11 <|.fad (.g 3) 5,f_ 12 <|.load (.v 3) none (.l 4),f_ 13 <|.fad (.g 3) 3,f_ 14 <|.load (.v 3) none (.l 6),f_ 15 <|.fad (.g 3) 2,f_ 16 <|.load (.v 3) none (.l 8),f_ 17 <|.build [.int .i64 0, .int .i64 0, .int .i64 0, .int .i64 0, .int .i64 0, .int .i64 0, .int .i64 0, .int .i64 0, .int .i64 0, .int .i64 0, .int .i64 0, .int .i64 0, .str [], .int .i64 0, .int .i64 0, .int .i64 0, .str [], .str [], .bool false, .str [], .int .i64 0, .int .i64 0, .int .i64 0, .str [], .int .i64 0, .int .i64 0, .int .i64 0, .int .i64 0, .int .i64 0, .bool false, .str [], .slice 2 [], .str [], .bool false, .slice 5 [], .slice 1 []] [(2, 1, .l 3), (7, 1, .l 5), (3, 1, .l 7), (5, 1, .l 9)],t_ 4 <|.alloc [.int .i64 0, .int .i64 0, .int .i64 0, .int .i64 0, .int .i64 0, .int .i64 0, .int .i64 0, .int .i64 0, .int .i64 0, .int .i64 0, .int .i64 0, .int .i64 0, .str [], .int .i64 0, .int .i64 0, .int .i64 0, .str [], .str [], .bool false, .str [], .int .i64 0, .int .i64 0, .int .i64 0, .str [], .int .i64 0, .int .i64 0, .int .i64 0, .int .i64 0, .int .i64 0, .bool false, .str [], .slice 2 [], .str [], .bool false, .slice 5 [], .slice 1 []],u_ <|.store (.v 4) 36 (.l 11) (.l 10)]
def r371_3 : List Op := [f_ 19 <|.fad (.g 3) 1,f_ 20 <|.load (.v 3) none (.l 0),f_ 21 <|.bin .eql (.l 1) (ci 7),t_ 18 <|.mov (.l 2)]
def r371_4 : List Op := [f_ 22 <|.fad (.g 4) 0,u_ <|.store (.v 4) 1 (.l 0) (ci 22)]
def r371_5 : List Op := [f_ 24 <|.fad (.g 3) 0,f_ 25 <|.load (.v 3) none (.l 0),f_ 26 <|.bin .eql (.l 1) (ci 2),f_ 27 <|.mov (.l 2),y_ 28 3 <|.fad (.g 3) 1,y_ 29 3 <|.load (.v 3) none (.l 4),y_ 30 3 <|.bin .eql (.l 5) (ci 1),f_ 31 <|.pick (.l 3) (.l 6) (cb false),t_ 23 <|.mov (.l 7)]
def r371_6 : List Op := [f_ 32 <|.fad (.g 3) 7,f_ 33 <|.load (.v 3) none (.l 0),f_ 34 <|.fad (.g 3) 2,f_ 35 <|.load (.v 3) none (.l 2),f_ 36 <|.fad (.g 3) 8,f_ 37 <|.load (.v 3) none (.l 4),f_ 38 <|.fad (.g 4) 0,u_ <|.store (.v 4) 1 (.l 6) (ci 26),f_ 39 <|.fad (.g 4) 4,u_ <|.store (.v 4) 1 (.l 8) (.l 1),f_ 40 <|.fad (.g 4) 8,u_ <|.store (.v 4) 1 (.l 10) (.l 3),f_ 41 <|.fad (.g 4) 12,u_ <|.store (.v 4) 1 (.l 12) (.l 5)]
def r371_7 : List Op := [f_ 43 <|.fad (.g 3) 0,f_ 44 <|.load (.v 3) none (.l 0),f_ 45 <|.bin .eql (.l 1) (ci 3),f_ 46 <|.mov (.l 2),y_ 47 3 <|.fad (.g 3) 1,y_ 48 3 <|.load (.v 3) none (.l 4),y_ 49 3 <|.bin .eql (.l 5) (ci 1),f_ 50 <|.pick (.l 3) (.l 6) (cb false),t_ 42 <|.mov (.l 7)]
def r371_8 : List Op := [f_ 51 <|.fad (.g 3) 7,f_ 52 <|.load (.v 3) none (.l 0),f_ 53 <|.fad (.g 3) 4,f_ 54 <|.load (.v 3) none (.l 2),f_ 55 <|.fad (.g 4) 0,u_ <|.store (.v 4) 1 (.l 4) (ci 28),f_ 56 <|.fad (.g 4) 4,u_ <|.store (.v 4) 1 (.l 6) (.l 1),f_ 57 <|.fad (.g 4) 8,u_ <|.store (.v 4) 1 (.l 8) (.l 3)]
def r371_9 : List Op := [f_ 59 <|.fad (.g 3) 0,f_ 60 <|.load (.v 3) none (.l 0),f_ 61 <|.bin .neq (.l 1) (ci 1),t_ 58 <|.mov (.l 2)]
def r371_10 : List Op := [t_ 2 <|.mko 36]
def r371_11 : List Op := [f_ 63 <|.fad (.g 3) 1,f_ 64 <|.load (.v 3) none (.l 0),f_ 65 <|.bin .eql (.l 1) (ci 1),t_ 62 <|.mov (.l 2)]
def r371_12 : List Op := [f_ 66 <|.fad (.g 3) 7,f_ 67 <|.load (.v 3) none (.l 0),f_ 68 <|.fad (.g 4) 0,u_ <|.store (.v 4) 1 (.l 2) (ci 12),f_ 69 <|.fad (.g 4) 4,u_ <|.store (.v 4) 1 (.l 4) (.l 1)]
def r371_13 : List Op := [f_ 71 <|.fad (.g 3) 1,f_ 72 <|.load (.v 3) none (.l 0),f_ 73 <|.bin .eql (.l 1) (ci 2),t_ 70 <|.mov (.l 2)]
def r371_14 : List Op := [f_ 74 <|.fad (.g 3) 9,f_ 75 <|.load (.v 3) none (.l 0),f_ 76 <|.len false (.l 1),f_ 77 <|.fad (.g 4) 0,u_ <|.store (.v 4) 1 (.l 3) (ci 14),f_ 78 <|.fad (.g 4) 8,u_ <|.store (.v 4) 1 (.l 5) (.l 2)]
def r371_15 : List Op := [f_ 80 <|.fad (.g 3) 1,f_ 81 <|.load (.v 3) none (.l 0),f_ 82 <|.bin .eql (.l 1) (ci 3),t_ 79 <|.mov (.l 2)]
def r371_16 : List Op := [f_ 83 <|.fad (.g 3) 9,f_ 84 <|.load (.v 3) none (.l 0),f_ 85 <|.call (.k 382) .no none [.l 1, .c (.str [])],f_ 86 <|.fad (.g 4) 0,u_ <|.store (.v 4) 1 (.l 3) (ci 16),f_ 87 <|.fad (.g 4) 3,u_ <|.store (.v 4) 1 (.l 5) (ci 0),f_ 88 <|.fad (.g 4) 12,u_ <|.store (.v 4) 1 (.l 7) (.l 2)]
def r371_17 : List Op := [f_ 90 <|.fad (.g 3) 1,f_ 91 <|.load (.v 3) none (.l 0),f_ 92 <|.bin .eql (.l 1) (ci 4),t_ 89 <|.mov (.l 2)]
def r371_18 : List Op := [f_ 93 <|.fad (.g 3) 2,f_ 94 <|.load (.v 3) none (.l 0),f_ 95 <|.fad (.g 4) 0,u_ <|.store (.v 4) 1 (.l 2) (ci 18),f_ 96 <|.fad (.g 4) 4,u_ <|.store (.v 4) 1 (.l 4) (.l 1)]
def r371_19 : List Op := [f_ 98 <|.fad (.g 3) 1,f_ 99 <|.load (.v 3) none (.l 0),f_ 100 <|.bin .eql (.l 1) (ci 5),t_ 97 <|.mov (.l 2)]
def r371_20 : List Op := [f_ 101 <|.fad (.g 4) 0,u_ <|.store (.v 4) 1 (.l 0) (ci 20)]
def r371_21 : List Op := [f_ 103 <|.fad (.g 3) 1,f_ 104 <|.load (.v 3) none (.l 0),f_ 105 <|.bin .eql (.l 1) (ci 6),t_ 102 <|.mov (.l 2)]
def r371_22 : List Op := [f_ 106 <|.fad (.g 4) 0,u_ <|.store (.v 4) 1 (.l 0) (ci 24)]
def r371_23 : List Op := [t_ 2 <|.mko 36]
def r371_24 : List Op := [f_ 107 <|.fad (.g 4) 0,f_ 108 <|.load (.v 4) none (.l 0),f_ 109 <|.bin .eql (.l 1) (ci 16),f_ 110 <|.mov (.l 2),n_ 111 3 <|.fad (.g 4) 0,n_ 112 3 <|.load (.v 4) none (.l 4),n_ 113 3 <|.bin .eql (.l 5) (ci 18),f_ 114 <|.pick (.l 3) (cb true) (.l 6),f_ 115 <|.mov (.l 7),n_ 116 8 <|.fad (.g 4) 0,n_ 117 8 <|.load (.v 4) none (.l 9),n_ 118 8 <|.bin .eql (.l 10) (ci 24),t_ 119 <|.pick (.l 8) (cb true) (.l 11)]
def r371_25 : List Op := [f_ 120 <|.load (.v 1) (some 29) (.g 1),f_ 121 <|.fad (.g 3) 6,f_ 122 <|.load (.v 3) none (.l 1),f_ 123 <|.call (.k 357) .no none [.l 0, .l 2],f_ 124 <|.fad (.g 3) 6,f_ 125 <|.load (.v 3) none (.l 4),f_ 126 <|.fad (.g 4) 2,u_ <|.store (.v 4) 1 (.l 6) (.l 3),f_ 127 <|.fad (.g 4) 7,u_ <|.store (.v 4) 1 (.l 8) (.l 5)]
def r371_26 : List Op := [f_ 128 <|.load (.v 4) (some 36) (.g 4),f_ 129 <|.mkb 36 1 [.int .i64 0, .int .i64 0, .int .i64 0, .int .i64 0, .int .i64 0, .int .i64 0, .int .i64 0, .int .i64 0, .int .i64 0, .int .i64 0, .int .i64 0, .int .i64 0, .str [], .int .i64 0, .int .i64 0, .int .i64 0, .str [], .str [], .bool false, .str [], .int .i64 0, .int .i64 0, .int .i64 0, .str [], .int .i64 0, .int .i64 0, .int .i64 0, .int .i64 0, .int .i64 0, .bool false, .str [], .slice 2 [], .str [], .bool false, .slice 5 [], .slice 1 []] [(0, .l 0)],t_ 2 <|.mov (.l 1)]
def c371 : C := .seq (.region false r371_0) (.seq (.region false r371_1) (.seq (.region true r371_2) (.seq (.block 0 (.seq (.region false r371_3) (.cond (.g 18) (.region false r371_4) (.seq (.region false r371_5) (.cond (.g 23) (.region true r371_6) (.seq (.region false r371_7) (.cond (.g 42) (.region true r371_8) (.seq (.region false r371_9) (.cond (.g 58) (.seq (.region false r371_10) (.ret)) (.seq (.region false r371_11) (.cond (.g 62) (.region true r371_12) (.seq (.region false r371_13) (.cond (.g 70) (.region true r371_14) (.seq (.region false r371_15) (.cond (.g 79) (.region false r371_16) (.seq (.region false r371_17) (.cond (.g 89) (.region true r371_18) (.seq (.region false r371_19) (.cond (.g 97) (.region false r371_20) (.seq (.region false r371_21) (.cond (.g 102) (.region false r371_22) (.seq (.region false r371_23) (.ret))))))))))))))))))))))) (.seq (.seq (.region false r371_24) (.cond (.g 119) (.region true r371_25) (.skip))) (.seq (.region false r371_26) (.ret))))))
def F371 : F := ⟨1, [0, 1, 2, 3, 4, 18, 23, 42, 58, 62, 70, 79, 89, 97, 102, 119], [.t 2], some 0, c371⟩
attribute [go_sem] r371_0 r371_1 r371_2 r371_3 r371_4 r371_5 r371_6 r371_7 r371_8 r371_9 r371_10 r371_11 r371_12 r371_13 r371_14 r371_15 r371_16 r371_17 r371_18 r371_19 r371_20 r371_21 r371_22 r371_23 r371_24 r371_25 r371_26 c371 F371
def r375_0 : List Op := [t_ 1 <|.box (.g 0),t_ 2 <|.mov (.c (.slice 36 []))]
def r375_1 : List Op := [f_ 3 <|.fad (.g 1) 0,f_ 4 <|.load (.v 1) none (.l 0),f_ 5 <|.bin .add (ci 10) (.l 1),f_ 6 <|.fad (.g 1) 1,f_ 7 <|.load (.v 1) none (.l 3),f_ 8 <|.fad (.g 1) 2,f_ 9 <|.load (.v 1) none (.l 5),f_ 10 <|.fad (.g 1) 3,f_ 11 <|.load (.v 1) (some 3) (.l 7),f_ 12 <|.fad (.g 1) 6,f_ 13 <|.load (.v 1) none (.l 9),f_ 14 <|.build [.int .i64 0, .int .i64 0, .int .i64 0, .int .i64 0, .bool false, .str [], .slice 2 [], .str [], .bool false] [(0, 1, .l 10)],f_ 15 <|.build [.int .i64 0, .int .i64 0, .int .i64 0, .int .i64 0, .int .i64 0, .int .i64 0, .int .i64 0, .int .i64 0, .int .i64 0, .int .i64 0, .int .i64 0, .int .i64 0, .str [], .int .i64 0, .int .i64 0, .int .i64 0, .str [], .str [], .bool false, .str [], .int .i64 0, .int .i64 0, .int .i64 0, .str [], .int .i64 0, .int .i64 0, .int .i64 0, .int .i64 0, .int .i64 0, .bool false, .str [], .slice 2 [], .str [], .bool false, .slice 5 [], .slice 1 []] [(0, 1, .c (.int .i64 6)), (2, 1, .l 2), (7, 1, .l 4), (6, 1, .l 6), (9, 3, .l 8), (25, 9, .l 11)],f_ 16 <|.mkb 36 1 [.int .i64 0, .int .i64 0, .int .i64 0, .int .i64 0, .int .i64 0, .int .i64 0, .int .i64 0, .int .i64 0, .int .i64 0, .int .i64 0, .int .i64 0, .int .i64 0, .str [], .int .i64 0, .int .i64 0, .int .i64 0, .str [], .str [], .bool false, .str [], .int .i64 0, .int .i64 0, .int .i64 0, .str [], .int .i64 0, .int .i64 0, .int .i64 0, .int .i64 0, .int .i64 0, .bool false, .str [], .slice 2 [], .str [], .bool false, .slice 5 [], .slice 1 []] [(0, .l 12)],t_ 2 <|.mov (.l 13)]
def c375 : C := .seq (.region false r375_0) (.seq (.region false r375_1) (.ret))
def F375 : F := ⟨1, [0, 1, 2], [.t 2], some 0, c375⟩
attribute [go_sem] r375_0 r375_1 c375 F375
def r376_0 : List Op := [t_ 2 <|.box (.g 0),t_ 3 <|.box (.g 1),t_ 4 <|.alloc [.slice 5 [], .slice 3 [], .int .i64 0, .slice 5 [], .slice 3 [], .int .i64 0, .int .i64 0, .int .i64 0, .int .i64 0, .int .i64 0, .int .i64 0, .int .i64 0, .int .i64 0, .int .i64 0, .int .i64 0, .int .i64 0, .str [], .slice 1 [], .int .i64 0, .int .i64 0, .int .i64 0, .str [], .str [], .slice 1 [], .int .i64 0, .int .i64 0, .int .i64 0, .slice 1 [], .slice 7 []]]
def r376_1 : List Op := [f_ 6 <|.fad (.g 2) 28,f_ 7 <|.load (.v 2) none (.l 0),f_ 8 <|.fn 383 [.g 3] [3],f_ 9 <|.call (.k 384) .borrow none [.l 1, .l 2],t_ 5 <|.mov (.l 3)]
def r376_2 : List Op := [f_ 10 <|.fad (.g 2) 28,f_ 11 <|.load (.v 2) none (.l 0),f_ 12 <|.call (.k 385) .freeze (some 0) [.l 1],f_ 13 <|.fad (.g 2) 28,u_ <|.store (.v 2) 1 (.l 3) (.l 2)]
def r376_3 : List Op := [f_ 22 <|.mov (.g 5),f_ 23 <|.bin .lss (.l 0) (ci 0),t_ 21 <|.mov (.l 1)]
def r376_4 : List Op := [f_ 24 <|.fad (.g 2) 28,f_ 25 <|.load (.v 2) none (.l 0),f_ 26 <|.load (.v 3) (some 7) (.g 3),f_ 27 <|.mks 7 1 [.int .i64 0, .int .i64 0, .int .i64 0, .int .i64 0, .int .i64 0, .int .i64 0, .int .i64 0] [(0, .l 2)],f_ 28 <|.app 12 7 (.l 1) (.l 3),f_ 29 <|.fad (.g 2) 28,u_ <|.store (.v 2) 1 (.l 5) (.l 4)]
def r376_5 : List Op := [f_ 31 <|.fad (.g 2) 28,f_ 32 <|.load (.v 2) none (.l 0),f_ 33 <|.mov (.g 5),f_ 34 <|.iad 7 (.l 1) (.l 2),f_ 35 <|.fad (.l 3) 0,f_ 36 <|.load (.e 12) none (.l 4),f_ 37 <|.fad (.g 3) 0,f_ 38 <|.load (.v 3) none (.l 6),f_ 39 <|.bin .eql (.l 5) (.l 7),t_ 30 <|.mov (.l 8)]
def r376_6 : List Op := [f_ 40 <|.fad (.g 2) 28,f_ 41 <|.load (.v 2) none (.l 0),f_ 42 <|.mov (.g 5),f_ 43 <|.load (.v 3) (some 7) (.g 3),f_ 44 <|.iad 7 (.l 1) (.l 2),u_ <|.store (.e 12) 7 (.l 4) (.l 3)]
def r376_7 : List Op := [f_ 14 <|.fad (.g 2) 28,f_ 15 <|.load (.v 2) none (.l 0),f_ 16 <|.mov (.g 5),f_ 17 <|.load (.v 3) (some 7) (.g 3),f_ 18 <|.mks 7 1 [.int .i64 0, .int .i64 0, .int .i64 0, .int .i64 0, .int .i64 0, .int .i64 0, .int .i64 0] [(0, .l 3)],f_ 19 <|.ins 386 12 7 (.l 1) (.l 2) (.l 4),f_ 20 <|.fad (.g 2) 28,u_ <|.store (.v 2) 1 (.l 6) (.l 5)]
def r376_8 : List Op := [f_ 45 <|.load (.v 2) (some 29) (.g 2),u_ <|.store (.v 4) 29 (.g 4) (.l 0)]
def c376 : C := .seq (.region false r376_0) (.seq (.region false r376_1) (.seq (.region false r376_2) (.seq (.block 0 (.seq (.region false r376_3) (.cond (.g 21) (.region false r376_4) (.seq (.region true r376_5) (.cond (.g 30) (.region false r376_6) (.region false r376_7)))))) (.seq (.region false r376_8) (.ret)))))
def F376 : F := ⟨2, [0, 1, 2, 3, 4, 5, 21, 30], [.cell 4 (some 29)], none, c376⟩
attribute [go_sem] r376_0 r376_1 r376_2 r376_3 r376_4 r376_5 r376_6 r376_7 r376_8 c376 F376
def r377_0 : List Op := [t_ 2 <|.box (.g 0),t_ 3 <|.box (.g 1),t_ 4 <|.mov (.c (.slice 1 []))]
def r377_1 : List Op := [t_ 5 <|.mko 1]
def r377_2 : List Op := [f_ 8 <|.fad (.g 2) 0,f_ 9 <|.load (.v 2) none (.l 0),f_ 10 <|.load (.v 3) (some 2) (.g 3),t_ 11 <|.call (.k 145) .no none [.l 1, .l 2],t_ 12 <|.len false (.l 3),t_ 13 <|.mov (ci 0)]
def r377_3 : List Op := [t_ 14 <|.bin .lss (.g 13) (.g 12)]
def r377_4 : List Op := [f_ 15 <|.iad 5 (.g 11) (.g 13),f_ 16 <|.load (.c) (some 5) (.l 0),t_ 7 <|.alloc [.str [], .str [], .int .i64 0, .int .i64 0, .int .i64 0],u_ <|.store (.v 7) 5 (.l 2) (.l 1)]
def r377_5 : List Op := [f_ 17 <|.mov (.g 5),f_ 18 <|.fad (.g 7) 2,f_ 19 <|.load (.v 7) none (.l 1),f_ 20 <|.mks 1 1 [.int .i64 0] [(0, .l 2)],f_ 21 <|.app 5 1 (.l 0) (.l 3),t_ 5 <|.mov (.l 4)]
def r377_6 : List Op := [f_ 22 <|.bin .add (.g 13) (ci 1),t_ 13 <|.mov (.l 0)]
def b377_0 : C := .seq (.region false r377_3) (.seq (.cond (.g 14) (.skip) (.exit 0)) (.seq (.block 1 (.seq (.region false r377_4) (.region false r377_5))) (.region false r377_6)))
def l377_0 : C := .loop [] [] [7] [] b377_0
def r377_7 : List Op := [f_ 23 <|.mov (.g 5),t_ 4 <|.mov (.l 0)]
def c377 : C := .seq (.region false r377_0) (.seq (.region false r377_1) (.seq (.seq (.region false r377_2) (.block 0 (l377_0))) (.seq (.region false r377_7) (.ret))))
def F377 : F := ⟨2, [0, 1, 2, 3, 4, 5, 7, 11, 12, 13, 14], [.t 4], none, c377⟩
attribute [go_sem] r377_0 r377_1 r377_2 r377_3 r377_4 r377_5 r377_6 b377_0 r377_7 c377 F377
def r379_0 : List Op := [t_ 1 <|.box (.g 0),t_ 2 <|.alloc [.slice 5 [], .slice 3 [], .int .i64 0, .slice 5 [], .slice 3 [], .int .i64 0, .int .i64 0, .int .i64 0, .int .i64 0, .int .i64 0, .int .i64 0, .int .i64 0, .int .i64 0, .int .i64 0, .int .i64 0, .int .i64 0, .str [], .slice 1 [], .int .i64 0, .int .i64 0, .int .i64 0, .str [], .str [], .slice 1 [], .int .i64 0, .int .i64 0, .int .i64 0, .slice 1 [], .slice 7 []],t_ 3 <|.mov (.c (.slice 36 []))]
def r379_1 : List Op := [f_ 8 <|.fad (.g 1) 8,f_ 9 <|.load (.v 1) (some 20) (.l 0),t_ 4 <|.alloc [.int .i64 0, .int .i64 0, .int .i64 0, .int .i64 0, .int .i64 0, .int .i64 0, .int .i64 0, .int .i64 0, .str [], .slice 1 [], .int .i64 0, .int .i64 0, .int .i64 0, .str [], .str [], .slice 1 [], .int .i64 0, .int .i64 0, .int .i64 0, .slice 1 []],u_ <|.store (.v 4) 20 (.l 2) (.l 1)]
def r379_2 : List Op := [f_ 11 <|.fad (.g 1) 3,f_ 12 <|.load (.v 1) none (.l 0),f_ 13 <|.fad (.g 4) 2,f_ 14 <|.load (.v 4) none (.l 2),f_ 15 <|.fad (.g 4) 16,f_ 16 <|.load (.v 4) (some 3) (.l 4),f_ 17 <|.call (.k 120) .no none [.l 1, .l 3, .l 5],f_ 10 <|.mov (.l 6),f_ 18 <|.ext (.l 7) 0,f_ 19 <|.ext (.l 7) 1,t_ 5 <|.mov (.l 8),t_ 6 <|.mov (.l 9)]
def r379_3 : List Op := [f_ 20 <|.mov (.g 6),t_ 21 <|.bin .eql (.l 0) (ci 0)]
def r379_4 : List Op := [f_ 22 <|.mov (.g 5),f_ 23 <|.fad (.g 1) 3,u_ <|.store (.v 1) 1 (.l 1) (.l 0)]
def r379_5 : List Op := [f_ 24 <|.build [.int .i64 0, .int .i64 0, .int .i64 0, .int .i64 0, .int .i64 0, .int .i64 0, .int .i64 0, .int .i64 0, .str [], .slice 1 [], .int .i64 0, .int .i64 0, .int .i64 0, .str [], .str [], .slice 1 [], .int .i64 0, .int .i64 0, .int .i64 0, .slice 1 []] [],f_ 25 <|.fad (.g 1) 8,u_ <|.store (.v 1) 20 (.l 1) (.l 0)]
def r379_6 : List Op := [f_ 26 <|.fad (.g 4) 11,f_ 27 <|.load (.v 4) none (.l 0),f_ 28 <|.fad (.g 4) 12,f_ 29 <|.load (.v 4) none (.l 2),f_ 30 <|.fad (.g 4) 2,f_ 31 <|.load (.v 4) none (.l 4),f_ 32 <|.fad (.g 4) 16,f_ 33 <|.load (.v 4) (some 3) (.l 6),f_ 34 <|.build [.int .i64 0, .int .i64 0, .int .i64 0, .int .i64 0, .int .i64 0, .int .i64 0, .int .i64 0] [(0, 1, .l 1), (1, 1, .l 3), (2, 1, .l 5), (3, 3, .l 7)],t_ 7 <|.alloc [.int .i64 0, .int .i64 0, .int .i64 0, .int .i64 0, .int .i64 0, .int .i64 0, .int .i64 0],u_ <|.store (.v 7) 7 (.l 9) (.l 8)]
def r379_7 : List Op := [f_ 35 <|.fad (.g 7) 0,f_ 36 <|.load (.v 7) none (.l 0),f_ 37 <|.bin .lss (.l 1) (ci 1),f_ 38 <|.mov (.l 2),n_ 39 3 <|.fad (.g 7) 0,n_ 40 3 <|.load (.v 7) none (.l 4),n_ 41 3 <|.bin .gtr (.l 5) (ci 8),t_ 42 <|.pick (.l 3) (cb true) (.l 6)]
def r379_8 : List Op := [f_ 43 <|.load (.v 1) (some 29) (.g 1),u_ <|.store (.v 2) 29 (.g 2) (.l 0),t_ 3 <|.mko 36]
def r379_9 : List Op := [f_ 44 <|.load (.v 1) (some 29) (.g 1),f_ 45 <|.load (.v 7) (some 7) (.g 7),f_ 46 <|.call (.k 376) .no none [.l 0, .l 1],f_ 47 <|.load (.v 7) (some 7) (.g 7),f_ 48 <|.call (.k 375) .no (some 0) [.l 3],u_ <|.store (.v 2) 29 (.g 2) (.l 2),t_ 3 <|.mov (.l 4)]
def c379 : C := .seq (.region false r379_0) (.seq (.region false r379_1) (.seq (.seq (.region false r379_2) (.seq (.region false r379_3) (.cond (.g 21) (.region false r379_4) (.skip)))) (.seq (.region false r379_5) (.seq (.region false r379_6) (.seq (.seq (.region false r379_7) (.cond (.g 42) (.seq (.region false r379_8) (.ret)) (.skip))) (.seq (.region true r379_9) (.ret)))))))
def F379 : F := ⟨1, [0, 1, 2, 3, 4, 5, 6, 7, 21, 42], [.cell 2 (some 29), .t 3], some 1, c379⟩
attribute [go_sem] r379_0 r379_1 r379_2 r379_3 r379_4 r379_5 r379_6 r379_7 r379_8 r379_9 c379 F379
def r381_0 : List Op := [t_ 1 <|.box (.g 0),t_ 2 <|.alloc [.slice 5 [], .slice 3 [], .int .i64 0, .slice 5 [], .slice 3 [], .int .i64 0, .int .i64 0, .int .i64 0, .int .i64 0, .int .i64 0, .int .i64 0, .int .i64 0, .int .i64 0, .int .i64 0, .int .i64 0, .int .i64 0, .str [], .slice 1 [], .int .i64 0, .int .i64 0, .int .i64 0, .str [], .str [], .slice 1 [], .int .i64 0, .int .i64 0, .int .i64 0, .slice 1 [], .slice 7 []]]
def r381_1 : List Op := [f_ 6 <|.fad (.g 1) 8,f_ 7 <|.load (.v 1) (some 20) (.l 0),t_ 3 <|.alloc [.int .i64 0, .int .i64 0, .int .i64 0, .int .i64 0, .int .i64 0, .int .i64 0, .int .i64 0, .int .i64 0, .str [], .slice 1 [], .int .i64 0, .int .i64 0, .int .i64 0, .str [], .str [], .slice 1 [], .int .i64 0, .int .i64 0, .int .i64 0, .slice 1 []],u_ <|.store (.v 3) 20 (.l 2) (.l 1)]
def r381_2 : List Op := [f_ 9 <|.fad (.g 1) 0,f_ 10 <|.load (.v 1) none (.l 0),f_ 11 <|.fad (.g 3) 3,f_ 12 <|.load (.v 3) none (.l 2),f_ 13 <|.fad (.g 3) 8,f_ 14 <|.load (.v 3) none (.l 4),f_ 15 <|.fad (.g 3) 2,f_ 16 <|.load (.v 3) none (.l 6),f_ 17 <|.fad (.g 3) 2,f_ 18 <|.load (.v 3) none (.l 8),f_ 19 <|.call (.k 156) .no none [.l 1, .l 3, .l 5, .l 7, .l 9],f_ 8 <|.mov (.l 10),f_ 20 <|.ext (.l 11) 0,f_ 21 <|.ext (.l 11) 1,t_ 4 <|.mov (.l 12),t_ 5 <|.mov (.l 13)]
def r381_3 : List Op := [f_ 22 <|.fad (.g 3) 0,f_ 23 <|.load (.v 3) none (.l 0),t_ 24 <|.bin .eql (.l 1) (ci 3)]
def r381_4 : List Op := [f_ 26 <|.fad (.g 1) 0,f_ 27 <|.load (.v 1) none (.l 0),f_ 28 <|.fad (.g 3) 3,f_ 29 <|.load (.v 3) none (.l 2),f_ 30 <|.fad (.g 3) 4,f_ 31 <|.load (.v 3) none (.l 4),f_ 32 <|.fad (.g 3) 2,f_ 33 <|.load (.v 3) none (.l 6),f_ 34 <|.call (.k 157) .no none [.l 1, .l 3, .l 5, .l 7],f_ 25 <|.mov (.l 8),f_ 35 <|.ext (.l 9) 0,f_ 36 <|.ext (.l 9) 1,t_ 4 <|.mov (.l 10),t_ 5 <|.mov (.l 11)]
def r381_5 : List Op := [f_ 37 <|.mov (.g 5),t_ 38 <|.bin .eql (.l 0) (ci 0)]
def r381_6 : List Op := [f_ 39 <|.mov (.g 4),f_ 40 <|.fad (.g 1) 0,u_ <|.store (.v 1) 1 (.l 1) (.l 0)]
def r381_7 : List Op := [f_ 41 <|.build [.int .i64 0, .int .i64 0, .int .i64 0, .int .i64 0, .int .i64 0, .int .i64 0, .int .i64 0, .int .i64 0, .str [], .slice 1 [], .int .i64 0, .int .i64 0, .int .i64 0, .str [], .str [], .slice 1 [], .int .i64 0, .int .i64 0, .int .i64 0, .slice 1 []] [],f_ 42 <|.fad (.g 1) 8,u_ <|.store (.v 1) 20 (.l 1) (.l 0)]
def r381_8 : List Op := [f_ 43 <|.load (.v 1) (some 29) (.g 1),u_ <|.store (.v 2) 29 (.g 2) (.l 0)]
def c381 : C := .seq (.region false r381_0) (.seq (.region false r381_1) (.seq (.region false r381_2) (.seq (.seq (.region false r381_3) (.cond (.g 24) (.region false r381_4) (.skip))) (.seq (.seq (.region false r381_5) (.cond (.g 38) (.region false r381_6) (.skip))) (.seq (.region false r381_7) (.seq (.region false r381_8) (.ret)))))))
def F381 : F := ⟨1, [0, 1, 2, 3, 4, 5, 24, 38], [.cell 2 (some 29)], none, c381⟩
attribute [go_sem] r381_0 r381_1 r381_2 r381_3 r381_4 r381_5 r381_6 r381_7 r381_8 c381 F381
def r383_0 : List Op := [t_ 2 <|.box (.g 0),t_ 3 <|.mov (cb false)]
def r383_1 : List Op := [f_ 4 <|.fad (.g 2) 0,f_ 5 <|.load (.v 2) none (.l 0),f_ 6 <|.fad (.g 1) 0,f_ 7 <|.load (.c) none (.l 2),f_ 8 <|.bin .geq (.l 1) (.l 3),t_ 3 <|.mov (.l 4)]
def c383 : C := .seq (.region false r383_0) (.seq (.region false r383_1) (.ret))
def F383 : F := ⟨2, [0, 1, 2, 3], [.t 3], none, c383⟩
attribute [go_sem] r383_0 r383_1 c383 F383
def r384_0 : List Op := [t_ 4 <|.mov (ci 0)]
def r384_1 : List Op := [f_ 6 <|.mov (.g 0),t_ 7 <|.len false (.l 0),t_ 8 <|.mov (ci 0)]
def r384_2 : List Op := [t_ 9 <|.bin .lss (.g 8) (.g 7)]
def r384_3 : List Op := [f_ 10 <|.mov (.g 8),t_ 5 <|.mov (.l 0)]
def r384_4 : List Op := [f_ 11 <|.mov (.g 1),f_ 12 <|.mov (.g 0),f_ 13 <|.mov (.g 5),f_ 14 <|.iad 7 (.l 1) (.l 2),f_ 15 <|.load (.c) (some 7) (.l 3),t_ 16 <|.call (.v (.l 0)) .no none [.l 4]]
def r384_5 : List Op := [f_ 17 <|.mov (.g 5),t_ 4 <|.mov (.l 0)]
def r384_6 : List Op := [f_ 18 <|.bin .add (.g 8) (ci 1),t_ 8 <|.mov (.l 0)]
def b384_0 : C := .seq (.region false r384_2) (.seq (.cond (.g 9) (.skip) (.exit 0)) (.seq (.block 1 (.seq (.region false r384_3) (.seq (.region false r384_4) (.cond (.g 16) (.seq (.region false r384_5) (.ret)) (.skip))))) (.region false r384_6)))
def l384_0 : C := .loop [] [] [] [] b384_0
def r384_7 : List Op := [t_ 4 <|.mov (ci (-1))]
def c384 : C := .seq (.region false r384_0) (.seq (.seq (.region false r384_1) (.block 0 (l384_0))) (.seq (.region false r384_7) (.ret)))
def F384 : F := ⟨2, [0, 1, 4, 5, 7, 8, 9, 16], [.t 4], none, c384⟩
attribute [go_sem] r384_0 r384_1 r384_2 r384_3 r384_4 r384_5 r384_6 b384_0 r384_7 c384 F384
end Sg
namespace Sg
open _root_.Go _root_.Go.RowKit _root_.Go.Proofs _root_.Go.Shelf
set_option linter.unusedSimpArgs false
set_option linter.unusedVariables false
def renU : Shelf.Ren := ⟨fun | 197 => 140 | 260 => 154 | n => n, fun | 0 => 0 | 3 => 3 | 4 => 4 | 5 => 5 | 9 => 9 | 21 => 21 | 46 => 132 | 105 => 185 | 119 => 212 | 138 => 214 | 139 => 215 | n => n, fun | 3 => 0 | 4 => 1 | n => n⟩
set_option maxRecDepth 1000000 in
theorem lays197 : Lays.n197 Tryz.prog renU where
  mixed := by kernel_rfl
  f197 := Tryz.func140.trans (congrArg some (by kernel_rfl))
  f260 := Tryz.func154.trans (congrArg some (by kernel_rfl))
  t0 := Tryz.underlying0
  a0 := Tryz.isAgg0
  z0 := Tryz.sizeOf0
  v0 := Tryz.zeroValue0
  t3 := Tryz.underlying3
  a3 := Tryz.isAgg3
  z3 := Tryz.sizeOf3
  v3 := Tryz.zeroValue3
  t4 := Tryz.underlying4
  a4 := Tryz.isAgg4
  z4 := Tryz.sizeOf4
  v4 := Tryz.zeroValue4
  t5 := Tryz.underlying5
  a5 := Tryz.isAgg5
  z5 := Tryz.sizeOf5
  v5 := Tryz.zeroValue5
  t9 := Tryz.underlying9
  a9 := Tryz.isAgg9
  z9 := Tryz.sizeOf9
  v9 := Tryz.zeroValue9
  t21 := Tryz.underlying21
  a21 := Tryz.isAgg21
  z21 := Tryz.sizeOf21
  v21 := Tryz.zeroValue21
  t46 := Tryz.underlying132
  a46 := Tryz.isAgg132
  z46 := Tryz.sizeOf132
  v46 := Tryz.zeroValue132
  t105 := Tryz.underlying185
  a105 := Tryz.isAgg185
  z105 := Tryz.sizeOf185
  v105 := Tryz.zeroValue185
  t119 := Tryz.underlying212
  a119 := Tryz.isAgg212
  z119 := Tryz.sizeOf212
  t138 := Tryz.underlying214
  a138 := Tryz.isAgg214
  z138 := Tryz.sizeOf214
  v138 := Tryz.zeroValue214
  t139 := Tryz.underlying215
  a139 := Tryz.isAgg215
  z139 := Tryz.sizeOf215
  v139 := Tryz.zeroValue215
  g3 := by kernel_rfl
  g4 := by kernel_rfl
theorem dec_walk (s : ByteArray) (w : World) (hT : Lib.Utf8Tabs 0 1 w) :
    Calls Tryz.prog 140 #[.string s] w fun e w' => e = .returned (.tuple #[.int .i32 (Lib.decodeGo s).1, .int .i64 (Lib.decodeGo s).2]) ∧ Below w.heap.size w w' :=
  Any.utf8_DecodeRuneInString lays197 s w hT
theorem tabs_st (w w' : World) (h : Lib.Utf8Tabs 0 1 w) (hb : ∀ b, b < 2 → w'.heap[b]? = w.heap[b]?) : Lib.Utf8Tabs 0 1 w' := by
  have e : ∀ b o, b < 2 → w'.cell? ⟨b, o, none⟩ = w.cell? ⟨b, o, none⟩ := fun b o hlt => by
    simp only [World.cell?, hb b hlt]
  exact ⟨fun c hc => by rw [e _ _ (by decide)]; exact h.1 c hc, fun i hi => by rw [e _ _ (by decide), e _ _ (by decide)]; exact h.2 i hi⟩
def cxU (l : List (Nat × Nat)) : Cx where
  fm := fun n => (look l n).getD 0
  tm := fun n => n
  gn := 2
  G := Lib.Utf8Tabs 0 1
  Gst := tabs_st
set_option maxHeartbeats 4000000 in
set_option maxRecDepth 1000000 in
theorem key_walk (s : ByteArray) (w : World) (hgn : 2 ≤ w.heap.size) (hT : Lib.Utf8Tabs 0 1 w)
    (hplain : ∀ (r n : Int) (w : World), 2 ≤ w.heap.size → Lib.Utf8Tabs 0 1 w → Calls Tryz.prog 141 #[.int .i32 r, .int .i64 n] w fun e w' => e = .returned (.bool (plainR r n)) ∧ Below w.heap.size w w') :
    Calls Tryz.prog 120 #[.string s] w fun e w' => e = .returned (.bool (keyR s.data.toList)) ∧ Below w.heap.size w w' := by
  have t0 := Tryz.underlying0; have t3 := Tryz.underlying3; have t4 := Tryz.underlying4; have t9 := Tryz.underlying9; have t21 := Tryz.underlying21
  have hu0 := run_underlying t0; have hu3 := run_underlying t3; have hu4 := run_underlying t4; have hu9 := run_underlying t9; have hu21 := run_underlying t21
  have mixed : Tryz.prog.follows .mixedOrders = true := by kernel_rfl
  have a0 := Tryz.isAgg0; have z0 := Tryz.sizeOf0; have v0 := Tryz.zeroValue0
  have a3 := Tryz.isAgg3; have z3 := Tryz.sizeOf3; have v3 := Tryz.zeroValue3
  have a4 := Tryz.isAgg4; have z4 := Tryz.sizeOf4; have v4 := Tryz.zeroValue4
  have a9 := Tryz.isAgg9; have z9 := Tryz.sizeOf9; have v9 := Tryz.zeroValue9
  have a21 := Tryz.isAgg21; have z21 := Tryz.sizeOf21; have v21 := Tryz.zeroValue21
  go_enter Tryz.func120, Tryz.ntmps120
  go_wp2
  go_loopw [3] (fun _ wr => ∃ (pos fuel : Nat), wr.heap[w.heap.size]? = some (.stringIter s pos) ∧ Below w.heap.size w wr ∧ keyAll fuel (s.data.toList.drop pos) = keyAll s.size s.data.toList ∧ s.size ≤ pos + fuel) (fun _ wr => s.size - wr.iterPos w.heap.size)
  case atStart =>
    refine ⟨0, s.size, ?_, (Below.refl _ w).alloc (Nat.le_refl _) _, by simp, by omega⟩
    have := World.iter_heap w s 0
    simpa using this
  case round =>
    obtain ⟨pos, fuel, hit, hbw, hacc, hfu⟩ := hrel
    have hsz : w.heap.size < wr.heap.size := (Array.getElem?_eq_some_iff.1 hit).1
    have hbT : ∀ W : World, Below w.heap.size w W → Lib.Utf8Tabs 0 1 W := fun W h => tabs_st w W hT fun b hb => h.block b (by omega)
    by_cases hp : pos < s.size
    · have hnx : ∀ ty, (Instr.next (.pointer (some ⟨w.heap.size, 0, none⟩)) true ty).run Tryz.prog wr = _ := fun ty => Lib.run_next_any_at wr w.heap.size s pos ty hit hp
      have hbw2 := Lib.below_iterAt hbw (k := w.heap.size) (by omega) s (pos + (Utf8.decode s pos).2)
      have hit2 := Lib.iterAt_heap wr w.heap.size s pos (pos + (Utf8.decode s pos).2) hit
      have hsz2 : w.heap.size + 1 ≤ (wr.iterAt w.heap.size s (pos + (Utf8.decode s pos).2)).heap.size := by rw [Lib.iterAt_size]; omega
      have hde : ∀ n, n = s.size → Lib.decodeGo (s.extract pos n) = Utf8.decode s pos := fun n hn => decode_extract s pos n hn hp
      have hw1 := width_pos s pos
      obtain ⟨f, rfl⟩ : ∃ f, fuel = f + 1 := ⟨fuel - 1, by omega⟩
      have hnil : s.data.toList.drop pos ≠ [] := fun e => by
        exact drop_ne s pos hp e
      have hdN := decode_drop s pos
      simp only [keyAll, hnil, if_false, ← hdN] at hacc
      generalize Utf8.decode s pos = D at *
      clear hdN hnil
      obtain ⟨D1, D2⟩ := D
      simp only at hw1 hacc hbw2 hit2 hsz2 hde hnx
      have hsl := size_list s
      have hfin : ∀ W : World, plainR D1 D2 = false → keyR s.data.toList = false := fun W hpl => by
        rw [hpl, Bool.false_and] at hacc
        rw [keyR, hsl, ← hacc, Bool.false_and]
      clear hsl
      go_wp2_with (go_at_call 140; refine (dec_walk _ _ (hbT _ hbw2)).mono ?_; rintro e W1 ⟨rfl, b1⟩)
      have hb3 := hbw2.trans (b1.mono (by omega))
      have hs3 : W1.heap.size ≥ w.heap.size + 1 := Nat.le_trans hsz2 b1.size
      have hit3 : W1.heap[w.heap.size]? = some (.stringIter s (pos + D2)) := (b1.block _ (by omega)).trans hit2
      have hpl := hplain D1 D2 W1 (by omega) (hbT _ hb3)
      cases hP : plainR D1 D2 with
      | false =>
        rw [hP] at hpl
        have hke := hfin w hP
        clear hacc hfin
        go_wp2_with (go_at_call 141; refine hpl.mono ?_; rintro e W2 ⟨rfl, b2⟩)
        have hb4 := hb3.trans (b2.mono (by omega))
        go_wp2
        go_ret
        rw [hke]
        exact ⟨rfl, hb4⟩
      | true =>
        rw [hP, Bool.true_and, List.drop_drop] at hacc
        rw [hP] at hpl
        clear hfin
        obtain ⟨kk, hkk⟩ : ∃ kk, kk = keyAll s.size s.data.toList := ⟨_, rfl⟩
        go_wp2_with (go_at_call 141; refine hpl.mono ?_; rintro e W2 ⟨rfl, b2⟩)
        have hb4 := hb3.trans (b2.mono (by omega))
        have hit4 : W2.heap[w.heap.size]? = some (.stringIter s (pos + D2)) := (b2.block _ (by omega)).trans hit3
        go_wp2
        go_roundw
        case rel => exact ⟨pos + D2, f, hit4, hb4, hacc, by omega⟩
        case measure =>
          simp only [World.iterPos, hit4, hit]
          omega
    · have hnx : ∀ ty, (Instr.next (.pointer (some ⟨w.heap.size, 0, none⟩)) true ty).run Tryz.prog wr = _ := fun ty => Lib.run_next_end_at wr w.heap.size s pos ty hit hp
      have hall : keyAll s.size s.data.toList = true := by
        rw [← hacc, List.drop_eq_nil_of_le (by rw [size_list]; omega)]
        cases fuel <;> simp [keyAll]
      have hkey : keyR s.data.toList = (decide ((1 : Int) ≤ s.size) && decide ((s.size : Int) ≤ 16)) := by
        rw [keyR, size_list, hall, Bool.true_and]
        congr 1 <;> exact decide_eq_decide.2 (by omega)
      clear hacc hall
      by_cases h1 : (1 : Int) ≤ s.size
      · rw [decide_eq_true h1, Bool.true_and] at hkey
        go_wp2
        go_ret
        exact ⟨by first | rfl | (rw [hkey]; rfl), hbw⟩
      · rw [decide_eq_false h1, Bool.false_and] at hkey
        go_wp2
        go_ret
        exact ⟨by first | rfl | (rw [hkey]; rfl), hbw⟩
end Sg
namespace Sg
open _root_.Go _root_.Go.RowKit _root_.Go.Proofs _root_.Go.Shelf
def renJ : Shelf.Ren := ⟨fun | 156 => 125 | 165 => 145 | 166 => 146 | 169 => 147 | 240 => 156 | 241 => 157 | 276 => 162 | 277 => 163 | n => n, fun | 0 => 0 | 3 => 3 | 4 => 4 | 5 => 5 | 9 => 9 | 20 => 20 | 31 => 28 | 37 => 191 | 72 => 193 | 70 => 190 | 75 => 196 | 76 => 197 | 80 => 199 | 127 => 209 | 164 => 216 | n => n, fun n => n⟩
set_option maxRecDepth 1000000 in
theorem lays156 : Lays.n156 Tryz.prog renJ where
  mixed := by kernel_rfl
  f156 := Tryz.func125.trans (congrArg some (by kernel_rfl))
  f165 := Tryz.func145.trans (congrArg some (by kernel_rfl))
  f166 := Tryz.func146.trans (congrArg some (by kernel_rfl))
  f169 := Tryz.func147.trans (congrArg some (by kernel_rfl))
  f240 := Tryz.func156.trans (congrArg some (by kernel_rfl))
  f241 := Tryz.func157.trans (congrArg some (by kernel_rfl))
  f276 := Tryz.func162.trans (congrArg some (by kernel_rfl))
  f277 := Tryz.func163.trans (congrArg some (by kernel_rfl))
  t0 := Tryz.underlying0
  a0 := Tryz.isAgg0
  z0 := Tryz.sizeOf0
  v0 := Tryz.zeroValue0
  t3 := Tryz.underlying3
  a3 := Tryz.isAgg3
  z3 := Tryz.sizeOf3
  v3 := Tryz.zeroValue3
  t4 := Tryz.underlying4
  a4 := Tryz.isAgg4
  z4 := Tryz.sizeOf4
  v4 := Tryz.zeroValue4
  t9 := Tryz.underlying9
  a9 := Tryz.isAgg9
  z9 := Tryz.sizeOf9
  v9 := Tryz.zeroValue9
  t20 := Tryz.underlying20
  a20 := Tryz.isAgg20
  z20 := Tryz.sizeOf20
  v20 := Tryz.zeroValue20
  t31 := Tryz.underlying28
  a31 := Tryz.isAgg28
  z31 := Tryz.sizeOf28
  v31 := Tryz.zeroValue28
  t37 := Tryz.underlying191
  a37 := Tryz.isAgg191
  z37 := Tryz.sizeOf191
  v37 := Tryz.zeroValue191
  t70 := Tryz.underlying190
  a70 := Tryz.isAgg190
  z70 := Tryz.sizeOf190
  v70 := Tryz.zeroValue190
  t72 := Tryz.underlying193
  a72 := Tryz.isAgg193
  z72 := Tryz.sizeOf193
  v72 := Tryz.zeroValue193
  t75 := Tryz.underlying196
  a75 := Tryz.isAgg196
  z75 := Tryz.sizeOf196
  v75 := Tryz.zeroValue196
  t76 := Tryz.underlying197
  a76 := Tryz.isAgg197
  z76 := Tryz.sizeOf197
  v76 := Tryz.zeroValue197
  t127 := Tryz.underlying209
  a127 := Tryz.isAgg209
  z127 := Tryz.sizeOf209
  v127 := Tryz.zeroValue209
  t164 := Tryz.underlying216
  a164 := Tryz.isAgg216
  z164 := Tryz.sizeOf216
  v164 := Tryz.zeroValue216
theorem bldX : Builder.Extra Tryz.prog renJ where
  sizeBuilder := by kernel_rfl
  liesBuilder := by kernel_rfl
  t5 := Tryz.underlying5
  a5 := Tryz.isAgg5
  z5 := Tryz.sizeOf5
  v5 := Tryz.zeroValue5
  infoByte := by kernel_rfl
  cellsByte := by kernel_rfl
  sizeByte := by kernel_rfl
  neB5 := by decide
theorem joinCt (l : List (Nat × Nat)) (id : Nat) (h : (cxU l).fm id = 125) : ∀ args r, joinQ args = some r → Ctr Tryz.prog (cxU l) none id args r :=
  join_ctr (by rw [h]; exact ⟨_, Tryz.func125, by kernel_rfl, by kernel_rfl⟩) lays156 bldX h
end Sg
namespace Sg
open Go.Proofs
open _root_.Go
def noQ : List V → Option V := fun _ => none
def dirFm : List (Nat × Nat) := [(338, 6), (324, 9), (325, 8), (339, 20), (328, 12), (326, 10), (340, 21), (335, 17), (331, 14), (341, 22), (344, 26), (141, 29), (126, 30), (28, 31), (346, 32), (347, 33), (348, 34), (327, 11), (357, 57), (121, 65), (361, 66), (362, 67), (363, 68), (364, 69), (365, 70), (355, 55), (112, 54), (113, 25), (356, 56), (15, 24), (352, 41), (65, 42), (159, 44), (156, 45), (157, 46), (148, 47), (366, 72), (67, 71), (367, 73), (162, 78), (163, 79), (164, 81), (165, 80), (166, 82), (32, 83), (369, 84), (154, 27), (345, 28), (133, 100), (21, 104), (109, 105), (375, 107), (186, 108), (376, 109), (377, 110), (75, 87), (379, 112), (381, 114), (370, 96), (371, 97), (131, 76), (26, 75), (27, 74), (177, 88), (175, 89), (178, 90), (76, 115), (185, 117), (368, 77), (138, 128), (139, 127), (128, 129), (129, 130), (130, 131), (192, 132), (383, 134), (384, 133), (145, 137), (120, 138), (31, 116), (194, 119), (171, 121), (137, 148), (191, 141), (172, 151), (193, 159), (179, 64), (69, 43), (134, 102), (136, 101), (373, 103), (374, 106), (378, 111), (380, 113), (180, 91), (181, 92), (170, 120), (385, 135), (386, 136), (382, 125), (190, 140), (135, 152)]
def dirTab : List (Nat × Fn) := [(338, .code F338), (324, .code F324), (325, .code F325), (339, .code F339), (328, .code F328), (326, .code F326), (340, .code F340), (335, .code F335), (331, .code F331), (341, .code F341), (344, .code F344), (141, .code F141), (126, .code F126), (28, .code F28), (346, .code F346), (347, .code F347), (348, .code F348), (327, .code F327), (357, .code F357), (121, .code F121), (361, .code F361), (362, .code F362), (363, .code F363), (364, .code F364), (365, .code F365), (355, .code F355), (112, .code F112), (113, .code F113), (356, .code F356), (15, .code F15), (352, .code F352), (65, .code F65), (159, .code F159), (156, .code F156), (157, .code F157), (148, .code F148), (366, .code F366), (67, .code F67), (367, .code F367), (162, .code F162), (163, .code F163), (164, .code F164), (165, .code F165), (166, .code F166), (32, .code F32), (369, .code F369), (154, .code F154), (345, .code F345), (133, .code F133), (21, .code F21), (109, .code F109), (375, .code F375), (186, .code F186), (376, .code F376), (377, .code F377), (75, .code F75), (379, .code F379), (381, .code F381), (370, .code F370), (371, .code F371), (131, .code F131), (26, .code F26), (27, .code F27), (177, .code F177), (175, .code F175), (178, .code F178), (76, .code F76), (185, .code F185), (368, .code F368), (138, .code F138), (139, .code F139), (128, .code F128), (129, .code F129), (130, .code F130), (192, .code F192), (383, .code F383), (384, .code F384), (145, .code F145), (120, .code F120), (31, .code F31), (194, .code F194), (171, .code F171), (137, .code F137), (172, .code F172), (193, .code F193), (179, .prim (some 0) (cloneQ 5)), (69, .prim (some 0) (cloneQ 1)), (134, .prim (some 0) (cloneQ 5)), (136, .prim (some 2005) noQ), (373, .prim (some 0) (cloneQ 3)), (374, .prim (some 0) (cloneQ 3)), (378, .prim (some 2001) noQ), (380, .prim (some 0) (cloneQ 1)), (180, .prim (some 1005) noQ), (181, .prim (some 2005) noQ), (170, .prim none keyQ), (385, .prim (some 0) (cloneQ 7)), (386, .prim (some 1007) noQ), (382, .prim none joinQ), (190, .prim none decQ), (135, .prim (some 1005) noQ)]
set_option maxRecDepth 100000
theorem okc {P : Go.Program} {cx : Cx} {tab : List (Nat × Fn)} {k : Nat} {F : F} {l : List (Nat × Fn)} (h : okF P cx (look tab) (cx.fm k) F = true) (t : okTab P cx tab l = true) : okTab P cx tab ((k, .code F) :: l) = true := by simp [okTab, h, t]
theorem okp {P : Go.Program} {cx : Cx} {tab : List (Nat × Fn)} {k : Nat} {o : Option Nat} {p} {l : List (Nat × Fn)} (t : okTab P cx tab l = true) : okTab P cx tab ((k, .prim o p) :: l) = true := t
theorem ok338 : okF Tryz.prog (cxU dirFm) (look dirTab) ((cxU dirFm).fm 338) F338 = true := by kernel_rfl
theorem ok324 : okF Tryz.prog (cxU dirFm) (look dirTab) ((cxU dirFm).fm 324) F324 = true := by kernel_rfl
theorem ok325 : okF Tryz.prog (cxU dirFm) (look dirTab) ((cxU dirFm).fm 325) F325 = true := by kernel_rfl
theorem ok339 : okF Tryz.prog (cxU dirFm) (look dirTab) ((cxU dirFm).fm 339) F339 = true := by kernel_rfl
theorem ok328 : okF Tryz.prog (cxU dirFm) (look dirTab) ((cxU dirFm).fm 328) F328 = true := by kernel_rfl
theorem ok326 : okF Tryz.prog (cxU dirFm) (look dirTab) ((cxU dirFm).fm 326) F326 = true := by kernel_rfl
theorem ok340 : okF Tryz.prog (cxU dirFm) (look dirTab) ((cxU dirFm).fm 340) F340 = true := by kernel_rfl
theorem ok335 : okF Tryz.prog (cxU dirFm) (look dirTab) ((cxU dirFm).fm 335) F335 = true := by kernel_rfl
theorem ok331 : okF Tryz.prog (cxU dirFm) (look dirTab) ((cxU dirFm).fm 331) F331 = true := by kernel_rfl
theorem ok341 : okF Tryz.prog (cxU dirFm) (look dirTab) ((cxU dirFm).fm 341) F341 = true := by kernel_rfl
theorem ok344 : okF Tryz.prog (cxU dirFm) (look dirTab) ((cxU dirFm).fm 344) F344 = true := by kernel_rfl
theorem ok141 : okF Tryz.prog (cxU dirFm) (look dirTab) ((cxU dirFm).fm 141) F141 = true := by kernel_rfl
theorem ok126 : okF Tryz.prog (cxU dirFm) (look dirTab) ((cxU dirFm).fm 126) F126 = true := by kernel_rfl
theorem ok28 : okF Tryz.prog (cxU dirFm) (look dirTab) ((cxU dirFm).fm 28) F28 = true := by kernel_rfl
theorem ok346 : okF Tryz.prog (cxU dirFm) (look dirTab) ((cxU dirFm).fm 346) F346 = true := by kernel_rfl
theorem ok347 : okF Tryz.prog (cxU dirFm) (look dirTab) ((cxU dirFm).fm 347) F347 = true := by kernel_rfl
theorem ok348 : okF Tryz.prog (cxU dirFm) (look dirTab) ((cxU dirFm).fm 348) F348 = true := by kernel_rfl
theorem ok327 : okF Tryz.prog (cxU dirFm) (look dirTab) ((cxU dirFm).fm 327) F327 = true := by kernel_rfl
theorem ok357 : okF Tryz.prog (cxU dirFm) (look dirTab) ((cxU dirFm).fm 357) F357 = true := by kernel_rfl
theorem ok121 : okF Tryz.prog (cxU dirFm) (look dirTab) ((cxU dirFm).fm 121) F121 = true := by kernel_rfl
theorem ok361 : okF Tryz.prog (cxU dirFm) (look dirTab) ((cxU dirFm).fm 361) F361 = true := by kernel_rfl
theorem ok362 : okF Tryz.prog (cxU dirFm) (look dirTab) ((cxU dirFm).fm 362) F362 = true := by kernel_rfl
theorem ok363 : okF Tryz.prog (cxU dirFm) (look dirTab) ((cxU dirFm).fm 363) F363 = true := by kernel_rfl
theorem ok364 : okF Tryz.prog (cxU dirFm) (look dirTab) ((cxU dirFm).fm 364) F364 = true := by kernel_rfl
theorem ok365 : okF Tryz.prog (cxU dirFm) (look dirTab) ((cxU dirFm).fm 365) F365 = true := by kernel_rfl
theorem ok355 : okF Tryz.prog (cxU dirFm) (look dirTab) ((cxU dirFm).fm 355) F355 = true := by kernel_rfl
theorem ok112 : okF Tryz.prog (cxU dirFm) (look dirTab) ((cxU dirFm).fm 112) F112 = true := by kernel_rfl
theorem ok113 : okF Tryz.prog (cxU dirFm) (look dirTab) ((cxU dirFm).fm 113) F113 = true := by kernel_rfl
theorem ok356 : okF Tryz.prog (cxU dirFm) (look dirTab) ((cxU dirFm).fm 356) F356 = true := by kernel_rfl
theorem ok15 : okF Tryz.prog (cxU dirFm) (look dirTab) ((cxU dirFm).fm 15) F15 = true := by kernel_rfl
theorem ok352 : okF Tryz.prog (cxU dirFm) (look dirTab) ((cxU dirFm).fm 352) F352 = true := by kernel_rfl
theorem ok65 : okF Tryz.prog (cxU dirFm) (look dirTab) ((cxU dirFm).fm 65) F65 = true := by kernel_rfl
theorem ok159 : okF Tryz.prog (cxU dirFm) (look dirTab) ((cxU dirFm).fm 159) F159 = true := by kernel_rfl
theorem ok156 : okF Tryz.prog (cxU dirFm) (look dirTab) ((cxU dirFm).fm 156) F156 = true := by kernel_rfl
theorem ok157 : okF Tryz.prog (cxU dirFm) (look dirTab) ((cxU dirFm).fm 157) F157 = true := by kernel_rfl
theorem ok148 : okF Tryz.prog (cxU dirFm) (look dirTab) ((cxU dirFm).fm 148) F148 = true := by kernel_rfl
theorem ok366 : okF Tryz.prog (cxU dirFm) (look dirTab) ((cxU dirFm).fm 366) F366 = true := by kernel_rfl
theorem ok67 : okF Tryz.prog (cxU dirFm) (look dirTab) ((cxU dirFm).fm 67) F67 = true := by kernel_rfl
theorem ok367 : okF Tryz.prog (cxU dirFm) (look dirTab) ((cxU dirFm).fm 367) F367 = true := by kernel_rfl
theorem ok162 : okF Tryz.prog (cxU dirFm) (look dirTab) ((cxU dirFm).fm 162) F162 = true := by kernel_rfl
theorem ok163 : okF Tryz.prog (cxU dirFm) (look dirTab) ((cxU dirFm).fm 163) F163 = true := by kernel_rfl
theorem ok164 : okF Tryz.prog (cxU dirFm) (look dirTab) ((cxU dirFm).fm 164) F164 = true := by kernel_rfl
theorem ok165 : okF Tryz.prog (cxU dirFm) (look dirTab) ((cxU dirFm).fm 165) F165 = true := by kernel_rfl
theorem ok166 : okF Tryz.prog (cxU dirFm) (look dirTab) ((cxU dirFm).fm 166) F166 = true := by kernel_rfl
theorem ok32 : okF Tryz.prog (cxU dirFm) (look dirTab) ((cxU dirFm).fm 32) F32 = true := by kernel_rfl
theorem ok369 : okF Tryz.prog (cxU dirFm) (look dirTab) ((cxU dirFm).fm 369) F369 = true := by kernel_rfl
theorem ok154 : okF Tryz.prog (cxU dirFm) (look dirTab) ((cxU dirFm).fm 154) F154 = true := by kernel_rfl
theorem ok345 : okF Tryz.prog (cxU dirFm) (look dirTab) ((cxU dirFm).fm 345) F345 = true := by kernel_rfl
theorem ok133 : okF Tryz.prog (cxU dirFm) (look dirTab) ((cxU dirFm).fm 133) F133 = true := by kernel_rfl
theorem ok21 : okF Tryz.prog (cxU dirFm) (look dirTab) ((cxU dirFm).fm 21) F21 = true := by kernel_rfl
theorem ok109 : okF Tryz.prog (cxU dirFm) (look dirTab) ((cxU dirFm).fm 109) F109 = true := by kernel_rfl
theorem ok375 : okF Tryz.prog (cxU dirFm) (look dirTab) ((cxU dirFm).fm 375) F375 = true := by kernel_rfl
theorem ok186 : okF Tryz.prog (cxU dirFm) (look dirTab) ((cxU dirFm).fm 186) F186 = true := by kernel_rfl
theorem ok376 : okF Tryz.prog (cxU dirFm) (look dirTab) ((cxU dirFm).fm 376) F376 = true := by kernel_rfl
theorem ok377 : okF Tryz.prog (cxU dirFm) (look dirTab) ((cxU dirFm).fm 377) F377 = true := by kernel_rfl
theorem ok75 : okF Tryz.prog (cxU dirFm) (look dirTab) ((cxU dirFm).fm 75) F75 = true := by kernel_rfl
theorem ok379 : okF Tryz.prog (cxU dirFm) (look dirTab) ((cxU dirFm).fm 379) F379 = true := by kernel_rfl
theorem ok381 : okF Tryz.prog (cxU dirFm) (look dirTab) ((cxU dirFm).fm 381) F381 = true := by kernel_rfl
theorem ok370 : okF Tryz.prog (cxU dirFm) (look dirTab) ((cxU dirFm).fm 370) F370 = true := by kernel_rfl
theorem ok371 : okF Tryz.prog (cxU dirFm) (look dirTab) ((cxU dirFm).fm 371) F371 = true := by kernel_rfl
theorem ok131 : okF Tryz.prog (cxU dirFm) (look dirTab) ((cxU dirFm).fm 131) F131 = true := by kernel_rfl
theorem ok26 : okF Tryz.prog (cxU dirFm) (look dirTab) ((cxU dirFm).fm 26) F26 = true := by kernel_rfl
theorem ok27 : okF Tryz.prog (cxU dirFm) (look dirTab) ((cxU dirFm).fm 27) F27 = true := by kernel_rfl
theorem ok177 : okF Tryz.prog (cxU dirFm) (look dirTab) ((cxU dirFm).fm 177) F177 = true := by kernel_rfl
theorem ok175 : okF Tryz.prog (cxU dirFm) (look dirTab) ((cxU dirFm).fm 175) F175 = true := by kernel_rfl
theorem ok178 : okF Tryz.prog (cxU dirFm) (look dirTab) ((cxU dirFm).fm 178) F178 = true := by kernel_rfl
theorem ok76 : okF Tryz.prog (cxU dirFm) (look dirTab) ((cxU dirFm).fm 76) F76 = true := by kernel_rfl
theorem ok185 : okF Tryz.prog (cxU dirFm) (look dirTab) ((cxU dirFm).fm 185) F185 = true := by kernel_rfl
theorem ok368 : okF Tryz.prog (cxU dirFm) (look dirTab) ((cxU dirFm).fm 368) F368 = true := by kernel_rfl
theorem ok138 : okF Tryz.prog (cxU dirFm) (look dirTab) ((cxU dirFm).fm 138) F138 = true := by kernel_rfl
theorem ok139 : okF Tryz.prog (cxU dirFm) (look dirTab) ((cxU dirFm).fm 139) F139 = true := by kernel_rfl
theorem ok128 : okF Tryz.prog (cxU dirFm) (look dirTab) ((cxU dirFm).fm 128) F128 = true := by kernel_rfl
theorem ok129 : okF Tryz.prog (cxU dirFm) (look dirTab) ((cxU dirFm).fm 129) F129 = true := by kernel_rfl
theorem ok130 : okF Tryz.prog (cxU dirFm) (look dirTab) ((cxU dirFm).fm 130) F130 = true := by kernel_rfl
theorem ok192 : okF Tryz.prog (cxU dirFm) (look dirTab) ((cxU dirFm).fm 192) F192 = true := by kernel_rfl
theorem ok383 : okF Tryz.prog (cxU dirFm) (look dirTab) ((cxU dirFm).fm 383) F383 = true := by kernel_rfl
theorem ok384 : okF Tryz.prog (cxU dirFm) (look dirTab) ((cxU dirFm).fm 384) F384 = true := by kernel_rfl
theorem ok145 : okF Tryz.prog (cxU dirFm) (look dirTab) ((cxU dirFm).fm 145) F145 = true := by kernel_rfl
theorem ok120 : okF Tryz.prog (cxU dirFm) (look dirTab) ((cxU dirFm).fm 120) F120 = true := by kernel_rfl
theorem ok31 : okF Tryz.prog (cxU dirFm) (look dirTab) ((cxU dirFm).fm 31) F31 = true := by kernel_rfl
theorem ok194 : okF Tryz.prog (cxU dirFm) (look dirTab) ((cxU dirFm).fm 194) F194 = true := by kernel_rfl
theorem ok171 : okF Tryz.prog (cxU dirFm) (look dirTab) ((cxU dirFm).fm 171) F171 = true := by kernel_rfl
theorem ok137 : okF Tryz.prog (cxU dirFm) (look dirTab) ((cxU dirFm).fm 137) F137 = true := by kernel_rfl
theorem ok172 : okF Tryz.prog (cxU dirFm) (look dirTab) ((cxU dirFm).fm 172) F172 = true := by kernel_rfl
theorem ok193 : okF Tryz.prog (cxU dirFm) (look dirTab) ((cxU dirFm).fm 193) F193 = true := by kernel_rfl
theorem okAll : okTab Tryz.prog (cxU dirFm) dirTab dirTab = true := okc ok338 (okc ok324 (okc ok325 (okc ok339 (okc ok328 (okc ok326 (okc ok340 (okc ok335 (okc ok331 (okc ok341 (okc ok344 (okc ok141 (okc ok126 (okc ok28 (okc ok346 (okc ok347 (okc ok348 (okc ok327 (okc ok357 (okc ok121 (okc ok361 (okc ok362 (okc ok363 (okc ok364 (okc ok365 (okc ok355 (okc ok112 (okc ok113 (okc ok356 (okc ok15 (okc ok352 (okc ok65 (okc ok159 (okc ok156 (okc ok157 (okc ok148 (okc ok366 (okc ok67 (okc ok367 (okc ok162 (okc ok163 (okc ok164 (okc ok165 (okc ok166 (okc ok32 (okc ok369 (okc ok154 (okc ok345 (okc ok133 (okc ok21 (okc ok109 (okc ok375 (okc ok186 (okc ok376 (okc ok377 (okc ok75 (okc ok379 (okc ok381 (okc ok370 (okc ok371 (okc ok131 (okc ok26 (okc ok27 (okc ok177 (okc ok175 (okc ok178 (okc ok76 (okc ok185 (okc ok368 (okc ok138 (okc ok139 (okc ok128 (okc ok129 (okc ok130 (okc ok192 (okc ok383 (okc ok384 (okc ok145 (okc ok120 (okc ok31 (okc ok194 (okc ok171 (okc ok137 (okc ok172 (okc ok193 (okp (okp (okp (okp (okp (okp (okp (okp (okp (okp (okp (okp (okp (okp (okp (okp (rfl)))))))))))))))))))))))))))))))))))))))))))))))))))))))))))))))))))))))))))))))))))))))))))))))))))))
theorem okClone179 : okF Tryz.prog (cxU dirFm) (onePg 179 (cloneF 5 [.str [], .str [], .int .i64 0, .int .i64 0, .int .i64 0])) 64 (cloneF 5 [.str [], .str [], .int .i64 0, .int .i64 0, .int .i64 0]) = true := by kernel_rfl
theorem okClone69 : okF Tryz.prog (cxU dirFm) (onePg 69 (cloneF 1 [.int .i64 0])) 43 (cloneF 1 [.int .i64 0]) = true := by kernel_rfl
theorem okClone134 : okF Tryz.prog (cxU dirFm) (onePg 134 (cloneF 5 [.int .i64 0, .int .i64 0, .int .i64 0, .int .i64 0, .int .i64 0])) 102 (cloneF 5 [.int .i64 0, .int .i64 0, .int .i64 0, .int .i64 0, .int .i64 0]) = true := by kernel_rfl
theorem okClone373 : okF Tryz.prog (cxU dirFm) (onePg 373 (cloneF 3 [.int .i64 0, .int .i64 0, .int .i64 0])) 103 (cloneF 3 [.int .i64 0, .int .i64 0, .int .i64 0]) = true := by kernel_rfl
theorem okClone374 : okF Tryz.prog (cxU dirFm) (onePg 374 (cloneF 3 [.int .i64 0, .slice 1 [], .bool false])) 106 (cloneF 3 [.int .i64 0, .slice 1 [], .bool false]) = true := by kernel_rfl
theorem okClone380 : okF Tryz.prog (cxU dirFm) (onePg 380 (cloneF 1 [.str []])) 113 (cloneF 1 [.str []]) = true := by kernel_rfl
theorem okClone385 : okF Tryz.prog (cxU dirFm) (onePg 385 (cloneF 7 [.int .i64 0, .int .i64 0, .int .i64 0, .int .i64 0, .int .i64 0, .int .i64 0, .int .i64 0])) 135 (cloneF 7 [.int .i64 0, .int .i64 0, .int .i64 0, .int .i64 0, .int .i64 0, .int .i64 0, .int .i64 0]) = true := by kernel_rfl
#print axioms okAll
end Sg
