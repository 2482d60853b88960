/- EngineAgain, at every input: proved over a checked abstract run of the translated code; no condition. A part. -/
import Derived.Test.YtaodclcmfocccaaGreatDoorChecked
import Derived.Lib.LaidU8
import Derived.Lib.OthersKept
import Derived.Laws.RangeAny
import Derived.WalkKit
import Derived.BigCall
import Derived.Test.YtaodclcmfocccaaGreatDoorG2
namespace Sg
def look {α : Type} : List (Nat × α) → Nat → Option α
  | [], _ => none
  | (k, a) :: l, n => if k = n then some a else look l n
def cxOf (l : List (Nat × Nat)) : Cx where
  fm := fun n => (look l n).getD 0
  tm := fun n => n
def okTab (P : Go.Program) (cx : Cx) (tab : List (Nat × Fn)) : List (Nat × Fn) → Bool
  | [] => true
  | (k, .code F) :: l => okF P cx (look tab) (cx.fm k) F && okTab P cx tab l
  | (_, .prim ..) :: l => okTab P cx tab l
theorem look_mem {α : Type} : ∀ {l : List (Nat × α)} {n : Nat} {a : α}, look l n = some a → (n, a) ∈ l
  | (k, b) :: l, n, a, h => by
    simp only [look] at h
    split at h
    · rename_i e; subst e; simp only [Option.some.injEq] at h; subst h; exact List.mem_cons_self
    · exact List.mem_cons_of_mem _ (look_mem h)
  | [], n, a, h => by simp [look] at h
theorem okTab_spec {P : Go.Program} {cx : Cx} {tab : List (Nat × Fn)} : ∀ {l : List (Nat × Fn)}, okTab P cx tab l = true → ∀ k F, (k, Fn.code F) ∈ l → okF P cx (look tab) (cx.fm k) F = true
  | (k', .code F') :: l, h, k, F, hm => by
    simp only [okTab, Bool.and_eq_true] at h
    simp only [List.mem_cons, Prod.mk.injEq, Fn.code.injEq] at hm
    rcases hm with ⟨rfl, rfl⟩ | hm
    · exact h.1
    · exact okTab_spec h.2 k F hm
  | (k', .prim o p) :: l, h, k, F, hm => by
    simp only [okTab] at h
    simp only [List.mem_cons, Prod.mk.injEq, reduceCtorEq, and_false, false_or] at hm
    exact okTab_spec h k F hm
  | [], h, k, F, hm => by simp at hm
theorem tab_code {P : Go.Program} {cx : Cx} {tab : List (Nat × Fn)} (h : okTab P cx tab tab = true) : ∀ f F, look tab f = some (.code F) → okF P cx (look tab) (cx.fm f) F = true :=
  fun f F hf => okTab_spec h f F (look_mem hf)
end Sg
namespace Sg
open _root_.Go (IntKind BinOp UnOp)
def r169_0 : List Op := [t_ 6 <|.mov (cb false)]
def r169_1 : List Op := [f_ 7 <|.mov (.g 0),f_ 8 <|.mov (.g 1),f_ 9 <|.call (.k 187) .no none [.l 0, .l 1],f_ 10 <|.bin .geq (.l 2) (ci 0),f_ 11 <|.mov (.l 3),y_ 12 4 <|.mov (.g 2),y_ 13 4 <|.len true (.l 5),y_ 14 4 <|.bin .eql (.l 6) (ci 0),y_ 15 4 <|.mov (.l 7),n_ 16 8 <|.mov (.g 0),n_ 17 8 <|.mov (.g 2),n_ 18 8 <|.call (.k 187) .no none [.l 9, .l 10],n_ 19 8 <|.bin .lss (.l 11) (ci 0),y_ 20 4 <|.pick (.l 8) (cb true) (.l 12),f_ 21 <|.pick (.l 4) (.l 13) (cb false),t_ 6 <|.mov (.l 14)]
def c169 : C := .seq (.region false r169_0) (.seq (.region false r169_1) (.ret))
def F169 : F := ⟨3, [0, 1, 2, 6], [.t 6], none, c169⟩
attribute [go_sem] r169_0 r169_1 c169 F169
def r171_0 : List Op := [t_ 2 <|.box (.g 0),t_ 4 <|.mov (cb false)]
def r171_1 : List Op := [f_ 5 <|.load (.v 2) (some 2) (.g 2),f_ 6 <|.call (.k 186) .no none [.l 0],f_ 7 <|.mov (.l 1),y_ 8 2 <|.mov (.g 1),y_ 9 2 <|.call (.k 170) .no none [.l 3],f_ 10 <|.pick (.l 2) (.l 4) (cb false),f_ 11 <|.mov (.l 5),y_ 12 6 <|.fad (.g 2) 0,y_ 13 6 <|.load (.v 2) none (.l 7),y_ 14 6 <|.mov (.g 1),y_ 15 6 <|.call (.k 192) .no none [.l 8, .l 9],y_ 16 6 <|.bin .leq (.l 10) (ci 0),f_ 17 <|.pick (.l 6) (.l 11) (cb false),f_ 18 <|.mov (.l 12),y_ 19 13 <|.fad (.g 2) 1,y_ 20 13 <|.load (.v 2) none (.l 14),y_ 21 13 <|.bin .eql (.l 15) (.c (.str [])),y_ 22 13 <|.mov (.l 16),n_ 23 17 <|.mov (.g 1),n_ 24 17 <|.fad (.g 2) 1,n_ 25 17 <|.load (.v 2) none (.l 19),n_ 26 17 <|.call (.k 192) .no none [.l 18, .l 20],n_ 27 17 <|.bin .lss (.l 21) (ci 0),y_ 28 13 <|.pick (.l 17) (cb true) (.l 22),f_ 29 <|.pick (.l 13) (.l 23) (cb false),t_ 4 <|.mov (.l 24)]
def c171 : C := .seq (.region false r171_0) (.seq (.region false r171_1) (.ret))
def F171 : F := ⟨2, [0, 1, 2, 4], [.t 4], none, c171⟩
attribute [go_sem] r171_0 r171_1 c171 F171
def r178_0 : List Op := [t_ 2 <|.box (.g 0),t_ 4 <|.alloc [.str [], .str []],t_ 5 <|.alloc [.str [], .str []],t_ 6 <|.mov (ci 0)]
def r178_1 : List Op := [f_ 8 <|.load (.v 2) (some 2) (.g 2),f_ 9 <|.call (.k 186) .no none [.l 0],f_ 10 <|.un .not (.l 1),f_ 11 <|.mov (.l 2),n_ 12 3 <|.mov (.g 1),n_ 13 3 <|.call (.k 170) .no none [.l 4],n_ 14 3 <|.un .not (.l 5),f_ 15 <|.pick (.l 3) (cb true) (.l 6),t_ 7 <|.mov (.l 7)]
def r178_2 : List Op := [f_ 16 <|.build [.str [], .str []] [],f_ 17 <|.build [.str [], .str []] [],u_ <|.store (.v 4) 2 (.g 4) (.l 0),u_ <|.store (.v 5) 2 (.g 5) (.l 1),t_ 6 <|.mov (ci 1)]
def r178_3 : List Op := [f_ 19 <|.mov (.g 1),f_ 20 <|.fad (.g 2) 0,f_ 21 <|.load (.v 2) none (.l 1),f_ 22 <|.bin .eql (.l 0) (.l 2),f_ 23 <|.mov (.l 3),n_ 24 4 <|.load (.v 2) (some 2) (.g 2),n_ 25 4 <|.mov (.g 1),n_ 26 4 <|.call (.k 171) .no none [.l 5, .l 6],n_ 27 4 <|.un .not (.l 7),f_ 28 <|.pick (.l 4) (cb true) (.l 8),t_ 18 <|.mov (.l 9)]
def r178_4 : List Op := [f_ 29 <|.build [.str [], .str []] [],f_ 30 <|.build [.str [], .str []] [],u_ <|.store (.v 4) 2 (.g 4) (.l 0),u_ <|.store (.v 5) 2 (.g 5) (.l 1),t_ 6 <|.mov (ci 9)]
def r178_5 : List Op := [f_ 31 <|.fad (.g 2) 0,f_ 32 <|.load (.v 2) none (.l 0),f_ 33 <|.mov (.g 1),f_ 34 <|.build [.str [], .str []] [(0, 1, .l 1), (1, 1, .l 2)],f_ 35 <|.mov (.g 1),f_ 36 <|.fad (.g 2) 1,f_ 37 <|.load (.v 2) none (.l 5),f_ 38 <|.build [.str [], .str []] [(0, 1, .l 4), (1, 1, .l 6)],u_ <|.store (.v 4) 2 (.g 4) (.l 3),u_ <|.store (.v 5) 2 (.g 5) (.l 7),t_ 6 <|.mov (ci 0)]
def c178 : C := .seq (.region false r178_0) (.seq (.block 0 (.seq (.region false r178_1) (.cond (.g 7) (.seq (.region false r178_2) (.ret)) (.seq (.region false r178_3) (.cond (.g 18) (.seq (.region false r178_4) (.ret)) (.skip)))))) (.seq (.region true r178_5) (.ret)))
def F178 : F := ⟨2, [0, 1, 2, 4, 5, 6, 7, 18], [.cell 4 (some 2), .cell 5 (some 2), .t 6], none, c178⟩
attribute [go_sem] r178_0 r178_1 r178_2 r178_3 r178_4 r178_5 c178 F178
def r186_0 : List Op := [t_ 1 <|.box (.g 0),t_ 2 <|.mov (cb false)]
def r186_1 : List Op := [f_ 3 <|.fad (.g 1) 0,f_ 4 <|.load (.v 1) none (.l 0),f_ 5 <|.bin .neq (.l 1) (.c (.str [])),f_ 6 <|.mov (.l 2),y_ 7 3 <|.fad (.g 1) 0,y_ 8 3 <|.load (.v 1) none (.l 4),y_ 9 3 <|.call (.k 170) .no none [.l 5],y_ 10 3 <|.un .not (.l 6),t_ 11 <|.pick (.l 3) (.l 7) (cb false)]
def r186_2 : List Op := [t_ 2 <|.mov (cb false)]
def r186_3 : List Op := [f_ 12 <|.fad (.g 1) 1,f_ 13 <|.load (.v 1) none (.l 0),f_ 14 <|.bin .eql (.l 1) (.c (.str [])),f_ 15 <|.mov (.l 2),n_ 16 3 <|.fad (.g 1) 1,n_ 17 3 <|.load (.v 1) none (.l 4),n_ 18 3 <|.call (.k 170) .no none [.l 5],n_ 19 3 <|.mov (.l 6),y_ 20 7 <|.fad (.g 1) 0,y_ 21 7 <|.load (.v 1) none (.l 8),y_ 22 7 <|.fad (.g 1) 1,y_ 23 7 <|.load (.v 1) none (.l 10),y_ 24 7 <|.call (.k 192) .no none [.l 9, .l 11],y_ 25 7 <|.bin .lss (.l 12) (ci 0),n_ 26 3 <|.pick (.l 7) (.l 13) (cb false),f_ 27 <|.pick (.l 3) (cb true) (.l 14),t_ 2 <|.mov (.l 15)]
def c186 : C := .seq (.region false r186_0) (.seq (.seq (.region false r186_1) (.cond (.g 11) (.seq (.region false r186_2) (.ret)) (.skip))) (.seq (.region false r186_3) (.ret)))
def F186 : F := ⟨1, [0, 1, 2, 11], [.t 2], none, c186⟩
attribute [go_sem] r186_0 r186_1 r186_2 r186_3 c186 F186
def r187_0 : List Op := [t_ 4 <|.mov (ci 0)]
def r187_1 : List Op := [f_ 8 <|.mov (.g 0),f_ 9 <|.call (.k 195) .no none [.l 0],f_ 10 <|.mov (.g 1),f_ 11 <|.call (.k 195) .no none [.l 2],t_ 5 <|.mov (.l 1),t_ 6 <|.mov (.l 3)]
def r187_2 : List Op := [t_ 7 <|.mov (ci 0)]
def r187_3 : List Op := [f_ 12 <|.mov (.g 7),f_ 13 <|.mov (.g 5),f_ 14 <|.len false (.l 1),f_ 15 <|.bin .lss (.l 0) (.l 2),f_ 16 <|.mov (.l 3),y_ 17 4 <|.mov (.g 7),y_ 18 4 <|.mov (.g 6),y_ 19 4 <|.len false (.l 6),y_ 20 4 <|.bin .lss (.l 5) (.l 7),t_ 21 <|.pick (.l 4) (.l 8) (cb false)]
def r187_4 : List Op := [f_ 24 <|.mov (.g 5),f_ 25 <|.mov (.g 7),f_ 26 <|.iad 1 (.l 0) (.l 1),f_ 27 <|.load (.c) none (.l 2),f_ 28 <|.mov (.g 6),f_ 29 <|.mov (.g 7),f_ 30 <|.iad 1 (.l 4) (.l 5),f_ 31 <|.load (.c) none (.l 6),t_ 32 <|.bin .lss (.l 3) (.l 7)]
def r187_5 : List Op := [t_ 4 <|.mov (ci (-1))]
def r187_6 : List Op := [f_ 33 <|.mov (.g 5),f_ 34 <|.mov (.g 7),f_ 35 <|.iad 1 (.l 0) (.l 1),f_ 36 <|.load (.c) none (.l 2),f_ 37 <|.mov (.g 6),f_ 38 <|.mov (.g 7),f_ 39 <|.iad 1 (.l 4) (.l 5),f_ 40 <|.load (.c) none (.l 6),t_ 41 <|.bin .gtr (.l 3) (.l 7)]
def r187_7 : List Op := [t_ 4 <|.mov (ci 1)]
def r187_8 : List Op := [f_ 22 <|.mov (.g 7),f_ 23 <|.bin .add (.l 0) (ci 1),t_ 7 <|.mov (.l 1)]
def b187_0 : C := .seq (.seq (.region false r187_3) (.cond (.g 21) (.skip) (.exit 0))) (.seq (.block 1 (.seq (.seq (.region true r187_4) (.cond (.g 32) (.seq (.region false r187_5) (.ret)) (.skip))) (.seq (.region true r187_6) (.cond (.g 41) (.seq (.region false r187_7) (.ret)) (.skip))))) (.region false r187_8))
def l187_0 : C := .loop [] [] [] [] b187_0
def r187_9 : List Op := [f_ 42 <|.mov (.g 5),f_ 43 <|.len false (.l 0),f_ 44 <|.mov (.g 6),f_ 45 <|.len false (.l 2),t_ 46 <|.bin .lss (.l 1) (.l 3)]
def r187_10 : List Op := [t_ 4 <|.mov (ci (-1))]
def r187_11 : List Op := [f_ 47 <|.mov (.g 5),f_ 48 <|.len false (.l 0),f_ 49 <|.mov (.g 6),f_ 50 <|.len false (.l 2),t_ 51 <|.bin .gtr (.l 1) (.l 3)]
def r187_12 : List Op := [t_ 4 <|.mov (ci 1)]
def r187_13 : List Op := [t_ 4 <|.mov (ci 0)]
def c187 : C := .seq (.region false r187_0) (.seq (.region false r187_1) (.seq (.seq (.region false r187_2) (.block 0 (l187_0))) (.seq (.seq (.region false r187_9) (.cond (.g 46) (.seq (.region false r187_10) (.ret)) (.skip))) (.seq (.seq (.region false r187_11) (.cond (.g 51) (.seq (.region false r187_12) (.ret)) (.skip))) (.seq (.region false r187_13) (.ret))))))
def F187 : F := ⟨2, [0, 1, 4, 5, 6, 7, 21, 32, 41, 46, 51], [.t 4], none, c187⟩
attribute [go_sem] r187_0 r187_1 r187_2 r187_3 r187_4 r187_5 r187_6 r187_7 r187_8 b187_0 r187_9 r187_10 r187_11 r187_12 r187_13 c187 F187
def r188_0 : List Op := [t_ 2 <|.mov (ci 0),t_ 3 <|.mov (ci 0)]
def r188_1 : List Op := [f_ 8 <|.mov (.g 0),f_ 9 <|.idx (.l 0) (ci 0),f_ 10 <|.conv (.int .i64) (.l 1),t_ 4 <|.mov (.l 2)]
def r188_2 : List Op := [f_ 11 <|.mov (.g 4),t_ 12 <|.bin .lss (.l 0) (ci 128)]
def r188_3 : List Op := [f_ 13 <|.mov (.g 4),t_ 2 <|.mov (.l 0),t_ 3 <|.mov (ci 1)]
def r188_4 : List Op := [t_ 5 <|.mov (ci 0),t_ 6 <|.mov (ci 0)]
def r188_5 : List Op := [f_ 14 <|.mov (.g 4),f_ 15 <|.bin .geq (.l 0) (ci 194),f_ 16 <|.mov (.l 1),y_ 17 2 <|.mov (.g 4),y_ 18 2 <|.bin .lss (.l 3) (ci 224),t_ 19 <|.pick (.l 2) (.l 4) (cb false)]
def r188_6 : List Op := [f_ 20 <|.mov (.g 4),f_ 21 <|.bin .sub (.l 0) (ci 192),t_ 5 <|.mov (ci 2),t_ 6 <|.mov (ci 128),t_ 4 <|.mov (.l 1)]
def r188_7 : List Op := [f_ 22 <|.mov (.g 4),f_ 23 <|.bin .geq (.l 0) (ci 224),f_ 24 <|.mov (.l 1),y_ 25 2 <|.mov (.g 4),y_ 26 2 <|.bin .lss (.l 3) (ci 240),t_ 27 <|.pick (.l 2) (.l 4) (cb false)]
def r188_8 : List Op := [f_ 28 <|.mov (.g 4),f_ 29 <|.bin .sub (.l 0) (ci 224),t_ 5 <|.mov (ci 3),t_ 6 <|.mov (ci 2048),t_ 4 <|.mov (.l 1)]
def r188_9 : List Op := [f_ 30 <|.mov (.g 4),f_ 31 <|.bin .geq (.l 0) (ci 240),f_ 32 <|.mov (.l 1),y_ 33 2 <|.mov (.g 4),y_ 34 2 <|.bin .lss (.l 3) (ci 245),t_ 35 <|.pick (.l 2) (.l 4) (cb false)]
def r188_10 : List Op := [f_ 36 <|.mov (.g 4),f_ 37 <|.bin .sub (.l 0) (ci 240),t_ 5 <|.mov (ci 4),t_ 6 <|.mov (ci 65536),t_ 4 <|.mov (.l 1)]
def r188_11 : List Op := [f_ 38 <|.mov (.g 5),f_ 39 <|.bin .eql (.l 0) (ci 0),f_ 40 <|.mov (.l 1),n_ 41 2 <|.mov (.g 0),n_ 42 2 <|.len true (.l 3),n_ 43 2 <|.mov (.g 5),n_ 44 2 <|.bin .lss (.l 4) (.l 5),t_ 45 <|.pick (.l 2) (cb true) (.l 6)]
def r188_12 : List Op := [t_ 2 <|.mov (ci (-1)),t_ 3 <|.mov (ci 1)]
def r188_13 : List Op := [t_ 7 <|.mov (ci 1)]
def r188_14 : List Op := [f_ 46 <|.mov (.g 7),f_ 47 <|.mov (.g 5),t_ 48 <|.bin .lss (.l 0) (.l 1)]
def r188_15 : List Op := [f_ 51 <|.mov (.g 0),f_ 52 <|.mov (.g 7),f_ 53 <|.idx (.l 0) (.l 1),f_ 54 <|.bin .lss (.l 2) (.c (.int .u8 128)),f_ 55 <|.mov (.l 3),n_ 56 4 <|.mov (.g 0),n_ 57 4 <|.mov (.g 7),n_ 58 4 <|.idx (.l 5) (.l 6),n_ 59 4 <|.bin .gtr (.l 7) (.c (.int .u8 191)),t_ 60 <|.pick (.l 4) (cb true) (.l 8)]
def r188_16 : List Op := [t_ 2 <|.mov (ci (-1)),t_ 3 <|.mov (ci 1)]
def r188_17 : List Op := [f_ 61 <|.mov (.g 4),f_ 62 <|.bin .mul (ci 64) (.l 0),f_ 63 <|.mov (.g 0),f_ 64 <|.mov (.g 7),f_ 65 <|.idx (.l 2) (.l 3),f_ 66 <|.conv (.int .i64) (.l 4),f_ 67 <|.bin .add (.l 1) (.l 5),f_ 68 <|.bin .sub (.l 6) (ci 128),t_ 4 <|.mov (.l 7)]
def r188_18 : List Op := [f_ 49 <|.mov (.g 7),f_ 50 <|.bin .add (.l 0) (ci 1),t_ 7 <|.mov (.l 1)]
def b188_0 : C := .seq (.seq (.region false r188_14) (.cond (.g 48) (.skip) (.exit 0))) (.seq (.block 1 (.seq (.seq (.region false r188_15) (.cond (.g 60) (.seq (.region false r188_16) (.ret)) (.skip))) (.region false r188_17))) (.region false r188_18))
def l188_0 : C := .loop [] [] [] [] b188_0
def r188_19 : List Op := [f_ 69 <|.mov (.g 4),f_ 70 <|.mov (.g 6),f_ 71 <|.bin .lss (.l 0) (.l 1),f_ 72 <|.mov (.l 2),n_ 73 3 <|.mov (.g 4),n_ 74 3 <|.bin .gtr (.l 4) (ci 1114111),f_ 75 <|.pick (.l 3) (cb true) (.l 5),f_ 76 <|.mov (.l 6),n_ 77 7 <|.mov (.g 4),n_ 78 7 <|.bin .geq (.l 8) (ci 55296),n_ 79 7 <|.mov (.l 9),y_ 80 10 <|.mov (.g 4),y_ 81 10 <|.bin .lss (.l 11) (ci 57344),n_ 82 7 <|.pick (.l 10) (.l 12) (cb false),t_ 83 <|.pick (.l 7) (cb true) (.l 13)]
def r188_20 : List Op := [t_ 2 <|.mov (ci (-1)),t_ 3 <|.mov (ci 1)]
def r188_21 : List Op := [f_ 84 <|.mov (.g 4),f_ 85 <|.mov (.g 5),t_ 2 <|.mov (.l 0),t_ 3 <|.mov (.l 1)]
def c188 : C := .seq (.region false r188_0) (.seq (.region false r188_1) (.seq (.seq (.region false r188_2) (.cond (.g 12) (.seq (.region false r188_3) (.ret)) (.skip))) (.seq (.region false r188_4) (.seq (.seq (.region false r188_5) (.cond (.g 19) (.region false r188_6) (.seq (.region false r188_7) (.cond (.g 27) (.region false r188_8) (.seq (.region false r188_9) (.cond (.g 35) (.region false r188_10) (.skip))))))) (.seq (.seq (.region false r188_11) (.cond (.g 45) (.seq (.region false r188_12) (.ret)) (.skip))) (.seq (.seq (.region false r188_13) (.block 0 (l188_0))) (.seq (.seq (.region false r188_19) (.cond (.g 83) (.seq (.region false r188_20) (.ret)) (.skip))) (.seq (.region false r188_21) (.ret)))))))))
def F188 : F := ⟨1, [0, 2, 3, 4, 5, 6, 7, 12, 19, 27, 35, 45, 48, 60, 83], [.t 2, .t 3], none, c188⟩
attribute [go_sem] r188_0 r188_1 r188_2 r188_3 r188_4 r188_5 r188_6 r188_7 r188_8 r188_9 r188_10 r188_11 r188_12 r188_13 r188_14 r188_15 r188_16 r188_17 r188_18 b188_0 r188_19 r188_20 r188_21 c188 F188
def r191_0 : List Op := [t_ 4 <|.mov (cb false)]
def r191_1 : List Op := [f_ 5 <|.mov (.g 0),f_ 6 <|.bin .geq (.l 0) (.c (.int .i32 33)),f_ 7 <|.mov (.l 1),y_ 8 2 <|.mov (.g 0),y_ 9 2 <|.bin .lss (.l 3) (.c (.int .i32 127)),y_ 10 2 <|.mov (.l 4),n_ 11 5 <|.mov (.g 0),n_ 12 5 <|.bin .gtr (.l 6) (.c (.int .i32 159)),y_ 13 2 <|.pick (.l 5) (cb true) (.l 7),f_ 14 <|.pick (.l 2) (.l 8) (cb false),f_ 15 <|.mov (.l 9),y_ 16 10 <|.mov (.g 0),y_ 17 10 <|.bin .neq (.l 11) (.c (.int .i32 65533)),y_ 18 10 <|.mov (.l 12),n_ 19 13 <|.mov (.g 1),n_ 20 13 <|.bin .eql (.l 14) (ci 3),y_ 21 10 <|.pick (.l 13) (cb true) (.l 15),f_ 22 <|.pick (.l 10) (.l 16) (cb false),t_ 4 <|.mov (.l 17)]
def c191 : C := .seq (.region false r191_0) (.seq (.region false r191_1) (.ret))
def F191 : F := ⟨2, [0, 1, 4], [.t 4], none, c191⟩
attribute [go_sem] r191_0 r191_1 c191 F191
def r192_0 : List Op := [t_ 4 <|.mov (ci 0)]
def r192_1 : List Op := [f_ 9 <|.mov (.g 0),f_ 10 <|.bin .neq (.l 0) (.c (.str [])),f_ 11 <|.mov (.l 1),y_ 12 2 <|.mov (.g 1),y_ 13 2 <|.bin .neq (.l 3) (.c (.str [])),t_ 14 <|.pick (.l 2) (.l 4) (cb false)]
def r192_2 : List Op := [f_ 16 <|.mov (.g 0),f_ 17 <|.call (.k 190) .no none [.l 0],f_ 15 <|.mov (.l 1),f_ 18 <|.ext (.l 2) 0,f_ 19 <|.ext (.l 2) 1,t_ 5 <|.mov (.l 3),t_ 6 <|.mov (.l 4)]
def r192_3 : List Op := [f_ 21 <|.mov (.g 1),f_ 22 <|.call (.k 190) .no none [.l 0],f_ 20 <|.mov (.l 1),f_ 23 <|.ext (.l 2) 0,f_ 24 <|.ext (.l 2) 1,t_ 7 <|.mov (.l 3),t_ 8 <|.mov (.l 4)]
def r192_4 : List Op := [f_ 26 <|.mov (.g 5),f_ 27 <|.mov (.g 7),f_ 28 <|.bin .lss (.l 0) (.l 1),t_ 25 <|.mov (.l 2)]
def r192_5 : List Op := [t_ 4 <|.mov (ci (-1))]
def r192_6 : List Op := [f_ 30 <|.mov (.g 5),f_ 31 <|.mov (.g 7),f_ 32 <|.bin .gtr (.l 0) (.l 1),t_ 29 <|.mov (.l 2)]
def r192_7 : List Op := [t_ 4 <|.mov (ci 1)]
def r192_8 : List Op := [f_ 33 <|.mov (.g 0),f_ 34 <|.mov (.g 6),f_ 35 <|.sl true 0 (.l 0) (some (.l 1)) none,f_ 36 <|.mov (.g 1),f_ 37 <|.mov (.g 8),f_ 38 <|.sl true 0 (.l 3) (some (.l 4)) none,t_ 0 <|.mov (.l 2),t_ 1 <|.mov (.l 5)]
def b192_0 : C := .seq (.seq (.region false r192_1) (.cond (.g 14) (.skip) (.exit 0))) (.block 1 (.seq (.region false r192_2) (.seq (.region false r192_3) (.seq (.block 2 (.seq (.region false r192_4) (.cond (.g 25) (.seq (.region false r192_5) (.ret)) (.seq (.region false r192_6) (.cond (.g 29) (.seq (.region false r192_7) (.ret)) (.skip)))))) (.region true r192_8)))))
def l192_0 : C := .loop [] [] [] [] b192_0
def r192_9 : List Op := [f_ 40 <|.mov (.g 0),f_ 41 <|.bin .neq (.l 0) (.c (.str [])),t_ 39 <|.mov (.l 1)]
def r192_10 : List Op := [t_ 4 <|.mov (ci 1)]
def r192_11 : List Op := [f_ 43 <|.mov (.g 1),f_ 44 <|.bin .neq (.l 0) (.c (.str [])),t_ 42 <|.mov (.l 1)]
def r192_12 : List Op := [t_ 4 <|.mov (ci (-1))]
def r192_13 : List Op := [t_ 4 <|.mov (ci 0)]
def c192 : C := .seq (.region false r192_0) (.seq (.block 0 (l192_0)) (.seq (.block 3 (.seq (.region false r192_9) (.cond (.g 39) (.seq (.region false r192_10) (.ret)) (.seq (.region false r192_11) (.cond (.g 42) (.seq (.region false r192_12) (.ret)) (.skip)))))) (.seq (.region false r192_13) (.ret))))
def F192 : F := ⟨2, [0, 1, 4, 5, 6, 7, 8, 14, 25, 29, 39, 42], [.t 4], none, c192⟩
attribute [go_sem] r192_0 r192_1 r192_2 r192_3 r192_4 r192_5 r192_6 r192_7 r192_8 b192_0 r192_9 r192_10 r192_11 r192_12 r192_13 c192 F192
def r195_0 : List Op := [t_ 2 <|.mov (.c (.slice 1 []))]
def r195_1 : List Op := [t_ 3 <|.mko 1]
def r195_2 : List Op := [f_ 6 <|.mov (.g 0),f_ 7 <|.len true (.l 0),t_ 8 <|.bin .gtr (.l 1) (ci 0)]
def r195_3 : List Op := [f_ 10 <|.mov (.g 0),f_ 11 <|.call (.k 188) .no none [.l 0],f_ 9 <|.mov (.l 1),f_ 12 <|.ext (.l 2) 0,f_ 13 <|.ext (.l 2) 1,t_ 4 <|.mov (.l 3),t_ 5 <|.mov (.l 4)]
def r195_4 : List Op := [f_ 14 <|.mov (.g 4),t_ 15 <|.bin .lss (.l 0) (ci 0)]
def r195_5 : List Op := [t_ 4 <|.mov (ci 65533)]
def r195_6 : List Op := [f_ 16 <|.mov (.g 3),f_ 17 <|.mov (.g 4),f_ 18 <|.mks 1 1 [.int .i64 0] [(0, .l 1)],f_ 19 <|.app 3 1 (.l 0) (.l 2),t_ 3 <|.mov (.l 3)]
def r195_7 : List Op := [f_ 20 <|.mov (.g 0),f_ 21 <|.mov (.g 5),f_ 22 <|.sl true 0 (.l 0) (some (.l 1)) none,t_ 0 <|.mov (.l 2)]
def b195_0 : C := .seq (.seq (.region false r195_2) (.cond (.g 8) (.skip) (.exit 0))) (.block 1 (.seq (.region false r195_3) (.seq (.seq (.region false r195_4) (.cond (.g 15) (.region false r195_5) (.skip))) (.seq (.region false r195_6) (.region false r195_7)))))
def l195_0 : C := .loop [] [] [] [] b195_0
def r195_8 : List Op := [f_ 23 <|.mov (.g 3),t_ 2 <|.mov (.l 0)]
def c195 : C := .seq (.region false r195_0) (.seq (.region false r195_1) (.seq (.block 0 (l195_0)) (.seq (.region false r195_8) (.ret))))
def F195 : F := ⟨1, [0, 2, 3, 4, 5, 8, 15], [.t 2], none, c195⟩
attribute [go_sem] r195_0 r195_1 r195_2 r195_3 r195_4 r195_5 r195_6 r195_7 b195_0 r195_8 c195 F195
end Sg
namespace Sg
open _root_.Go (IntKind BinOp UnOp)
def r3_0 : List Op := [t_ 3 <|.box (.g 1),t_ 4 <|.mov (.c (.slice 5 [])),t_ 5 <|.mov (ci 0)]
def r3_1 : List Op := [f_ 7 <|.mov (.g 0),f_ 8 <|.call (.k 7) .no none [.l 0],f_ 9 <|.un .not (.l 1),f_ 10 <|.mov (.l 2),n_ 11 3 <|.load (.v 3) (some 5) (.g 3),n_ 12 3 <|.call (.k 22) .no none [.l 4],n_ 13 3 <|.un .not (.l 5),f_ 14 <|.pick (.l 3) (cb true) (.l 6),t_ 6 <|.mov (.l 7)]
def r3_2 : List Op := [t_ 4 <|.mov (.c (.slice 5 [])),t_ 5 <|.mov (ci 1)]
def r3_3 : List Op := [f_ 16 <|.mov (.g 0),f_ 17 <|.len false (.l 0),f_ 18 <|.bin .gtr (.l 1) (ci 0),f_ 19 <|.mov (.l 2),y_ 20 3 <|.mov (.g 0),y_ 21 3 <|.mov (.g 0),y_ 22 3 <|.len false (.l 5),y_ 23 3 <|.bin .sub (.l 6) (ci 1),y_ 24 3 <|.iad 5 (.l 4) (.l 7),y_ 25 3 <|.fad (.l 8) 0,y_ 26 3 <|.load (.c) (some 3) (.l 9),y_ 27 3 <|.fad (.g 3) 0,y_ 28 3 <|.load (.v 3) (some 3) (.l 11),y_ 29 3 <|.call (.k 15) .no none [.l 10, .l 12],y_ 30 3 <|.bin .geq (.l 13) (ci 0),f_ 31 <|.pick (.l 3) (.l 14) (cb false),t_ 15 <|.mov (.l 15)]
def r3_4 : List Op := [t_ 4 <|.mov (.c (.slice 5 [])),t_ 5 <|.mov (ci 9)]
def r3_5 : List Op := [f_ 33 <|.mov (.g 0),f_ 34 <|.len false (.l 0),f_ 35 <|.bin .eql (.l 1) (ci 64),t_ 32 <|.mov (.l 2)]
def r3_6 : List Op := [t_ 4 <|.mov (.c (.slice 5 [])),t_ 5 <|.mov (ci 6)]
def r3_7 : List Op := [f_ 36 <|.mov (.g 0),f_ 37 <|.call (.k 23) .no (some 0) [.l 0],f_ 38 <|.load (.v 3) (some 5) (.g 3),f_ 39 <|.mks 5 1 [.int .i64 0, .int .i64 0, .int .i64 0, .bool false, .str []] [(0, .l 2)],f_ 40 <|.app 37 5 (.l 1) (.l 3),t_ 4 <|.mov (.l 4),t_ 5 <|.mov (ci 0)]
def c3 : C := .seq (.region false r3_0) (.seq (.block 0 (.seq (.region false r3_1) (.cond (.g 6) (.seq (.region false r3_2) (.ret)) (.seq (.region true r3_3) (.cond (.g 15) (.seq (.region false r3_4) (.ret)) (.seq (.region false r3_5) (.cond (.g 32) (.seq (.region false r3_6) (.ret)) (.skip)))))))) (.seq (.region true r3_7) (.ret)))
def F3 : F := ⟨2, [0, 1, 3, 4, 5, 6, 15, 32], [.t 4, .t 5], none, c3⟩
attribute [go_sem] r3_0 r3_1 r3_2 r3_3 r3_4 r3_5 r3_6 r3_7 c3 F3
def r7_0 : List Op := [t_ 2 <|.mov (cb false)]
def r7_1 : List Op := [t_ 5 <|.mov (.g 0),t_ 6 <|.len false (.l 0),t_ 7 <|.mov (ci 0)]
def r7_2 : List Op := [t_ 8 <|.bin .lss (.g 7) (.g 6)]
def r7_3 : List Op := [f_ 9 <|.mov (.g 7),f_ 10 <|.iad 5 (.g 5) (.g 7),f_ 11 <|.load (.c) (some 5) (.l 1),t_ 4 <|.alloc [.int .i64 0, .int .i64 0, .int .i64 0, .bool false, .str []],t_ 3 <|.mov (.l 0),u_ <|.store (.v 4) 5 (.l 3) (.l 2)]
def r7_4 : List Op := [f_ 12 <|.load (.v 4) (some 5) (.g 4),f_ 13 <|.call (.k 22) .no none [.l 0],f_ 14 <|.un .not (.l 1),f_ 15 <|.mov (.l 2),n_ 16 3 <|.mov (.g 3),n_ 17 3 <|.bin .gtr (.l 4) (ci 0),n_ 18 3 <|.mov (.l 5),y_ 19 6 <|.mov (.g 0),y_ 20 6 <|.mov (.g 3),y_ 21 6 <|.bin .sub (.l 8) (ci 1),y_ 22 6 <|.iad 5 (.l 7) (.l 9),y_ 23 6 <|.fad (.l 10) 0,y_ 24 6 <|.load (.c) (some 3) (.l 11),y_ 25 6 <|.fad (.g 4) 0,y_ 26 6 <|.load (.v 4) (some 3) (.l 13),y_ 27 6 <|.call (.k 15) .no none [.l 12, .l 14],y_ 28 6 <|.bin .geq (.l 15) (ci 0),n_ 29 3 <|.pick (.l 6) (.l 16) (cb false),t_ 30 <|.pick (.l 3) (cb true) (.l 17)]
def r7_5 : List Op := [t_ 2 <|.mov (cb false)]
def r7_6 : List Op := [f_ 31 <|.bin .add (.g 7) (ci 1),t_ 7 <|.mov (.l 0)]
def b7_0 : C := .seq (.region false r7_2) (.seq (.cond (.g 8) (.skip) (.exit 0)) (.seq (.block 1 (.seq (.region false r7_3) (.seq (.region true r7_4) (.cond (.g 30) (.seq (.region false r7_5) (.ret)) (.skip))))) (.region false r7_6)))
def l7_0 : C := .loop [] [] [4] [] b7_0
def r7_7 : List Op := [f_ 32 <|.mov (.g 0),f_ 33 <|.len false (.l 0),f_ 34 <|.bin .leq (.l 1) (ci 64),t_ 2 <|.mov (.l 2)]
def c7 : C := .seq (.region false r7_0) (.seq (.seq (.region false r7_1) (.block 0 (l7_0))) (.seq (.region false r7_7) (.ret)))
def F7 : F := ⟨1, [0, 2, 3, 4, 5, 6, 7, 8, 30], [.t 2], none, c7⟩
attribute [go_sem] r7_0 r7_1 r7_2 r7_3 r7_4 r7_5 r7_6 b7_0 r7_7 c7 F7
def r8_0 : List Op := [t_ 4 <|.mov (cb false)]
def r8_1 : List Op := [f_ 6 <|.mov (.g 0),f_ 7 <|.len false (.l 0),f_ 8 <|.mov (.g 1),f_ 9 <|.len false (.l 2),t_ 10 <|.bin .neq (.l 1) (.l 3)]
def r8_2 : List Op := [t_ 4 <|.mov (cb false)]
def r8_3 : List Op := [t_ 5 <|.mov (ci 0)]
def r8_4 : List Op := [f_ 11 <|.mov (.g 5),f_ 12 <|.mov (.g 0),f_ 13 <|.len false (.l 1),t_ 14 <|.bin .lss (.l 0) (.l 2)]
def r8_5 : List Op := [f_ 17 <|.mov (.g 0),f_ 18 <|.mov (.g 5),f_ 19 <|.iad 5 (.l 0) (.l 1),f_ 20 <|.load (.c) (some 5) (.l 2),f_ 21 <|.mov (.g 1),f_ 22 <|.mov (.g 5),f_ 23 <|.iad 5 (.l 4) (.l 5),f_ 24 <|.load (.c) (some 5) (.l 6),t_ 25 <|.eqa true [.i, .i, .i, .b, .s] (.l 3) (.l 7)]
def r8_6 : List Op := [t_ 4 <|.mov (cb false)]
def r8_7 : List Op := [f_ 15 <|.mov (.g 5),f_ 16 <|.bin .add (.l 0) (ci 1),t_ 5 <|.mov (.l 1)]
def b8_0 : C := .seq (.seq (.region false r8_4) (.cond (.g 14) (.skip) (.exit 0))) (.seq (.block 1 (.seq (.region true r8_5) (.cond (.g 25) (.seq (.region false r8_6) (.ret)) (.skip)))) (.region false r8_7))
def l8_0 : C := .loop [] [] [] [] b8_0
def r8_8 : List Op := [t_ 4 <|.mov (cb true)]
def c8 : C := .seq (.region false r8_0) (.seq (.seq (.region false r8_1) (.cond (.g 10) (.seq (.region false r8_2) (.ret)) (.skip))) (.seq (.seq (.region false r8_3) (.block 0 (l8_0))) (.seq (.region false r8_8) (.ret))))
def F8 : F := ⟨2, [0, 1, 4, 5, 10, 14, 25], [.t 4], none, c8⟩
attribute [go_sem] r8_0 r8_1 r8_2 r8_3 r8_4 r8_5 r8_6 r8_7 b8_0 r8_8 c8 F8
def r10_0 : List Op := [t_ 3 <|.box (.g 1),t_ 4 <|.alloc [.int .i64 0, .int .i64 0, .int .i64 0, .bool false, .str []],t_ 5 <|.mov (cb false)]
def r10_1 : List Op := [f_ 7 <|.mov (.g 0),f_ 8 <|.call (.k 7) .no none [.l 0],t_ 9 <|.un .not (.l 1)]
def r10_2 : List Op := [f_ 10 <|.build [.int .i64 0, .int .i64 0, .int .i64 0, .bool false, .str []] [],u_ <|.store (.v 4) 5 (.g 4) (.l 0),t_ 5 <|.mov (cb false)]
def r10_3 : List Op := [f_ 11 <|.mov (.g 0),f_ 12 <|.load (.v 3) (some 3) (.g 3),f_ 13 <|.call (.k 25) .no none [.l 0, .l 1],t_ 6 <|.mov (.l 2)]
def r10_4 : List Op := [f_ 14 <|.mov (.g 6),t_ 15 <|.bin .eql (.l 0) (ci 0)]
def r10_5 : List Op := [f_ 16 <|.build [.int .i64 0, .int .i64 0, .int .i64 0, .bool false, .str []] [],u_ <|.store (.v 4) 5 (.g 4) (.l 0),t_ 5 <|.mov (cb false)]
def r10_6 : List Op := [f_ 17 <|.mov (.g 0),f_ 18 <|.mov (.g 6),f_ 19 <|.bin .sub (.l 1) (ci 1),f_ 20 <|.iad 5 (.l 0) (.l 2),f_ 21 <|.load (.c) (some 5) (.l 3),u_ <|.store (.v 4) 5 (.g 4) (.l 4),t_ 5 <|.mov (cb true)]
def c10 : C := .seq (.region false r10_0) (.seq (.seq (.region false r10_1) (.cond (.g 9) (.seq (.region false r10_2) (.ret)) (.skip))) (.seq (.region false r10_3) (.seq (.seq (.region false r10_4) (.cond (.g 15) (.seq (.region false r10_5) (.ret)) (.skip))) (.seq (.region false r10_6) (.ret)))))
def F10 : F := ⟨2, [0, 1, 3, 4, 5, 6, 9, 15], [.cell 4 (some 5), .t 5], none, c10⟩
attribute [go_sem] r10_0 r10_1 r10_2 r10_3 r10_4 r10_5 r10_6 c10 F10
def r12_0 : List Op := [t_ 3 <|.box (.g 1),t_ 4 <|.mov (.c (.str [])),t_ 5 <|.mov (cb false)]
def r12_1 : List Op := [f_ 9 <|.mov (.g 0),f_ 10 <|.load (.v 3) (some 3) (.g 3),f_ 11 <|.call (.k 10) .no none [.l 0, .l 1],f_ 8 <|.mov (.l 2),f_ 12 <|.ext (.l 3) 0,f_ 13 <|.ext (.l 3) 1,t_ 6 <|.alloc [.int .i64 0, .int .i64 0, .int .i64 0, .bool false, .str []],u_ <|.store (.v 6) 5 (.l 6) (.l 4),t_ 7 <|.mov (.l 5)]
def r12_2 : List Op := [f_ 14 <|.fad (.g 6) 4,f_ 15 <|.load (.v 6) none (.l 0),f_ 16 <|.mov (.g 7),f_ 17 <|.mov (.l 2),y_ 18 3 <|.fad (.g 6) 3,y_ 19 3 <|.load (.v 6) none (.l 4),y_ 20 3 <|.un .not (.l 5),f_ 21 <|.pick (.l 3) (.l 6) (cb false),t_ 4 <|.mov (.l 1),t_ 5 <|.mov (.l 7)]
def c12 : C := .seq (.region false r12_0) (.seq (.region false r12_1) (.seq (.region true r12_2) (.ret)))
def F12 : F := ⟨2, [0, 1, 3, 4, 5, 6, 7], [.t 4, .t 5], none, c12⟩
attribute [go_sem] r12_0 r12_1 r12_2 c12 F12
def r15_0 : List Op := [t_ 2 <|.box (.g 0),t_ 3 <|.box (.g 1),t_ 4 <|.mov (ci 0)]
def r15_1 : List Op := [f_ 5 <|.fad (.g 2) 0,f_ 6 <|.load (.v 2) none (.l 0),f_ 7 <|.fad (.g 3) 0,f_ 8 <|.load (.v 3) none (.l 2),f_ 9 <|.call (.k 26) .no none [.l 1, .l 3],f_ 10 <|.fad (.g 2) 1,f_ 11 <|.load (.v 2) none (.l 5),f_ 12 <|.fad (.g 3) 1,f_ 13 <|.load (.v 3) none (.l 7),f_ 14 <|.call (.k 26) .no none [.l 6, .l 8],f_ 15 <|.fad (.g 2) 2,f_ 16 <|.load (.v 2) none (.l 10),f_ 17 <|.fad (.g 3) 2,f_ 18 <|.load (.v 3) none (.l 12),f_ 19 <|.call (.k 26) .no none [.l 11, .l 13],f_ 20 <|.mks 1 3 [.int .i64 0] [(0, .l 4), (1, .l 9), (2, .l 14)],f_ 21 <|.call (.k 27) .no none [.l 15],t_ 4 <|.mov (.l 16)]
def c15 : C := .seq (.region false r15_0) (.seq (.region true r15_1) (.ret))
def F15 : F := ⟨2, [0, 1, 2, 3, 4], [.t 4], none, c15⟩
attribute [go_sem] r15_0 r15_1 c15 F15
def r17_0 : List Op := [t_ 3 <|.box (.g 1),t_ 4 <|.mov (.c (.slice 5 []))]
def r17_1 : List Op := [f_ 6 <|.mov (.g 0),f_ 7 <|.call (.k 7) .no none [.l 0],t_ 8 <|.un .not (.l 1)]
def r17_2 : List Op := [t_ 4 <|.mov (.c (.slice 5 []))]
def r17_3 : List Op := [f_ 9 <|.mov (.g 0),f_ 10 <|.load (.v 3) (some 3) (.g 3),f_ 11 <|.call (.k 25) .no none [.l 0, .l 1],t_ 5 <|.mov (.l 2)]
def r17_4 : List Op := [f_ 12 <|.mov (.g 5),f_ 13 <|.bin .gtr (.l 0) (ci 0),f_ 14 <|.mov (.l 1),y_ 15 2 <|.mov (.g 0),y_ 16 2 <|.mov (.g 5),y_ 17 2 <|.bin .sub (.l 4) (ci 1),y_ 18 2 <|.iad 5 (.l 3) (.l 5),y_ 19 2 <|.fad (.l 6) 3,y_ 20 2 <|.load (.c) none (.l 7),y_ 21 2 <|.un .not (.l 8),t_ 22 <|.pick (.l 2) (.l 9) (cb false)]
def r17_5 : List Op := [f_ 23 <|.mov (.g 5),f_ 24 <|.bin .sub (.l 0) (ci 1),t_ 5 <|.mov (.l 1)]
def r17_6 : List Op := [f_ 25 <|.mov (.g 0),f_ 26 <|.mov (.g 5),f_ 27 <|.sl false 5 (.l 0) (some (.l 1)) none,f_ 28 <|.call (.k 23) .no none [.l 2],t_ 4 <|.mov (.l 3)]
def c17 : C := .seq (.region false r17_0) (.seq (.seq (.region false r17_1) (.cond (.g 8) (.seq (.region false r17_2) (.ret)) (.skip))) (.seq (.region false r17_3) (.seq (.seq (.region false r17_4) (.cond (.g 22) (.region false r17_5) (.skip))) (.seq (.region false r17_6) (.ret)))))
def F17 : F := ⟨2, [0, 1, 3, 4, 5, 8, 22], [.t 4], none, c17⟩
attribute [go_sem] r17_0 r17_1 r17_2 r17_3 r17_4 r17_5 r17_6 c17 F17
def r21_0 : List Op := [t_ 2 <|.box (.g 0),t_ 3 <|.box (.g 1),t_ 4 <|.alloc [.int .i64 0, .int .i64 0, .int .i64 0]]
def r21_1 : List Op := [f_ 5 <|.load (.v 2) (some 3) (.g 2),f_ 6 <|.load (.v 3) (some 3) (.g 3),f_ 7 <|.call (.k 15) .no none [.l 0, .l 1],t_ 8 <|.bin .lss (.l 2) (ci 0)]
def r21_2 : List Op := [f_ 9 <|.load (.v 3) (some 3) (.g 3),u_ <|.store (.v 4) 3 (.g 4) (.l 0)]
def r21_3 : List Op := [f_ 10 <|.load (.v 2) (some 3) (.g 2),u_ <|.store (.v 4) 3 (.g 4) (.l 0)]
def c21 : C := .seq (.region false r21_0) (.seq (.seq (.region false r21_1) (.cond (.g 8) (.seq (.region false r21_2) (.ret)) (.skip))) (.seq (.region false r21_3) (.ret)))
def F21 : F := ⟨2, [0, 1, 2, 3, 4, 8], [.cell 4 (some 3)], none, c21⟩
attribute [go_sem] r21_0 r21_1 r21_2 r21_3 c21 F21
def r22_0 : List Op := [t_ 1 <|.box (.g 0),t_ 2 <|.mov (cb false)]
def r22_1 : List Op := [f_ 3 <|.fad (.g 1) 0,f_ 4 <|.load (.v 1) (some 3) (.l 0),f_ 5 <|.call (.k 28) .no none [.l 1],f_ 6 <|.mov (.l 2),y_ 7 3 <|.fad (.g 1) 4,y_ 8 3 <|.load (.v 1) none (.l 4),y_ 9 3 <|.len true (.l 5),y_ 10 3 <|.bin .leq (.l 6) (ci 16),f_ 11 <|.pick (.l 3) (.l 7) (cb false),f_ 12 <|.mov (.l 8),y_ 13 9 <|.fad (.g 1) 3,y_ 14 9 <|.load (.v 1) none (.l 10),y_ 15 9 <|.un .not (.l 11),y_ 16 9 <|.mov (.l 12),n_ 17 13 <|.fad (.g 1) 4,n_ 18 13 <|.load (.v 1) none (.l 14),n_ 19 13 <|.bin .eql (.l 15) (.c (.str [])),y_ 20 9 <|.pick (.l 13) (cb true) (.l 16),f_ 21 <|.pick (.l 9) (.l 17) (cb false),t_ 2 <|.mov (.l 18)]
def c22 : C := .seq (.region false r22_0) (.seq (.region false r22_1) (.ret))
def F22 : F := ⟨1, [0, 1, 2], [.t 2], none, c22⟩
attribute [go_sem] r22_0 r22_1 c22 F22
def r25_0 : List Op := [t_ 3 <|.box (.g 1),t_ 4 <|.mov (ci 0)]
def r25_1 : List Op := [f_ 8 <|.mov (.g 0),f_ 9 <|.load (.v 3) (some 3) (.g 3),f_ 10 <|.call (.k 29) .no none [.l 0, .l 1, .f 30],f_ 7 <|.mov (.l 2),f_ 11 <|.ext (.l 3) 0,f_ 12 <|.ext (.l 3) 1,t_ 5 <|.mov (.l 4),t_ 6 <|.mov (.l 5)]
def r25_2 : List Op := [t_ 13 <|.mov (.g 6)]
def r25_3 : List Op := [f_ 14 <|.mov (.g 5),f_ 15 <|.bin .add (.l 0) (ci 1),t_ 5 <|.mov (.l 1)]
def r25_4 : List Op := [f_ 16 <|.mov (.g 5),t_ 4 <|.mov (.l 0)]
def c25 : C := .seq (.region false r25_0) (.seq (.region false r25_1) (.seq (.seq (.region false r25_2) (.cond (.g 13) (.region false r25_3) (.skip))) (.seq (.region false r25_4) (.ret))))
def F25 : F := ⟨2, [0, 1, 3, 4, 5, 6, 13], [.t 4], none, c25⟩
attribute [go_sem] r25_0 r25_1 r25_2 r25_3 r25_4 c25 F25
def r26_0 : List Op := [t_ 4 <|.mov (ci 0)]
def r26_1 : List Op := [f_ 7 <|.mov (.g 0),f_ 8 <|.call (.k 31) .no none [.l 0],t_ 5 <|.mov (.l 1)]
def r26_2 : List Op := [f_ 9 <|.mov (.g 1),f_ 10 <|.call (.k 31) .no none [.l 0],t_ 6 <|.mov (.l 1)]
def r26_3 : List Op := [t_ 11 <|.mov (.g 5)]
def r26_4 : List Op := [t_ 12 <|.mov (.g 6)]
def r26_5 : List Op := [t_ 4 <|.mov (ci 0)]
def r26_6 : List Op := [t_ 4 <|.mov (ci (-1))]
def r26_7 : List Op := [t_ 13 <|.mov (.g 6)]
def r26_8 : List Op := [t_ 4 <|.mov (ci 1)]
def r26_9 : List Op := [f_ 14 <|.mov (.g 0),f_ 15 <|.mov (.g 1),t_ 16 <|.bin .lss (.l 0) (.l 1)]
def r26_10 : List Op := [t_ 4 <|.mov (ci (-1))]
def r26_11 : List Op := [f_ 17 <|.mov (.g 0),f_ 18 <|.mov (.g 1),t_ 19 <|.bin .gtr (.l 0) (.l 1)]
def r26_12 : List Op := [t_ 4 <|.mov (ci 1)]
def r26_13 : List Op := [t_ 4 <|.mov (ci 0)]
def c26 : C := .seq (.region false r26_0) (.seq (.region false r26_1) (.seq (.region false r26_2) (.seq (.seq (.region false r26_3) (.cond (.g 11) (.seq (.seq (.region false r26_4) (.cond (.g 12) (.seq (.region false r26_5) (.ret)) (.skip))) (.seq (.region false r26_6) (.ret))) (.skip))) (.seq (.seq (.region false r26_7) (.cond (.g 13) (.seq (.region false r26_8) (.ret)) (.skip))) (.seq (.seq (.region false r26_9) (.cond (.g 16) (.seq (.region false r26_10) (.ret)) (.skip))) (.seq (.seq (.region false r26_11) (.cond (.g 19) (.seq (.region false r26_12) (.ret)) (.skip))) (.seq (.region false r26_13) (.ret))))))))
def F26 : F := ⟨2, [0, 1, 4, 5, 6, 11, 12, 13, 16, 19], [.t 4], none, c26⟩
attribute [go_sem] r26_0 r26_1 r26_2 r26_3 r26_4 r26_5 r26_6 r26_7 r26_8 r26_9 r26_10 r26_11 r26_12 r26_13 c26 F26
def r27_0 : List Op := [t_ 2 <|.mov (ci 0)]
def r27_1 : List Op := [t_ 3 <|.mov (ci 0)]
def r27_2 : List Op := [t_ 6 <|.mov (.g 0),t_ 7 <|.len false (.l 0),t_ 8 <|.mov (ci 0)]
def r27_3 : List Op := [t_ 9 <|.bin .lss (.g 8) (.g 7)]
def r27_4 : List Op := [f_ 10 <|.iad 1 (.g 6) (.g 8),f_ 11 <|.load (.c) none (.l 0),t_ 5 <|.mov (.l 1)]
def r27_5 : List Op := [f_ 12 <|.mov (.g 5),f_ 13 <|.mov (.g 3),t_ 14 <|.bin .neq (.l 0) (.l 1)]
def r27_6 : List Op := [f_ 15 <|.mov (.g 5),t_ 2 <|.mov (.l 0)]
def r27_7 : List Op := [f_ 16 <|.bin .add (.g 8) (ci 1),t_ 8 <|.mov (.l 0)]
def b27_0 : C := .seq (.region false r27_3) (.seq (.cond (.g 9) (.skip) (.exit 0)) (.seq (.block 1 (.seq (.region false r27_4) (.seq (.region false r27_5) (.cond (.g 14) (.seq (.region false r27_6) (.ret)) (.skip))))) (.region false r27_7)))
def l27_0 : C := .loop [] [] [] [] b27_0
def r27_8 : List Op := [f_ 17 <|.mov (.g 3),t_ 2 <|.mov (.l 0)]
def c27 : C := .seq (.region false r27_0) (.seq (.region false r27_1) (.seq (.seq (.region false r27_2) (.block 0 (l27_0))) (.seq (.region false r27_8) (.ret))))
def F27 : F := ⟨1, [0, 2, 3, 5, 6, 7, 8, 9, 14], [.t 2], none, c27⟩
attribute [go_sem] r27_0 r27_1 r27_2 r27_3 r27_4 r27_5 r27_6 r27_7 b27_0 r27_8 c27 F27
def r28_0 : List Op := [t_ 1 <|.box (.g 0),t_ 2 <|.mov (cb false)]
def r28_1 : List Op := [f_ 3 <|.fad (.g 1) 0,f_ 4 <|.load (.v 1) none (.l 0),f_ 5 <|.call (.k 32) .no none [.l 1, .c (.int .i64 1099511627776)],f_ 6 <|.mov (.l 2),y_ 7 3 <|.fad (.g 1) 1,y_ 8 3 <|.load (.v 1) none (.l 4),y_ 9 3 <|.call (.k 32) .no none [.l 5, .c (.int .i64 1048576)],f_ 10 <|.pick (.l 3) (.l 6) (cb false),f_ 11 <|.mov (.l 7),y_ 12 8 <|.fad (.g 1) 2,y_ 13 8 <|.load (.v 1) none (.l 9),y_ 14 8 <|.call (.k 32) .no none [.l 10, .c (.int .i64 255)],f_ 15 <|.pick (.l 8) (.l 11) (cb false),t_ 2 <|.mov (.l 12)]
def c28 : C := .seq (.region false r28_0) (.seq (.region false r28_1) (.ret))
def F28 : F := ⟨1, [0, 1, 2], [.t 2], none, c28⟩
attribute [go_sem] r28_0 r28_1 c28 F28
def r29_0 : List Op := [t_ 4 <|.box (.g 1),t_ 6 <|.mov (ci 0),t_ 7 <|.mov (cb false)]
def r29_1 : List Op := [f_ 12 <|.mov (.g 0),f_ 13 <|.len false (.l 0),t_ 8 <|.mov (.l 1)]
def r29_2 : List Op := [f_ 14 <|.mov (.g 8),t_ 9 <|.mov (ci 0),t_ 10 <|.mov (.l 0)]
def r29_3 : List Op := [f_ 15 <|.mov (.g 9),f_ 16 <|.mov (.g 10),t_ 17 <|.bin .lss (.l 0) (.l 1)]
def r29_4 : List Op := [f_ 18 <|.mov (.g 9),f_ 19 <|.mov (.g 10),f_ 20 <|.bin .add (.l 0) (.l 1),f_ 21 <|.conv (.int .u64) (.l 2),f_ 22 <|.sh .shr (.l 3) (.c (.int .u64 1)),f_ 23 <|.conv (.int .i64) (.l 4),t_ 11 <|.mov (.l 5)]
def r29_5 : List Op := [f_ 24 <|.mov (.g 2),f_ 25 <|.mov (.g 0),f_ 26 <|.mov (.g 11),f_ 27 <|.iad 5 (.l 1) (.l 2),f_ 28 <|.load (.c) (some 5) (.l 3),f_ 29 <|.load (.v 4) (some 3) (.g 4),f_ 30 <|.call (.v (.l 0)) .no none [.l 4, .l 5],t_ 31 <|.bin .lss (.l 6) (ci 0)]
def r29_6 : List Op := [f_ 32 <|.mov (.g 11),f_ 33 <|.bin .add (.l 0) (ci 1),t_ 9 <|.mov (.l 1)]
def r29_7 : List Op := [f_ 34 <|.mov (.g 11),t_ 10 <|.mov (.l 0)]
def b29_0 : C := .seq (.seq (.region false r29_3) (.cond (.g 17) (.skip) (.exit 0))) (.block 1 (.seq (.region false r29_4) (.seq (.region true r29_5) (.cond (.g 31) (.region false r29_6) (.region false r29_7)))))
def l29_0 : C := .loop [] [] [] [] b29_0
def r29_8 : List Op := [f_ 35 <|.mov (.g 9),f_ 36 <|.mov (.g 9),f_ 37 <|.mov (.g 8),f_ 38 <|.bin .lss (.l 1) (.l 2),f_ 39 <|.mov (.l 3),y_ 40 4 <|.mov (.g 2),y_ 41 4 <|.mov (.g 0),y_ 42 4 <|.mov (.g 9),y_ 43 4 <|.iad 5 (.l 6) (.l 7),y_ 44 4 <|.load (.c) (some 5) (.l 8),y_ 45 4 <|.load (.v 4) (some 3) (.g 4),y_ 46 4 <|.call (.v (.l 5)) .no none [.l 9, .l 10],y_ 47 4 <|.bin .eql (.l 11) (ci 0),f_ 48 <|.pick (.l 4) (.l 12) (cb false),t_ 6 <|.mov (.l 0),t_ 7 <|.mov (.l 13)]
def c29 : C := .seq (.region false r29_0) (.seq (.region false r29_1) (.seq (.region false r29_2) (.seq (.block 0 (l29_0)) (.seq (.region true r29_8) (.ret)))))
def F29 : F := ⟨3, [0, 1, 2, 4, 6, 7, 8, 9, 10, 11, 17, 31], [.t 6, .t 7], none, c29⟩
attribute [go_sem] r29_0 r29_1 r29_2 r29_3 r29_4 r29_5 r29_6 r29_7 b29_0 r29_8 c29 F29
def r30_0 : List Op := [t_ 2 <|.box (.g 0),t_ 3 <|.box (.g 1),t_ 4 <|.mov (ci 0)]
def r30_1 : List Op := [f_ 5 <|.fad (.g 2) 0,f_ 6 <|.load (.v 2) (some 3) (.l 0),f_ 7 <|.load (.v 3) (some 3) (.g 3),f_ 8 <|.call (.k 15) .no none [.l 1, .l 2],t_ 4 <|.mov (.l 3)]
def c30 : C := .seq (.region false r30_0) (.seq (.region false r30_1) (.ret))
def F30 : F := ⟨2, [0, 1, 2, 3, 4], [.t 4], none, c30⟩
attribute [go_sem] r30_0 r30_1 c30 F30
def r31_0 : List Op := [t_ 2 <|.mov (cb false)]
def r31_1 : List Op := [f_ 3 <|.mov (.g 0),f_ 4 <|.mov (.g 0),f_ 5 <|.bin .neq (.l 0) (.l 1),t_ 2 <|.mov (.l 2)]
def c31 : C := .seq (.region false r31_0) (.seq (.region false r31_1) (.ret))
def F31 : F := ⟨1, [0, 2], [.t 2], none, c31⟩
attribute [go_sem] r31_0 r31_1 c31 F31
def r32_0 : List Op := [t_ 4 <|.mov (cb false)]
def r32_1 : List Op := [f_ 5 <|.mov (.g 0),f_ 6 <|.bin .geq (.l 0) (ci 0),f_ 7 <|.mov (.l 1),y_ 8 2 <|.mov (.g 0),y_ 9 2 <|.mov (.g 1),y_ 10 2 <|.bin .leq (.l 3) (.l 4),f_ 11 <|.pick (.l 2) (.l 5) (cb false),t_ 4 <|.mov (.l 6)]
def c32 : C := .seq (.region false r32_0) (.seq (.region false r32_1) (.ret))
def F32 : F := ⟨2, [0, 1, 4], [.t 4], none, c32⟩
attribute [go_sem] r32_0 r32_1 c32 F32
end Sg
namespace Sg
open _root_.Go (IntKind BinOp UnOp)
def r78_0 : List Op := [t_ 2 <|.mov (cb false)]
def r78_1 : List Op := [f_ 4 <|.mov (.g 0),f_ 5 <|.len false (.l 0),t_ 6 <|.bin .gtr (.l 1) (ci 40)]
def r78_2 : List Op := [t_ 2 <|.mov (cb false)]
def r78_3 : List Op := [t_ 3 <|.mov (ci 0)]
def r78_4 : List Op := [f_ 7 <|.mov (.g 3),f_ 8 <|.mov (.g 0),f_ 9 <|.len false (.l 1),t_ 10 <|.bin .lss (.l 0) (.l 2)]
def r78_5 : List Op := [f_ 13 <|.mov (.g 0),f_ 14 <|.mov (.g 3),f_ 15 <|.iad 11 (.l 0) (.l 1),f_ 16 <|.fad (.l 2) 2,f_ 17 <|.fad (.l 3) 6,f_ 18 <|.load (.c) none (.l 4),f_ 19 <|.len false (.l 5),t_ 20 <|.bin .gtr (.l 6) (ci 100)]
def r78_6 : List Op := [t_ 2 <|.mov (cb false)]
def r78_7 : List Op := [f_ 11 <|.mov (.g 3),f_ 12 <|.bin .add (.l 0) (ci 1),t_ 3 <|.mov (.l 1)]
def b78_0 : C := .seq (.seq (.region false r78_4) (.cond (.g 10) (.skip) (.exit 0))) (.seq (.block 1 (.seq (.region false r78_5) (.cond (.g 20) (.seq (.region false r78_6) (.ret)) (.skip)))) (.region false r78_7))
def l78_0 : C := .loop [] [] [] [] b78_0
def r78_8 : List Op := [t_ 2 <|.mov (cb true)]
def c78 : C := .seq (.region false r78_0) (.seq (.seq (.region false r78_1) (.cond (.g 6) (.seq (.region false r78_2) (.ret)) (.skip))) (.seq (.seq (.region false r78_3) (.block 0 (l78_0))) (.seq (.region false r78_8) (.ret))))
def F78 : F := ⟨1, [0, 2, 3, 6, 10, 20], [.t 2], none, c78⟩
attribute [go_sem] r78_0 r78_1 r78_2 r78_3 r78_4 r78_5 r78_6 r78_7 b78_0 r78_8 c78 F78
def r81_0 : List Op := [t_ 2 <|.mov (cb false)]
def r81_1 : List Op := [t_ 3 <|.mov (ci 0)]
def r81_2 : List Op := [t_ 6 <|.mov (.g 0),t_ 7 <|.len false (.l 0),t_ 8 <|.mov (ci 0)]
def r81_3 : List Op := [t_ 9 <|.bin .lss (.g 8) (.g 7)]
def r81_4 : List Op := [f_ 10 <|.iad 11 (.g 6) (.g 8),f_ 11 <|.load (.c) (some 11) (.l 0),t_ 5 <|.alloc [.int .i64 0, .int .i64 0, .int .i64 0, .int .i64 0, .int .i64 0, .int .i64 0, .bool false, .str [], .slice 2 [], .str [], .bool false],u_ <|.store (.v 5) 11 (.l 2) (.l 1)]
def r81_5 : List Op := [f_ 12 <|.fad (.g 5) 0,f_ 13 <|.load (.v 5) none (.l 0),f_ 14 <|.mov (.g 3),f_ 15 <|.bin .leq (.l 1) (.l 2),f_ 16 <|.mov (.l 3),n_ 17 4 <|.fad (.g 5) 0,n_ 18 4 <|.load (.v 5) none (.l 5),n_ 19 4 <|.call (.k 97) .no none [.l 6],n_ 20 4 <|.un .not (.l 7),f_ 21 <|.pick (.l 4) (cb true) (.l 8),f_ 22 <|.mov (.l 9),n_ 23 10 <|.fad (.g 5) 1,n_ 24 10 <|.load (.v 5) none (.l 11),n_ 25 10 <|.call (.k 97) .no none [.l 12],n_ 26 10 <|.un .not (.l 13),f_ 27 <|.pick (.l 10) (cb true) (.l 14),f_ 28 <|.mov (.l 15),n_ 29 16 <|.fad (.g 5) 2,n_ 30 16 <|.load (.v 5) (some 9) (.l 17),n_ 31 16 <|.call (.k 98) .no none [.l 18],n_ 32 16 <|.un .not (.l 19),t_ 33 <|.pick (.l 16) (cb true) (.l 20)]
def r81_6 : List Op := [t_ 2 <|.mov (cb false)]
def r81_7 : List Op := [f_ 34 <|.fad (.g 5) 0,f_ 35 <|.load (.v 5) none (.l 0),t_ 3 <|.mov (.l 1)]
def r81_8 : List Op := [f_ 36 <|.bin .add (.g 8) (ci 1),t_ 8 <|.mov (.l 0)]
def b81_0 : C := .seq (.region false r81_3) (.seq (.cond (.g 9) (.skip) (.exit 0)) (.seq (.block 1 (.seq (.region false r81_4) (.seq (.seq (.region false r81_5) (.cond (.g 33) (.seq (.region false r81_6) (.ret)) (.skip))) (.region false r81_7)))) (.region false r81_8)))
def l81_0 : C := .loop [] [] [5] [] b81_0
def r81_9 : List Op := [f_ 37 <|.mov (.g 0),f_ 38 <|.len false (.l 0),f_ 39 <|.bin .leq (.l 1) (ci 8),t_ 2 <|.mov (.l 2)]
def c81 : C := .seq (.region false r81_0) (.seq (.region false r81_1) (.seq (.seq (.region false r81_2) (.block 0 (l81_0))) (.seq (.region false r81_9) (.ret))))
def F81 : F := ⟨1, [0, 2, 3, 5, 6, 7, 8, 9, 33], [.t 2], none, c81⟩
attribute [go_sem] r81_0 r81_1 r81_2 r81_3 r81_4 r81_5 r81_6 r81_7 r81_8 b81_0 r81_9 c81 F81
def r82_0 : List Op := [t_ 6 <|.mov (ci 0)]
def r82_1 : List Op := [f_ 9 <|.mov (.g 0),f_ 10 <|.call (.k 81) .no none [.l 0],f_ 11 <|.un .not (.l 1),f_ 12 <|.mov (.l 2),n_ 13 3 <|.mov (.g 1),n_ 14 3 <|.call (.k 97) .no none [.l 4],n_ 15 3 <|.un .not (.l 5),f_ 16 <|.pick (.l 3) (cb true) (.l 6),f_ 17 <|.mov (.l 7),n_ 18 8 <|.mov (.g 2),n_ 19 8 <|.call (.k 97) .no none [.l 9],n_ 20 8 <|.un .not (.l 10),t_ 21 <|.pick (.l 8) (cb true) (.l 11)]
def r82_2 : List Op := [t_ 6 <|.mov (ci 0)]
def r82_3 : List Op := [f_ 23 <|.mov (.g 0),f_ 24 <|.mov (.g 1),f_ 25 <|.call (.k 84) .no none [.l 0, .l 1],f_ 22 <|.mov (.l 2),f_ 26 <|.ext (.l 3) 0,f_ 27 <|.ext (.l 3) 1,t_ 7 <|.alloc [.int .i64 0, .int .i64 0, .int .i64 0, .int .i64 0, .int .i64 0, .int .i64 0, .bool false, .str [], .slice 2 [], .str [], .bool false],u_ <|.store (.v 7) 11 (.l 6) (.l 4),t_ 8 <|.mov (.l 5)]
def r82_4 : List Op := [f_ 29 <|.mov (.g 8),f_ 30 <|.un .not (.l 0),f_ 31 <|.mov (.l 1),n_ 32 2 <|.mov (.g 2),n_ 33 2 <|.fad (.g 7) 1,n_ 34 2 <|.load (.v 7) none (.l 4),n_ 35 2 <|.bin .gtr (.l 3) (.l 5),f_ 36 <|.pick (.l 2) (cb true) (.l 6),t_ 28 <|.mov (.l 7)]
def r82_5 : List Op := [t_ 6 <|.mov (ci 1)]
def r82_6 : List Op := [f_ 38 <|.mov (.g 2),f_ 39 <|.fad (.g 7) 1,f_ 40 <|.load (.v 7) none (.l 1),f_ 41 <|.bin .eql (.l 0) (.l 2),t_ 37 <|.mov (.l 3)]
def r82_7 : List Op := [t_ 6 <|.mov (ci 2)]
def r82_8 : List Op := [t_ 6 <|.mov (ci 3)]
def c82 : C := .seq (.region false r82_0) (.seq (.seq (.region false r82_1) (.cond (.g 21) (.seq (.region false r82_2) (.ret)) (.skip))) (.seq (.region false r82_3) (.seq (.block 0 (.seq (.region false r82_4) (.cond (.g 28) (.seq (.region false r82_5) (.ret)) (.seq (.region false r82_6) (.cond (.g 37) (.seq (.region false r82_7) (.ret)) (.skip)))))) (.seq (.region false r82_8) (.ret)))))
def F82 : F := ⟨3, [0, 1, 2, 6, 7, 8, 21, 28, 37], [.t 6], none, c82⟩
attribute [go_sem] r82_0 r82_1 r82_2 r82_3 r82_4 r82_5 r82_6 r82_7 r82_8 c82 F82
def r84_0 : List Op := [t_ 4 <|.alloc [.int .i64 0, .int .i64 0, .int .i64 0, .int .i64 0, .int .i64 0, .int .i64 0, .bool false, .str [], .slice 2 [], .str [], .bool false],t_ 5 <|.mov (cb false)]
def r84_1 : List Op := [f_ 8 <|.mov (.g 0),f_ 9 <|.call (.k 81) .no none [.l 0],t_ 10 <|.un .not (.l 1)]
def r84_2 : List Op := [f_ 11 <|.build [.int .i64 0, .int .i64 0, .int .i64 0, .int .i64 0, .int .i64 0, .int .i64 0, .bool false, .str [], .slice 2 [], .str [], .bool false] [],u_ <|.store (.v 4) 11 (.g 4) (.l 0),t_ 5 <|.mov (cb false)]
def r84_3 : List Op := [f_ 13 <|.mov (.g 0),f_ 14 <|.mov (.g 1),f_ 15 <|.call (.k 100) .no none [.l 0, .l 1],f_ 12 <|.mov (.l 2),f_ 16 <|.ext (.l 3) 0,f_ 17 <|.ext (.l 3) 1,t_ 6 <|.mov (.l 4),t_ 7 <|.mov (.l 5)]
def r84_4 : List Op := [f_ 18 <|.mov (.g 7),t_ 19 <|.un .not (.l 0)]
def r84_5 : List Op := [f_ 20 <|.build [.int .i64 0, .int .i64 0, .int .i64 0, .int .i64 0, .int .i64 0, .int .i64 0, .bool false, .str [], .slice 2 [], .str [], .bool false] [],u_ <|.store (.v 4) 11 (.g 4) (.l 0),t_ 5 <|.mov (cb false)]
def r84_6 : List Op := [f_ 21 <|.mov (.g 0),f_ 22 <|.mov (.g 6),f_ 23 <|.iad 11 (.l 0) (.l 1),f_ 24 <|.load (.c) (some 11) (.l 2),u_ <|.store (.v 4) 11 (.g 4) (.l 3),t_ 5 <|.mov (cb true)]
def c84 : C := .seq (.region false r84_0) (.seq (.seq (.region false r84_1) (.cond (.g 10) (.seq (.region false r84_2) (.ret)) (.skip))) (.seq (.region false r84_3) (.seq (.seq (.region false r84_4) (.cond (.g 19) (.seq (.region false r84_5) (.ret)) (.skip))) (.seq (.region false r84_6) (.ret)))))
def F84 : F := ⟨2, [0, 1, 4, 5, 6, 7, 10, 19], [.cell 4 (some 11), .t 5], none, c84⟩
attribute [go_sem] r84_0 r84_1 r84_2 r84_3 r84_4 r84_5 r84_6 c84 F84
def r86_0 : List Op := [t_ 4 <|.mov (cb false)]
def r86_1 : List Op := [f_ 6 <|.mov (.g 0),f_ 7 <|.len false (.l 0),f_ 8 <|.mov (.g 1),f_ 9 <|.len false (.l 2),t_ 10 <|.bin .neq (.l 1) (.l 3)]
def r86_2 : List Op := [t_ 4 <|.mov (cb false)]
def r86_3 : List Op := [t_ 5 <|.mov (ci 0)]
def r86_4 : List Op := [f_ 11 <|.mov (.g 5),f_ 12 <|.mov (.g 0),f_ 13 <|.len false (.l 1),t_ 14 <|.bin .lss (.l 0) (.l 2)]
def r86_5 : List Op := [f_ 17 <|.mov (.g 0),f_ 18 <|.mov (.g 5),f_ 19 <|.iad 11 (.l 0) (.l 1),f_ 20 <|.fad (.l 2) 0,f_ 21 <|.load (.c) none (.l 3),f_ 22 <|.mov (.g 1),f_ 23 <|.mov (.g 5),f_ 24 <|.iad 11 (.l 5) (.l 6),f_ 25 <|.fad (.l 7) 0,f_ 26 <|.load (.c) none (.l 8),f_ 27 <|.bin .neq (.l 4) (.l 9),f_ 28 <|.mov (.l 10),n_ 29 11 <|.mov (.g 0),n_ 30 11 <|.mov (.g 5),n_ 31 11 <|.iad 11 (.l 12) (.l 13),n_ 32 11 <|.fad (.l 14) 1,n_ 33 11 <|.load (.c) none (.l 15),n_ 34 11 <|.mov (.g 1),n_ 35 11 <|.mov (.g 5),n_ 36 11 <|.iad 11 (.l 17) (.l 18),n_ 37 11 <|.fad (.l 19) 1,n_ 38 11 <|.load (.c) none (.l 20),n_ 39 11 <|.bin .neq (.l 16) (.l 21),f_ 40 <|.pick (.l 11) (cb true) (.l 22),f_ 41 <|.mov (.l 23),n_ 42 24 <|.mov (.g 0),n_ 43 24 <|.mov (.g 5),n_ 44 24 <|.iad 11 (.l 25) (.l 26),n_ 45 24 <|.fad (.l 27) 2,n_ 46 24 <|.load (.c) (some 9) (.l 28),n_ 47 24 <|.mov (.g 1),n_ 48 24 <|.mov (.g 5),n_ 49 24 <|.iad 11 (.l 30) (.l 31),n_ 50 24 <|.fad (.l 32) 2,n_ 51 24 <|.load (.c) (some 9) (.l 33),n_ 52 24 <|.call (.k 101) .no none [.l 29, .l 34],n_ 53 24 <|.un .not (.l 35),t_ 54 <|.pick (.l 24) (cb true) (.l 36)]
def r86_6 : List Op := [t_ 4 <|.mov (cb false)]
def r86_7 : List Op := [f_ 15 <|.mov (.g 5),f_ 16 <|.bin .add (.l 0) (ci 1),t_ 5 <|.mov (.l 1)]
def b86_0 : C := .seq (.seq (.region false r86_4) (.cond (.g 14) (.skip) (.exit 0))) (.seq (.block 1 (.seq (.region true r86_5) (.cond (.g 54) (.seq (.region false r86_6) (.ret)) (.skip)))) (.region false r86_7))
def l86_0 : C := .loop [] [] [] [] b86_0
def r86_8 : List Op := [t_ 4 <|.mov (cb true)]
def c86 : C := .seq (.region false r86_0) (.seq (.seq (.region false r86_1) (.cond (.g 10) (.seq (.region false r86_2) (.ret)) (.skip))) (.seq (.seq (.region false r86_3) (.block 0 (l86_0))) (.seq (.region false r86_8) (.ret))))
def F86 : F := ⟨2, [0, 1, 4, 5, 10, 14, 54], [.t 4], none, c86⟩
attribute [go_sem] r86_0 r86_1 r86_2 r86_3 r86_4 r86_5 r86_6 r86_7 b86_0 r86_8 c86 F86
def r88_0 : List Op := [t_ 3 <|.box (.g 1),t_ 4 <|.mov (.c (.slice 11 [])),t_ 5 <|.mov (ci 0)]
def r88_1 : List Op := [f_ 9 <|.mov (.g 0),f_ 10 <|.call (.k 81) .no none [.l 0],f_ 11 <|.un .not (.l 1),f_ 12 <|.mov (.l 2),n_ 13 3 <|.load (.v 3) (some 11) (.g 3),n_ 14 3 <|.mks 11 1 [.int .i64 0, .int .i64 0, .int .i64 0, .int .i64 0, .int .i64 0, .int .i64 0, .bool false, .str [], .slice 2 [], .str [], .bool false] [(0, .l 4)],n_ 15 3 <|.call (.k 81) .no none [.l 5],n_ 16 3 <|.un .not (.l 6),t_ 17 <|.pick (.l 3) (cb true) (.l 7)]
def r88_2 : List Op := [t_ 4 <|.mov (.c (.slice 11 [])),t_ 5 <|.mov (ci 1)]
def r88_3 : List Op := [f_ 19 <|.mov (.g 0),f_ 20 <|.fad (.g 3) 0,f_ 21 <|.load (.v 3) none (.l 1),f_ 22 <|.call (.k 100) .no none [.l 0, .l 2],f_ 18 <|.mov (.l 3),f_ 23 <|.ext (.l 4) 0,f_ 24 <|.ext (.l 4) 1,t_ 6 <|.mov (.l 5),t_ 7 <|.mov (.l 6)]
def r88_4 : List Op := [f_ 26 <|.mov (.g 7),f_ 27 <|.mov (.l 0),y_ 28 1 <|.mov (.g 0),y_ 29 1 <|.mov (.g 6),y_ 30 1 <|.iad 11 (.l 2) (.l 3),y_ 31 1 <|.fad (.l 4) 1,y_ 32 1 <|.load (.c) none (.l 5),y_ 33 1 <|.fad (.g 3) 1,y_ 34 1 <|.load (.v 3) none (.l 7),y_ 35 1 <|.bin .geq (.l 6) (.l 8),f_ 36 <|.pick (.l 1) (.l 9) (cb false),t_ 25 <|.mov (.l 10)]
def r88_5 : List Op := [t_ 4 <|.mov (.c (.slice 11 [])),t_ 5 <|.mov (ci 9)]
def r88_6 : List Op := [f_ 38 <|.mov (.g 7),f_ 39 <|.un .not (.l 0),f_ 40 <|.mov (.l 1),y_ 41 2 <|.mov (.g 0),y_ 42 2 <|.len false (.l 3),y_ 43 2 <|.bin .eql (.l 4) (ci 8),f_ 44 <|.pick (.l 2) (.l 5) (cb false),t_ 37 <|.mov (.l 6)]
def r88_7 : List Op := [t_ 4 <|.mov (.c (.slice 11 [])),t_ 5 <|.mov (ci 6)]
def r88_8 : List Op := [f_ 45 <|.mov (.g 0),f_ 46 <|.call (.k 102) .no (some 0) [.l 0],t_ 8 <|.mov (.l 1)]
def r88_9 : List Op := [t_ 47 <|.mov (.g 7)]
def r88_10 : List Op := [f_ 48 <|.mov (.g 8),f_ 49 <|.mov (.g 6),f_ 50 <|.load (.v 3) (some 11) (.g 3),f_ 51 <|.iad 11 (.l 0) (.l 1),u_ <|.store (.e 46) 11 (.l 3) (.l 2)]
def r88_11 : List Op := [f_ 52 <|.mov (.g 8),t_ 4 <|.mov (.l 0),t_ 5 <|.mov (ci 0)]
def r88_12 : List Op := [f_ 53 <|.mov (.g 8),f_ 54 <|.mov (.g 6),f_ 55 <|.load (.v 3) (some 11) (.g 3),f_ 56 <|.mks 11 1 [.int .i64 0, .int .i64 0, .int .i64 0, .int .i64 0, .int .i64 0, .int .i64 0, .bool false, .str [], .slice 2 [], .str [], .bool false] [(0, .l 2)],f_ 57 <|.ins 103 46 11 (.l 0) (.l 1) (.l 3),t_ 4 <|.mov (.l 4),t_ 5 <|.mov (ci 0)]
def c88 : C := .seq (.region false r88_0) (.seq (.seq (.region false r88_1) (.cond (.g 17) (.seq (.region false r88_2) (.ret)) (.skip))) (.seq (.region false r88_3) (.seq (.block 0 (.seq (.region true r88_4) (.cond (.g 25) (.seq (.region false r88_5) (.ret)) (.seq (.region false r88_6) (.cond (.g 37) (.seq (.region false r88_7) (.ret)) (.skip)))))) (.seq (.region false r88_8) (.seq (.seq (.region false r88_9) (.cond (.g 47) (.seq (.region false r88_10) (.seq (.region false r88_11) (.ret))) (.skip))) (.seq (.region false r88_12) (.ret)))))))
def F88 : F := ⟨2, [0, 1, 3, 4, 5, 6, 7, 8, 17, 25, 37, 47], [.t 4, .t 5], none, c88⟩
attribute [go_sem] r88_0 r88_1 r88_2 r88_3 r88_4 r88_5 r88_6 r88_7 r88_8 r88_9 r88_10 r88_11 r88_12 c88 F88
def r91_0 : List Op := [t_ 4 <|.mov (.c (.slice 11 [])),t_ 5 <|.mov (ci 0)]
def r91_1 : List Op := [f_ 7 <|.mov (.g 0),f_ 8 <|.call (.k 81) .no none [.l 0],f_ 9 <|.un .not (.l 1),f_ 10 <|.mov (.l 2),n_ 11 3 <|.mov (.g 1),n_ 12 3 <|.call (.k 81) .no none [.l 4],n_ 13 3 <|.un .not (.l 5),t_ 14 <|.pick (.l 3) (cb true) (.l 6)]
def r91_2 : List Op := [t_ 4 <|.mov (.c (.slice 11 [])),t_ 5 <|.mov (ci 1)]
def r91_3 : List Op := [t_ 6 <|.mko 11]
def r91_4 : List Op := [f_ 15 <|.mov (.g 0),f_ 16 <|.len false (.l 0),f_ 17 <|.bin .gtr (.l 1) (ci 0),f_ 18 <|.mov (.l 2),n_ 19 3 <|.mov (.g 1),n_ 20 3 <|.len false (.l 4),n_ 21 3 <|.bin .gtr (.l 5) (ci 0),t_ 22 <|.pick (.l 3) (cb true) (.l 6)]
def r91_5 : List Op := [f_ 34 <|.mov (.g 1),f_ 35 <|.len false (.l 0),f_ 36 <|.bin .eql (.l 1) (ci 0),f_ 37 <|.mov (.l 2),n_ 38 3 <|.mov (.g 0),n_ 39 3 <|.len false (.l 4),n_ 40 3 <|.bin .gtr (.l 5) (ci 0),n_ 41 3 <|.mov (.l 6),y_ 42 7 <|.mov (.g 0),y_ 43 7 <|.iad 11 (.l 8) (ci 0),y_ 44 7 <|.fad (.l 9) 0,y_ 45 7 <|.load (.c) none (.l 10),y_ 46 7 <|.mov (.g 1),y_ 47 7 <|.iad 11 (.l 12) (ci 0),y_ 48 7 <|.fad (.l 13) 0,y_ 49 7 <|.load (.c) none (.l 14),y_ 50 7 <|.bin .lss (.l 11) (.l 15),n_ 51 3 <|.pick (.l 7) (.l 16) (cb false),f_ 52 <|.pick (.l 3) (cb true) (.l 17),t_ 33 <|.mov (.l 18)]
def r91_6 : List Op := [f_ 53 <|.mov (.g 6),f_ 54 <|.mov (.g 0),f_ 55 <|.iad 11 (.l 1) (ci 0),f_ 56 <|.load (.c) (some 11) (.l 2),f_ 57 <|.mks 11 1 [.int .i64 0, .int .i64 0, .int .i64 0, .int .i64 0, .int .i64 0, .int .i64 0, .bool false, .str [], .slice 2 [], .str [], .bool false] [(0, .l 3)],f_ 58 <|.app 6 11 (.l 0) (.l 4),f_ 59 <|.mov (.g 0),f_ 60 <|.sl false 11 (.l 6) (some (ci 1)) none,t_ 6 <|.mov (.l 5),t_ 0 <|.mov (.l 7)]
def r91_7 : List Op := [f_ 62 <|.mov (.g 0),f_ 63 <|.len false (.l 0),f_ 64 <|.bin .eql (.l 1) (ci 0),f_ 65 <|.mov (.l 2),n_ 66 3 <|.mov (.g 1),n_ 67 3 <|.iad 11 (.l 4) (ci 0),n_ 68 3 <|.fad (.l 5) 0,n_ 69 3 <|.load (.c) none (.l 6),n_ 70 3 <|.mov (.g 0),n_ 71 3 <|.iad 11 (.l 8) (ci 0),n_ 72 3 <|.fad (.l 9) 0,n_ 73 3 <|.load (.c) none (.l 10),n_ 74 3 <|.bin .lss (.l 7) (.l 11),f_ 75 <|.pick (.l 3) (cb true) (.l 12),t_ 61 <|.mov (.l 13)]
def r91_8 : List Op := [f_ 76 <|.mov (.g 6),f_ 77 <|.mov (.g 1),f_ 78 <|.iad 11 (.l 1) (ci 0),f_ 79 <|.load (.c) (some 11) (.l 2),f_ 80 <|.mks 11 1 [.int .i64 0, .int .i64 0, .int .i64 0, .int .i64 0, .int .i64 0, .int .i64 0, .bool false, .str [], .slice 2 [], .str [], .bool false] [(0, .l 3)],f_ 81 <|.app 6 11 (.l 0) (.l 4),f_ 82 <|.mov (.g 1),f_ 83 <|.sl false 11 (.l 6) (some (ci 1)) none,t_ 6 <|.mov (.l 5),t_ 1 <|.mov (.l 7)]
def r91_9 : List Op := [f_ 85 <|.mov (.g 0),f_ 86 <|.iad 11 (.l 0) (ci 0),f_ 87 <|.fad (.l 1) 1,f_ 88 <|.load (.c) none (.l 2),f_ 89 <|.mov (.g 1),f_ 90 <|.iad 11 (.l 4) (ci 0),f_ 91 <|.fad (.l 5) 1,f_ 92 <|.load (.c) none (.l 6),f_ 93 <|.bin .geq (.l 3) (.l 7),t_ 84 <|.mov (.l 8)]
def r91_10 : List Op := [f_ 94 <|.mov (.g 6),f_ 95 <|.mov (.g 0),f_ 96 <|.iad 11 (.l 1) (ci 0),f_ 97 <|.load (.c) (some 11) (.l 2),f_ 98 <|.mks 11 1 [.int .i64 0, .int .i64 0, .int .i64 0, .int .i64 0, .int .i64 0, .int .i64 0, .bool false, .str [], .slice 2 [], .str [], .bool false] [(0, .l 3)],f_ 99 <|.app 6 11 (.l 0) (.l 4),f_ 100 <|.mov (.g 0),f_ 101 <|.sl false 11 (.l 6) (some (ci 1)) none,f_ 102 <|.mov (.g 1),f_ 103 <|.sl false 11 (.l 8) (some (ci 1)) none,t_ 6 <|.mov (.l 5),t_ 0 <|.mov (.l 7),t_ 1 <|.mov (.l 9)]
def r91_11 : List Op := [f_ 23 <|.mov (.g 6),f_ 24 <|.mov (.g 1),f_ 25 <|.iad 11 (.l 1) (ci 0),f_ 26 <|.load (.c) (some 11) (.l 2),f_ 27 <|.mks 11 1 [.int .i64 0, .int .i64 0, .int .i64 0, .int .i64 0, .int .i64 0, .int .i64 0, .bool false, .str [], .slice 2 [], .str [], .bool false] [(0, .l 3)],f_ 28 <|.app 6 11 (.l 0) (.l 4),f_ 29 <|.mov (.g 0),f_ 30 <|.sl false 11 (.l 6) (some (ci 1)) none,f_ 31 <|.mov (.g 1),f_ 32 <|.sl false 11 (.l 8) (some (ci 1)) none,t_ 6 <|.mov (.l 5),t_ 0 <|.mov (.l 7),t_ 1 <|.mov (.l 9)]
def b91_0 : C := .seq (.seq (.region false r91_4) (.cond (.g 22) (.skip) (.exit 0))) (.block 1 (.block 2 (.seq (.region true r91_5) (.cond (.g 33) (.region true r91_6) (.seq (.region true r91_7) (.cond (.g 61) (.region true r91_8) (.seq (.region true r91_9) (.cond (.g 84) (.region true r91_10) (.region true r91_11)))))))))
def l91_0 : C := .loop [] [] [] [] b91_0
def r91_12 : List Op := [f_ 104 <|.mov (.g 6),f_ 105 <|.len false (.l 0),t_ 106 <|.bin .gtr (.l 1) (ci 8)]
def r91_13 : List Op := [t_ 4 <|.mov (.c (.slice 11 [])),t_ 5 <|.mov (ci 6)]
def r91_14 : List Op := [f_ 107 <|.mov (.g 6),t_ 4 <|.mov (.l 0),t_ 5 <|.mov (ci 0)]
def c91 : C := .seq (.region false r91_0) (.seq (.seq (.region false r91_1) (.cond (.g 14) (.seq (.region false r91_2) (.ret)) (.skip))) (.seq (.region false r91_3) (.seq (.block 0 (l91_0)) (.seq (.seq (.region false r91_12) (.cond (.g 106) (.seq (.region false r91_13) (.ret)) (.skip))) (.seq (.region false r91_14) (.ret))))))
def F91 : F := ⟨2, [0, 1, 4, 5, 6, 14, 22, 33, 61, 84, 106], [.t 4, .t 5], none, c91⟩
attribute [go_sem] r91_0 r91_1 r91_2 r91_3 r91_4 r91_5 r91_6 r91_7 r91_8 r91_9 r91_10 r91_11 b91_0 r91_12 r91_13 r91_14 c91 F91
def r97_0 : List Op := [t_ 2 <|.mov (cb false)]
def r97_1 : List Op := [f_ 3 <|.mov (.g 0),f_ 4 <|.bin .geq (.l 0) (ci 1),f_ 5 <|.mov (.l 1),y_ 6 2 <|.mov (.g 0),y_ 7 2 <|.bin .leq (.l 3) (ci 1099511627776),f_ 8 <|.pick (.l 2) (.l 4) (cb false),t_ 2 <|.mov (.l 5)]
def c97 : C := .seq (.region false r97_0) (.seq (.region false r97_1) (.ret))
def F97 : F := ⟨1, [0, 2], [.t 2], none, c97⟩
attribute [go_sem] r97_0 r97_1 c97 F97
def r98_0 : List Op := [t_ 1 <|.box (.g 0),t_ 2 <|.mov (cb false)]
def r98_1 : List Op := [f_ 3 <|.fad (.g 1) 0,f_ 4 <|.load (.v 1) none (.l 0),f_ 5 <|.bin .geq (.l 1) (ci 0),f_ 6 <|.mov (.l 2),y_ 7 3 <|.fad (.g 1) 0,y_ 8 3 <|.load (.v 1) none (.l 4),y_ 9 3 <|.bin .leq (.l 5) (ci 16),f_ 10 <|.pick (.l 3) (.l 6) (cb false),f_ 11 <|.mov (.l 7),y_ 12 8 <|.fad (.g 1) 1,y_ 13 8 <|.load (.v 1) (some 3) (.l 9),y_ 14 8 <|.call (.k 28) .no none [.l 10],f_ 15 <|.pick (.l 8) (.l 11) (cb false),f_ 16 <|.mov (.l 12),y_ 17 13 <|.fad (.g 1) 5,y_ 18 13 <|.load (.v 1) none (.l 14),y_ 19 13 <|.len true (.l 15),y_ 20 13 <|.bin .leq (.l 16) (ci 16),f_ 21 <|.pick (.l 13) (.l 17) (cb false),f_ 22 <|.mov (.l 18),y_ 23 19 <|.fad (.g 1) 6,y_ 24 19 <|.load (.v 1) none (.l 20),y_ 25 19 <|.len false (.l 21),y_ 26 19 <|.bin .eql (.l 22) (ci 0),f_ 27 <|.pick (.l 19) (.l 23) (cb false),f_ 28 <|.mov (.l 24),y_ 29 25 <|.fad (.g 1) 7,y_ 30 25 <|.load (.v 1) none (.l 26),y_ 31 25 <|.bin .eql (.l 27) (.c (.str [])),f_ 32 <|.pick (.l 25) (.l 28) (cb false),f_ 33 <|.mov (.l 29),y_ 34 30 <|.fad (.g 1) 8,y_ 35 30 <|.load (.v 1) none (.l 31),y_ 36 30 <|.un .not (.l 32),f_ 37 <|.pick (.l 30) (.l 33) (cb false),t_ 2 <|.mov (.l 34)]
def c98 : C := .seq (.region false r98_0) (.seq (.region false r98_1) (.ret))
def F98 : F := ⟨1, [0, 1, 2], [.t 2], none, c98⟩
attribute [go_sem] r98_0 r98_1 c98 F98
def r100_0 : List Op := [t_ 3 <|.box (.g 1),t_ 4 <|.mov (ci 0),t_ 5 <|.mov (cb false)]
def r100_1 : List Op := [f_ 7 <|.mov (.g 0),f_ 8 <|.fn 105 [.g 3] [3],f_ 9 <|.call (.k 106) .no none [.l 0, .l 1],t_ 6 <|.mov (.l 2)]
def r100_2 : List Op := [f_ 10 <|.mov (.g 6),t_ 11 <|.bin .lss (.l 0) (ci 0)]
def r100_3 : List Op := [f_ 12 <|.mov (.g 0),f_ 13 <|.len false (.l 0),t_ 4 <|.mov (.l 1),t_ 5 <|.mov (cb false)]
def r100_4 : List Op := [f_ 14 <|.mov (.g 6),f_ 15 <|.mov (.g 0),f_ 16 <|.mov (.g 6),f_ 17 <|.iad 11 (.l 1) (.l 2),f_ 18 <|.fad (.l 3) 0,f_ 19 <|.load (.c) none (.l 4),f_ 20 <|.load (.v 3) none (.g 3),f_ 21 <|.bin .eql (.l 5) (.l 6),t_ 4 <|.mov (.l 0),t_ 5 <|.mov (.l 7)]
def c100 : C := .seq (.region false r100_0) (.seq (.region false r100_1) (.seq (.seq (.region false r100_2) (.cond (.g 11) (.seq (.region false r100_3) (.ret)) (.skip))) (.seq (.region true r100_4) (.ret))))
def F100 : F := ⟨2, [0, 1, 3, 4, 5, 6, 11], [.t 4, .t 5], none, c100⟩
attribute [go_sem] r100_0 r100_1 r100_2 r100_3 r100_4 c100 F100
def r101_0 : List Op := [t_ 2 <|.box (.g 0),t_ 3 <|.box (.g 1),t_ 4 <|.mov (cb false)]
def r101_1 : List Op := [f_ 6 <|.fad (.g 2) 6,f_ 7 <|.load (.v 2) none (.l 0),f_ 8 <|.len false (.l 1),f_ 9 <|.fad (.g 3) 6,f_ 10 <|.load (.v 3) none (.l 3),f_ 11 <|.len false (.l 4),t_ 12 <|.bin .neq (.l 2) (.l 5)]
def r101_2 : List Op := [t_ 4 <|.mov (cb false)]
def r101_3 : List Op := [t_ 5 <|.mov (ci 0)]
def r101_4 : List Op := [f_ 13 <|.mov (.g 5),f_ 14 <|.fad (.g 2) 6,f_ 15 <|.load (.v 2) none (.l 1),f_ 16 <|.len false (.l 2),t_ 17 <|.bin .lss (.l 0) (.l 3)]
def r101_5 : List Op := [f_ 20 <|.fad (.g 2) 6,f_ 21 <|.load (.v 2) none (.l 0),f_ 22 <|.mov (.g 5),f_ 23 <|.iad 2 (.l 1) (.l 2),f_ 24 <|.load (.c) (some 2) (.l 3),f_ 25 <|.fad (.g 3) 6,f_ 26 <|.load (.v 3) none (.l 5),f_ 27 <|.mov (.g 5),f_ 28 <|.iad 2 (.l 6) (.l 7),f_ 29 <|.load (.c) (some 2) (.l 8),t_ 30 <|.eqa true [.s, .s] (.l 4) (.l 9)]
def r101_6 : List Op := [t_ 4 <|.mov (cb false)]
def r101_7 : List Op := [f_ 18 <|.mov (.g 5),f_ 19 <|.bin .add (.l 0) (ci 1),t_ 5 <|.mov (.l 1)]
def b101_0 : C := .seq (.seq (.region false r101_4) (.cond (.g 17) (.skip) (.exit 0))) (.seq (.block 1 (.seq (.region true r101_5) (.cond (.g 30) (.seq (.region false r101_6) (.ret)) (.skip)))) (.region false r101_7))
def l101_0 : C := .loop [] [] [] [] b101_0
def r101_8 : List Op := [f_ 31 <|.fad (.g 2) 0,f_ 32 <|.load (.v 2) none (.l 0),f_ 33 <|.fad (.g 3) 0,f_ 34 <|.load (.v 3) none (.l 2),f_ 35 <|.bin .eql (.l 1) (.l 3),f_ 36 <|.mov (.l 4),y_ 37 5 <|.fad (.g 2) 1,y_ 38 5 <|.load (.v 2) (some 3) (.l 6),y_ 39 5 <|.fad (.g 3) 1,y_ 40 5 <|.load (.v 3) (some 3) (.l 8),y_ 41 5 <|.eqa false [.i, .i, .i] (.l 7) (.l 9),f_ 42 <|.pick (.l 5) (.l 10) (cb false),f_ 43 <|.mov (.l 11),y_ 44 12 <|.fad (.g 2) 4,y_ 45 12 <|.load (.v 2) none (.l 13),y_ 46 12 <|.fad (.g 3) 4,y_ 47 12 <|.load (.v 3) none (.l 15),y_ 48 12 <|.eqb false (.l 14) (.l 16),f_ 49 <|.pick (.l 12) (.l 17) (cb false),f_ 50 <|.mov (.l 18),y_ 51 19 <|.fad (.g 2) 5,y_ 52 19 <|.load (.v 2) none (.l 20),y_ 53 19 <|.fad (.g 3) 5,y_ 54 19 <|.load (.v 3) none (.l 22),y_ 55 19 <|.bin .eql (.l 21) (.l 23),f_ 56 <|.pick (.l 19) (.l 24) (cb false),f_ 57 <|.mov (.l 25),y_ 58 26 <|.fad (.g 2) 7,y_ 59 26 <|.load (.v 2) none (.l 27),y_ 60 26 <|.fad (.g 3) 7,y_ 61 26 <|.load (.v 3) none (.l 29),y_ 62 26 <|.bin .eql (.l 28) (.l 30),f_ 63 <|.pick (.l 26) (.l 31) (cb false),f_ 64 <|.mov (.l 32),y_ 65 33 <|.fad (.g 2) 8,y_ 66 33 <|.load (.v 2) none (.l 34),y_ 67 33 <|.fad (.g 3) 8,y_ 68 33 <|.load (.v 3) none (.l 36),y_ 69 33 <|.eqb false (.l 35) (.l 37),f_ 70 <|.pick (.l 33) (.l 38) (cb false),t_ 4 <|.mov (.l 39)]
def c101 : C := .seq (.region false r101_0) (.seq (.seq (.region false r101_1) (.cond (.g 12) (.seq (.region false r101_2) (.ret)) (.skip))) (.seq (.seq (.region false r101_3) (.block 0 (l101_0))) (.seq (.region false r101_8) (.ret))))
def F101 : F := ⟨2, [0, 1, 2, 3, 4, 5, 12, 17, 30], [.t 4], none, c101⟩
attribute [go_sem] r101_0 r101_1 r101_2 r101_3 r101_4 r101_5 r101_6 r101_7 b101_0 r101_8 c101 F101
def r105_0 : List Op := [t_ 2 <|.box (.g 0),t_ 3 <|.mov (cb false)]
def r105_1 : List Op := [f_ 4 <|.fad (.g 2) 0,f_ 5 <|.load (.v 2) none (.l 0),f_ 6 <|.load (.c) none (.g 1),f_ 7 <|.bin .geq (.l 1) (.l 2),t_ 3 <|.mov (.l 3)]
def c105 : C := .seq (.region false r105_0) (.seq (.region false r105_1) (.ret))
def F105 : F := ⟨2, [0, 1, 2, 3], [.t 3], none, c105⟩
attribute [go_sem] r105_0 r105_1 c105 F105
def r106_0 : List Op := [t_ 4 <|.mov (ci 0)]
def r106_1 : List Op := [f_ 6 <|.mov (.g 0),t_ 7 <|.len false (.l 0),t_ 8 <|.mov (ci 0)]
def r106_2 : List Op := [t_ 9 <|.bin .lss (.g 8) (.g 7)]
def r106_3 : List Op := [f_ 10 <|.mov (.g 8),t_ 5 <|.mov (.l 0)]
def r106_4 : List Op := [f_ 11 <|.mov (.g 1),f_ 12 <|.mov (.g 0),f_ 13 <|.mov (.g 5),f_ 14 <|.iad 11 (.l 1) (.l 2),f_ 15 <|.load (.c) (some 11) (.l 3),t_ 16 <|.call (.v (.l 0)) .no none [.l 4]]
def r106_5 : List Op := [f_ 17 <|.mov (.g 5),t_ 4 <|.mov (.l 0)]
def r106_6 : List Op := [f_ 18 <|.bin .add (.g 8) (ci 1),t_ 8 <|.mov (.l 0)]
def b106_0 : C := .seq (.region false r106_2) (.seq (.cond (.g 9) (.skip) (.exit 0)) (.seq (.block 1 (.seq (.region false r106_3) (.seq (.region false r106_4) (.cond (.g 16) (.seq (.region false r106_5) (.ret)) (.skip))))) (.region false r106_6)))
def l106_0 : C := .loop [] [] [] [] b106_0
def r106_7 : List Op := [t_ 4 <|.mov (ci (-1))]
def c106 : C := .seq (.region false r106_0) (.seq (.seq (.region false r106_1) (.block 0 (l106_0))) (.seq (.region false r106_7) (.ret)))
def F106 : F := ⟨2, [0, 1, 4, 5, 7, 8, 9, 16], [.t 4], none, c106⟩
attribute [go_sem] r106_0 r106_1 r106_2 r106_3 r106_4 r106_5 r106_6 b106_0 r106_7 c106 F106
end Sg
namespace Sg
open _root_.Go (IntKind BinOp UnOp)
def r67_0 : List Op := [t_ 4 <|.mov (cb false)]
def r67_1 : List Op := [f_ 5 <|.mov (.g 0),f_ 6 <|.mov (.g 1),f_ 7 <|.call (.k 76) .no none [.l 0, .l 1],f_ 8 <|.bin .geq (.l 2) (ci 0),t_ 4 <|.mov (.l 3)]
def c67 : C := .seq (.region false r67_0) (.seq (.region false r67_1) (.ret))
def F67 : F := ⟨2, [0, 1, 4], [.t 4], none, c67⟩
attribute [go_sem] r67_0 r67_1 c67 F67
def r76_0 : List Op := [t_ 4 <|.mov (ci 0)]
def r76_1 : List Op := [f_ 6 <|.mov (.g 0),t_ 7 <|.len false (.l 0),t_ 8 <|.mov (ci 0)]
def r76_2 : List Op := [t_ 9 <|.bin .lss (.g 8) (.g 7)]
def r76_3 : List Op := [f_ 10 <|.mov (.g 8),t_ 5 <|.mov (.l 0)]
def r76_4 : List Op := [f_ 11 <|.mov (.g 1),f_ 12 <|.mov (.g 0),f_ 13 <|.mov (.g 5),f_ 14 <|.iad 1 (.l 1) (.l 2),f_ 15 <|.load (.c) none (.l 3),t_ 16 <|.call (.v (.l 0)) .no none [.l 4]]
def r76_5 : List Op := [f_ 17 <|.mov (.g 5),t_ 4 <|.mov (.l 0)]
def r76_6 : List Op := [f_ 18 <|.bin .add (.g 8) (ci 1),t_ 8 <|.mov (.l 0)]
def b76_0 : C := .seq (.region false r76_2) (.seq (.cond (.g 9) (.skip) (.exit 0)) (.seq (.block 1 (.seq (.region false r76_3) (.seq (.region false r76_4) (.cond (.g 16) (.seq (.region false r76_5) (.ret)) (.skip))))) (.region false r76_6)))
def l76_0 : C := .loop [] [] [] [] b76_0
def r76_7 : List Op := [t_ 4 <|.mov (ci (-1))]
def c76 : C := .seq (.region false r76_0) (.seq (.seq (.region false r76_1) (.block 0 (l76_0))) (.seq (.region false r76_7) (.ret)))
def F76 : F := ⟨2, [0, 1, 4, 5, 7, 8, 9, 16], [.t 4], none, c76⟩
attribute [go_sem] r76_0 r76_1 r76_2 r76_3 r76_4 r76_5 r76_6 b76_0 r76_7 c76 F76
end Sg
namespace Sg
open _root_.Go (IntKind BinOp UnOp)
def r198_0 : List Op := [t_ 2 <|.mov (cb false)]
def r198_1 : List Op := [f_ 4 <|.mov (.g 0),f_ 5 <|.len false (.l 0),t_ 6 <|.bin .gtr (.l 1) (ci 80)]
def r198_2 : List Op := [t_ 2 <|.mov (cb false)]
def r198_3 : List Op := [t_ 3 <|.mov (ci 0)]
def r198_4 : List Op := [f_ 7 <|.mov (.g 3),f_ 8 <|.mov (.g 0),f_ 9 <|.len false (.l 1),t_ 10 <|.bin .lss (.l 0) (.l 2)]
def r198_5 : List Op := [f_ 13 <|.mov (.g 0),f_ 14 <|.mov (.g 3),f_ 15 <|.iad 2 (.l 0) (.l 1),f_ 16 <|.fad (.l 2) 1,f_ 17 <|.load (.c) none (.l 3),f_ 18 <|.len false (.l 4),f_ 19 <|.bin .gtr (.l 5) (ci 80),f_ 20 <|.mov (.l 6),n_ 21 7 <|.mov (.g 0),n_ 22 7 <|.mov (.g 3),n_ 23 7 <|.iad 2 (.l 8) (.l 9),n_ 24 7 <|.fad (.l 10) 0,n_ 25 7 <|.load (.c) none (.l 11),n_ 26 7 <|.len true (.l 12),n_ 27 7 <|.bin .gtr (.l 13) (ci 100),t_ 28 <|.pick (.l 7) (cb true) (.l 14)]
def r198_6 : List Op := [t_ 2 <|.mov (cb false)]
def r198_7 : List Op := [f_ 11 <|.mov (.g 3),f_ 12 <|.bin .add (.l 0) (ci 1),t_ 3 <|.mov (.l 1)]
def b198_0 : C := .seq (.seq (.region false r198_4) (.cond (.g 10) (.skip) (.exit 0))) (.seq (.block 1 (.seq (.region false r198_5) (.cond (.g 28) (.seq (.region false r198_6) (.ret)) (.skip)))) (.region false r198_7))
def l198_0 : C := .loop [] [] [] [] b198_0
def r198_8 : List Op := [t_ 2 <|.mov (cb true)]
def c198 : C := .seq (.region false r198_0) (.seq (.seq (.region false r198_1) (.cond (.g 6) (.seq (.region false r198_2) (.ret)) (.skip))) (.seq (.seq (.region false r198_3) (.block 0 (l198_0))) (.seq (.region false r198_8) (.ret))))
def F198 : F := ⟨1, [0, 2, 3, 6, 10, 28], [.t 2], none, c198⟩
attribute [go_sem] r198_0 r198_1 r198_2 r198_3 r198_4 r198_5 r198_6 r198_7 b198_0 r198_8 c198 F198
def r200_0 : List Op := [t_ 5 <|.box (.g 2),t_ 6 <|.mov (.c (.slice 2 [])),t_ 7 <|.mov (ci 0)]
def r200_1 : List Op := [f_ 14 <|.mov (.g 0),f_ 15 <|.call (.k 203) .no none [.l 0],f_ 16 <|.un .not (.l 1),f_ 17 <|.mov (.l 2),n_ 18 3 <|.mov (.g 1),n_ 19 3 <|.call (.k 170) .no none [.l 4],n_ 20 3 <|.un .not (.l 5),t_ 21 <|.pick (.l 3) (cb true) (.l 6)]
def r200_2 : List Op := [t_ 6 <|.mov (.c (.slice 2 [])),t_ 7 <|.mov (ci 1)]
def r200_3 : List Op := [f_ 23 <|.mov (.g 0),f_ 24 <|.mov (.g 1),f_ 25 <|.call (.k 220) .no none [.l 0, .l 1],f_ 22 <|.mov (.l 2),f_ 26 <|.ext (.l 3) 0,f_ 27 <|.ext (.l 3) 1,t_ 8 <|.mov (.l 4),t_ 9 <|.mov (.l 5)]
def r200_4 : List Op := [t_ 10 <|.mov (.c (.slice 5 []))]
def r200_5 : List Op := [t_ 28 <|.mov (.g 9)]
def r200_6 : List Op := [f_ 29 <|.mov (.g 0),f_ 30 <|.mov (.g 8),f_ 31 <|.iad 2 (.l 0) (.l 1),f_ 32 <|.fad (.l 2) 1,f_ 33 <|.load (.c) none (.l 3),t_ 10 <|.mov (.l 4)]
def r200_7 : List Op := [f_ 35 <|.mov (.g 10),f_ 36 <|.load (.v 5) (some 5) (.g 5),f_ 37 <|.call (.k 3) .no none [.l 0, .l 1],f_ 34 <|.mov (.l 2),f_ 38 <|.ext (.l 3) 0,f_ 39 <|.ext (.l 3) 1,t_ 11 <|.mov (.l 4),t_ 12 <|.mov (.l 5)]
def r200_8 : List Op := [f_ 41 <|.mov (.g 12),f_ 42 <|.bin .neq (.l 0) (ci 0),t_ 40 <|.mov (.l 1)]
def r200_9 : List Op := [f_ 43 <|.mov (.g 12),t_ 6 <|.mov (.c (.slice 2 [])),t_ 7 <|.mov (.l 0)]
def r200_10 : List Op := [f_ 45 <|.mov (.g 9),f_ 46 <|.un .not (.l 0),f_ 47 <|.mov (.l 1),y_ 48 2 <|.mov (.g 0),y_ 49 2 <|.len false (.l 3),y_ 50 2 <|.bin .eql (.l 4) (ci 64),f_ 51 <|.pick (.l 2) (.l 5) (cb false),t_ 44 <|.mov (.l 6)]
def r200_11 : List Op := [t_ 6 <|.mov (.c (.slice 2 [])),t_ 7 <|.mov (ci 6)]
def r200_12 : List Op := [f_ 52 <|.mov (.g 0),f_ 53 <|.call (.k 221) .no (some 0) [.l 0],t_ 13 <|.mov (.l 1)]
def r200_13 : List Op := [f_ 54 <|.mov (.g 9),t_ 55 <|.un .not (.l 0)]
def r200_14 : List Op := [f_ 56 <|.mov (.g 13),f_ 57 <|.mov (.g 8),f_ 58 <|.mov (.g 1),f_ 59 <|.build [.str [], .slice 5 []] [(0, 1, .l 2)],f_ 60 <|.mks 2 1 [.str [], .slice 5 []] [(0, .l 3)],f_ 61 <|.ins 222 53 2 (.l 0) (.l 1) (.l 4),t_ 13 <|.mov (.l 5)]
def r200_15 : List Op := [f_ 62 <|.mov (.g 13),f_ 63 <|.mov (.g 8),f_ 64 <|.mov (.g 11),f_ 65 <|.iad 2 (.l 0) (.l 1),f_ 66 <|.fad (.l 3) 1,u_ <|.store (.e 53) 1 (.l 4) (.l 2)]
def r200_16 : List Op := [f_ 67 <|.mov (.g 13),t_ 6 <|.mov (.l 0),t_ 7 <|.mov (ci 0)]
def c200 : C := .seq (.region false r200_0) (.seq (.seq (.region false r200_1) (.cond (.g 21) (.seq (.region false r200_2) (.ret)) (.skip))) (.seq (.region false r200_3) (.seq (.region false r200_4) (.seq (.seq (.region false r200_5) (.cond (.g 28) (.region false r200_6) (.skip))) (.seq (.region false r200_7) (.seq (.block 0 (.seq (.region false r200_8) (.cond (.g 40) (.seq (.region false r200_9) (.ret)) (.seq (.region false r200_10) (.cond (.g 44) (.seq (.region false r200_11) (.ret)) (.skip)))))) (.seq (.region false r200_12) (.seq (.seq (.region false r200_13) (.cond (.g 55) (.region false r200_14) (.skip))) (.seq (.region false r200_15) (.seq (.region false r200_16) (.ret)))))))))))
def F200 : F := ⟨3, [0, 1, 2, 5, 6, 7, 8, 9, 10, 11, 12, 13, 21, 28, 40, 44, 55], [.t 6, .t 7], none, c200⟩
attribute [go_sem] r200_0 r200_1 r200_2 r200_3 r200_4 r200_5 r200_6 r200_7 r200_8 r200_9 r200_10 r200_11 r200_12 r200_13 r200_14 r200_15 r200_16 c200 F200
def r202_0 : List Op := [t_ 4 <|.mov (cb false)]
def r202_1 : List Op := [f_ 6 <|.mov (.g 0),f_ 7 <|.len false (.l 0),f_ 8 <|.mov (.g 1),f_ 9 <|.len false (.l 2),t_ 10 <|.bin .neq (.l 1) (.l 3)]
def r202_2 : List Op := [t_ 4 <|.mov (cb false)]
def r202_3 : List Op := [t_ 5 <|.mov (ci 0)]
def r202_4 : List Op := [f_ 11 <|.mov (.g 5),f_ 12 <|.mov (.g 0),f_ 13 <|.len false (.l 1),t_ 14 <|.bin .lss (.l 0) (.l 2)]
def r202_5 : List Op := [f_ 17 <|.mov (.g 0),f_ 18 <|.mov (.g 5),f_ 19 <|.iad 2 (.l 0) (.l 1),f_ 20 <|.fad (.l 2) 0,f_ 21 <|.load (.c) none (.l 3),f_ 22 <|.mov (.g 1),f_ 23 <|.mov (.g 5),f_ 24 <|.iad 2 (.l 5) (.l 6),f_ 25 <|.fad (.l 7) 0,f_ 26 <|.load (.c) none (.l 8),f_ 27 <|.bin .neq (.l 4) (.l 9),f_ 28 <|.mov (.l 10),n_ 29 11 <|.mov (.g 0),n_ 30 11 <|.mov (.g 5),n_ 31 11 <|.iad 2 (.l 12) (.l 13),n_ 32 11 <|.fad (.l 14) 1,n_ 33 11 <|.load (.c) none (.l 15),n_ 34 11 <|.mov (.g 1),n_ 35 11 <|.mov (.g 5),n_ 36 11 <|.iad 2 (.l 17) (.l 18),n_ 37 11 <|.fad (.l 19) 1,n_ 38 11 <|.load (.c) none (.l 20),n_ 39 11 <|.call (.k 8) .no none [.l 16, .l 21],n_ 40 11 <|.un .not (.l 22),t_ 41 <|.pick (.l 11) (cb true) (.l 23)]
def r202_6 : List Op := [t_ 4 <|.mov (cb false)]
def r202_7 : List Op := [f_ 15 <|.mov (.g 5),f_ 16 <|.bin .add (.l 0) (ci 1),t_ 5 <|.mov (.l 1)]
def b202_0 : C := .seq (.seq (.region false r202_4) (.cond (.g 14) (.skip) (.exit 0))) (.seq (.block 1 (.seq (.region true r202_5) (.cond (.g 41) (.seq (.region false r202_6) (.ret)) (.skip)))) (.region false r202_7))
def l202_0 : C := .loop [] [] [] [] b202_0
def r202_8 : List Op := [t_ 4 <|.mov (cb true)]
def c202 : C := .seq (.region false r202_0) (.seq (.seq (.region false r202_1) (.cond (.g 10) (.seq (.region false r202_2) (.ret)) (.skip))) (.seq (.seq (.region false r202_3) (.block 0 (l202_0))) (.seq (.region false r202_8) (.ret))))
def F202 : F := ⟨2, [0, 1, 4, 5, 10, 14, 41], [.t 4], none, c202⟩
attribute [go_sem] r202_0 r202_1 r202_2 r202_3 r202_4 r202_5 r202_6 r202_7 b202_0 r202_8 c202 F202
def r203_0 : List Op := [t_ 2 <|.mov (cb false)]
def r203_1 : List Op := [t_ 5 <|.mov (.g 0),t_ 6 <|.len false (.l 0),t_ 7 <|.mov (ci 0)]
def r203_2 : List Op := [t_ 8 <|.bin .lss (.g 7) (.g 6)]
def r203_3 : List Op := [f_ 9 <|.mov (.g 7),f_ 10 <|.iad 2 (.g 5) (.g 7),f_ 11 <|.load (.c) (some 2) (.l 1),t_ 4 <|.alloc [.str [], .slice 5 []],t_ 3 <|.mov (.l 0),u_ <|.store (.v 4) 2 (.l 3) (.l 2)]
def r203_4 : List Op := [f_ 12 <|.fad (.g 4) 0,f_ 13 <|.load (.v 4) none (.l 0),f_ 14 <|.call (.k 170) .no none [.l 1],f_ 15 <|.un .not (.l 2),f_ 16 <|.mov (.l 3),n_ 17 4 <|.fad (.g 4) 1,n_ 18 4 <|.load (.v 4) none (.l 5),n_ 19 4 <|.call (.k 7) .no none [.l 6],n_ 20 4 <|.un .not (.l 7),f_ 21 <|.pick (.l 4) (cb true) (.l 8),f_ 22 <|.mov (.l 9),n_ 23 10 <|.fad (.g 4) 1,n_ 24 10 <|.load (.v 4) none (.l 11),n_ 25 10 <|.len false (.l 12),n_ 26 10 <|.bin .eql (.l 13) (ci 0),f_ 27 <|.pick (.l 10) (cb true) (.l 14),f_ 28 <|.mov (.l 15),n_ 29 16 <|.mov (.g 3),n_ 30 16 <|.bin .gtr (.l 17) (ci 0),n_ 31 16 <|.mov (.l 18),y_ 32 19 <|.mov (.g 0),y_ 33 19 <|.mov (.g 3),y_ 34 19 <|.bin .sub (.l 21) (ci 1),y_ 35 19 <|.iad 2 (.l 20) (.l 22),y_ 36 19 <|.fad (.l 23) 0,y_ 37 19 <|.load (.c) none (.l 24),y_ 38 19 <|.fad (.g 4) 0,y_ 39 19 <|.load (.v 4) none (.l 26),y_ 40 19 <|.call (.k 192) .no none [.l 25, .l 27],y_ 41 19 <|.bin .geq (.l 28) (ci 0),n_ 42 16 <|.pick (.l 19) (.l 29) (cb false),t_ 43 <|.pick (.l 16) (cb true) (.l 30)]
def r203_5 : List Op := [t_ 2 <|.mov (cb false)]
def r203_6 : List Op := [f_ 44 <|.bin .add (.g 7) (ci 1),t_ 7 <|.mov (.l 0)]
def b203_0 : C := .seq (.region false r203_2) (.seq (.cond (.g 8) (.skip) (.exit 0)) (.seq (.block 1 (.seq (.region false r203_3) (.seq (.region true r203_4) (.cond (.g 43) (.seq (.region false r203_5) (.ret)) (.skip))))) (.region false r203_6)))
def l203_0 : C := .loop [] [] [4] [] b203_0
def r203_7 : List Op := [f_ 45 <|.mov (.g 0),f_ 46 <|.len false (.l 0),f_ 47 <|.bin .leq (.l 1) (ci 64),t_ 2 <|.mov (.l 2)]
def c203 : C := .seq (.region false r203_0) (.seq (.seq (.region false r203_1) (.block 0 (l203_0))) (.seq (.region false r203_7) (.ret)))
def F203 : F := ⟨1, [0, 2, 3, 4, 5, 6, 7, 8, 43], [.t 2], none, c203⟩
attribute [go_sem] r203_0 r203_1 r203_2 r203_3 r203_4 r203_5 r203_6 b203_0 r203_7 c203 F203
def r206_0 : List Op := [t_ 8 <|.box (.g 3),t_ 10 <|.mov (.c (.slice 2 [])),t_ 11 <|.mov (.c (.str [])),t_ 12 <|.mov (cb false)]
def r206_1 : List Op := [f_ 20 <|.mov (.g 0),f_ 21 <|.call (.k 203) .no none [.l 0],t_ 22 <|.un .not (.l 1)]
def r206_2 : List Op := [t_ 10 <|.mov (.c (.slice 2 [])),t_ 11 <|.mov (.c (.str [])),t_ 12 <|.mov (cb false)]
def r206_3 : List Op := [t_ 13 <|.mko 2]
def r206_4 : List Op := [f_ 24 <|.mov (.g 0),f_ 25 <|.mov (.g 1),f_ 26 <|.call (.k 220) .no none [.l 0, .l 1],f_ 23 <|.mov (.l 2),f_ 27 <|.ext (.l 3) 0,f_ 28 <|.ext (.l 3) 1,t_ 14 <|.mov (.l 4),f_ 15 <|.mov (.l 5)]
def r206_5 : List Op := [f_ 29 <|.mov (.g 0),f_ 30 <|.mov (.g 14),t_ 31 <|.sl false 2 (.l 0) (some (.l 1)) none,t_ 32 <|.len false (.l 2),t_ 33 <|.mov (ci 0)]
def r206_6 : List Op := [t_ 34 <|.bin .lss (.g 33) (.g 32)]
def r206_7 : List Op := [f_ 35 <|.iad 2 (.g 31) (.g 33),f_ 36 <|.load (.c) (some 2) (.l 0),t_ 17 <|.alloc [.str [], .slice 5 []],u_ <|.store (.v 17) 2 (.l 2) (.l 1)]
def r206_8 : List Op := [f_ 37 <|.mov (.g 2),f_ 38 <|.bin .neq (.l 0) (.c (.str [])),f_ 39 <|.mov (.l 1),y_ 40 2 <|.fad (.g 17) 0,y_ 41 2 <|.load (.v 17) none (.l 3),y_ 42 2 <|.mov (.g 2),y_ 43 2 <|.call (.k 192) .no none [.l 4, .l 5],y_ 44 2 <|.bin .geq (.l 6) (ci 0),t_ 45 <|.pick (.l 2) (.l 7) (cb false)]
def r206_9 : List Op := [f_ 47 <|.fad (.g 17) 1,f_ 48 <|.load (.v 17) none (.l 0),f_ 49 <|.load (.v 8) (some 3) (.g 8),f_ 50 <|.call (.k 12) .no none [.l 1, .l 2],f_ 46 <|.mov (.l 3),f_ 51 <|.ext (.l 4) 0,f_ 52 <|.ext (.l 4) 1,t_ 18 <|.mov (.l 5),t_ 19 <|.mov (.l 6)]
def r206_10 : List Op := [f_ 53 <|.mov (.g 19),t_ 54 <|.un .not (.l 0)]
def r206_11 : List Op := [f_ 55 <|.mov (.g 13),f_ 56 <|.len false (.l 0),f_ 57 <|.mov (.g 4),t_ 58 <|.bin .geq (.l 1) (.l 2)]
def r206_12 : List Op := [f_ 59 <|.mov (.g 13),f_ 60 <|.fad (.g 17) 0,f_ 61 <|.load (.v 17) none (.l 1),t_ 10 <|.mov (.l 0),t_ 11 <|.mov (.l 2),t_ 12 <|.mov (cb true)]
def r206_13 : List Op := [f_ 62 <|.mov (.g 13),f_ 63 <|.fad (.g 17) 0,f_ 64 <|.load (.v 17) none (.l 1),f_ 65 <|.mov (.g 18),f_ 66 <|.build [.str [], .str []] [(0, 1, .l 2), (1, 1, .l 3)],f_ 67 <|.mks 2 1 [.str [], .str []] [(0, .l 4)],f_ 68 <|.app 13 2 (.l 0) (.l 5),t_ 13 <|.mov (.l 6)]
def r206_14 : List Op := [f_ 69 <|.bin .add (.g 33) (ci 1),t_ 33 <|.mov (.l 0)]
def b206_0 : C := .seq (.region false r206_6) (.seq (.cond (.g 34) (.skip) (.exit 0)) (.seq (.block 1 (.seq (.region false r206_7) (.seq (.seq (.region false r206_8) (.cond (.g 45) (.exit 0) (.skip))) (.seq (.region false r206_9) (.seq (.seq (.region false r206_10) (.cond (.g 54) (.exit 1) (.skip))) (.seq (.seq (.region false r206_11) (.cond (.g 58) (.seq (.region true r206_12) (.ret)) (.skip))) (.region false r206_13))))))) (.region false r206_14)))
def l206_0 : C := .loop [] [] [17] [] b206_0
def r206_15 : List Op := [f_ 70 <|.mov (.g 13),t_ 10 <|.mov (.l 0),t_ 11 <|.mov (.c (.str [])),t_ 12 <|.mov (cb false)]
def c206 : C := .seq (.region false r206_0) (.seq (.seq (.region false r206_1) (.cond (.g 22) (.seq (.region false r206_2) (.ret)) (.skip))) (.seq (.region false r206_3) (.seq (.region false r206_4) (.seq (.seq (.region false r206_5) (.block 0 (l206_0))) (.seq (.region false r206_15) (.ret))))))
def F206 : F := ⟨5, [0, 1, 2, 3, 4, 8, 10, 11, 12, 13, 14, 17, 18, 19, 22, 31, 32, 33, 34, 45, 54, 58], [.t 10, .t 11, .t 12], none, c206⟩
attribute [go_sem] r206_0 r206_1 r206_2 r206_3 r206_4 r206_5 r206_6 r206_7 r206_8 r206_9 r206_10 r206_11 r206_12 r206_13 r206_14 b206_0 r206_15 c206 F206
def r211_0 : List Op := [t_ 4 <|.mov (.c (.slice 2 [])),t_ 5 <|.mov (.c (.slice 2 []))]
def r211_1 : List Op := [f_ 8 <|.mov (.g 0),f_ 9 <|.call (.k 203) .no none [.l 0],t_ 10 <|.un .not (.l 1)]
def r211_2 : List Op := [t_ 4 <|.mov (.c (.slice 2 [])),t_ 5 <|.mov (.c (.slice 2 []))]
def r211_3 : List Op := [f_ 12 <|.mov (.g 0),f_ 13 <|.mov (.g 1),f_ 14 <|.call (.k 220) .no none [.l 0, .l 1],f_ 11 <|.mov (.l 2),f_ 15 <|.ext (.l 3) 0,f_ 16 <|.ext (.l 3) 1,t_ 6 <|.mov (.l 4),f_ 7 <|.mov (.l 5)]
def r211_4 : List Op := [f_ 17 <|.mov (.g 0),f_ 18 <|.mov (.g 6),f_ 19 <|.sl false 2 (.l 0) none (some (.l 1)),f_ 20 <|.call (.k 221) .no none [.l 2],f_ 21 <|.mov (.g 0),f_ 22 <|.mov (.g 6),f_ 23 <|.sl false 2 (.l 4) (some (.l 5)) none,f_ 24 <|.call (.k 221) .no none [.l 6],t_ 4 <|.mov (.l 3),t_ 5 <|.mov (.l 7)]
def c211 : C := .seq (.region false r211_0) (.seq (.seq (.region false r211_1) (.cond (.g 10) (.seq (.region false r211_2) (.ret)) (.skip))) (.seq (.region false r211_3) (.seq (.region true r211_4) (.ret))))
def F211 : F := ⟨2, [0, 1, 4, 5, 6, 10], [.t 4, .t 5], none, c211⟩
attribute [go_sem] r211_0 r211_1 r211_2 r211_3 r211_4 c211 F211
def r213_0 : List Op := [t_ 4 <|.mov (.c (.slice 2 [])),t_ 5 <|.mov (ci 0)]
def r213_1 : List Op := [f_ 7 <|.mov (.g 0),f_ 8 <|.call (.k 203) .no none [.l 0],f_ 9 <|.un .not (.l 1),f_ 10 <|.mov (.l 2),n_ 11 3 <|.mov (.g 1),n_ 12 3 <|.call (.k 203) .no none [.l 4],n_ 13 3 <|.un .not (.l 5),f_ 14 <|.pick (.l 3) (cb true) (.l 6),t_ 6 <|.mov (.l 7)]
def r213_2 : List Op := [t_ 4 <|.mov (.c (.slice 2 [])),t_ 5 <|.mov (ci 1)]
def r213_3 : List Op := [f_ 16 <|.mov (.g 0),f_ 17 <|.len false (.l 0),f_ 18 <|.bin .gtr (.l 1) (ci 0),f_ 19 <|.mov (.l 2),y_ 20 3 <|.mov (.g 1),y_ 21 3 <|.len false (.l 4),y_ 22 3 <|.bin .gtr (.l 5) (ci 0),f_ 23 <|.pick (.l 3) (.l 6) (cb false),f_ 24 <|.mov (.l 7),y_ 25 8 <|.mov (.g 0),y_ 26 8 <|.mov (.g 0),y_ 27 8 <|.len false (.l 10),y_ 28 8 <|.bin .sub (.l 11) (ci 1),y_ 29 8 <|.iad 2 (.l 9) (.l 12),y_ 30 8 <|.fad (.l 13) 0,y_ 31 8 <|.load (.c) none (.l 14),y_ 32 8 <|.mov (.g 1),y_ 33 8 <|.iad 2 (.l 16) (ci 0),y_ 34 8 <|.fad (.l 17) 0,y_ 35 8 <|.load (.c) none (.l 18),y_ 36 8 <|.call (.k 192) .no none [.l 15, .l 19],y_ 37 8 <|.bin .geq (.l 20) (ci 0),f_ 38 <|.pick (.l 8) (.l 21) (cb false),t_ 15 <|.mov (.l 22)]
def r213_4 : List Op := [t_ 4 <|.mov (.c (.slice 2 [])),t_ 5 <|.mov (ci 9)]
def r213_5 : List Op := [f_ 40 <|.mov (.g 0),f_ 41 <|.len false (.l 0),f_ 42 <|.mov (.g 1),f_ 43 <|.len false (.l 2),f_ 44 <|.bin .add (.l 1) (.l 3),f_ 45 <|.bin .gtr (.l 4) (ci 64),t_ 39 <|.mov (.l 5)]
def r213_6 : List Op := [t_ 4 <|.mov (.c (.slice 2 [])),t_ 5 <|.mov (ci 6)]
def r213_7 : List Op := [f_ 46 <|.mov (.g 0),f_ 47 <|.call (.k 221) .no (some 0) [.l 0],f_ 48 <|.mov (.g 1),f_ 49 <|.call (.k 221) .no none [.l 2],f_ 50 <|.app 47 2 (.l 1) (.l 3),t_ 4 <|.mov (.l 4),t_ 5 <|.mov (ci 0)]
def c213 : C := .seq (.region false r213_0) (.seq (.block 0 (.seq (.region false r213_1) (.cond (.g 6) (.seq (.region false r213_2) (.ret)) (.seq (.region true r213_3) (.cond (.g 15) (.seq (.region false r213_4) (.ret)) (.seq (.region false r213_5) (.cond (.g 39) (.seq (.region false r213_6) (.ret)) (.skip)))))))) (.seq (.region false r213_7) (.ret)))
def F213 : F := ⟨2, [0, 1, 4, 5, 6, 15, 39], [.t 4, .t 5], none, c213⟩
attribute [go_sem] r213_0 r213_1 r213_2 r213_3 r213_4 r213_5 r213_6 r213_7 c213 F213
def r217_0 : List Op := [t_ 3 <|.box (.g 1),t_ 4 <|.mov (.c (.slice 2 []))]
def r217_1 : List Op := [f_ 9 <|.mov (.g 0),f_ 10 <|.call (.k 203) .no none [.l 0],t_ 11 <|.un .not (.l 1)]
def r217_2 : List Op := [t_ 4 <|.mov (.c (.slice 2 []))]
def r217_3 : List Op := [t_ 5 <|.mko 2]
def r217_4 : List Op := [t_ 12 <|.mov (.g 0),t_ 13 <|.len false (.l 0),t_ 14 <|.mov (ci 0)]
def r217_5 : List Op := [t_ 15 <|.bin .lss (.g 14) (.g 13)]
def r217_6 : List Op := [f_ 16 <|.iad 2 (.g 12) (.g 14),f_ 17 <|.load (.c) (some 2) (.l 0),t_ 7 <|.alloc [.str [], .slice 5 []],u_ <|.store (.v 7) 2 (.l 2) (.l 1)]
def r217_7 : List Op := [f_ 18 <|.fad (.g 7) 1,f_ 19 <|.load (.v 7) none (.l 0),f_ 20 <|.load (.v 3) (some 3) (.g 3),f_ 21 <|.call (.k 17) .no none [.l 1, .l 2],t_ 8 <|.mov (.l 3)]
def r217_8 : List Op := [f_ 22 <|.mov (.g 8),f_ 23 <|.len false (.l 0),t_ 24 <|.bin .gtr (.l 1) (ci 0)]
def r217_9 : List Op := [f_ 25 <|.mov (.g 5),f_ 26 <|.fad (.g 7) 0,f_ 27 <|.load (.v 7) none (.l 1),f_ 28 <|.mov (.g 8),f_ 29 <|.build [.str [], .slice 5 []] [(0, 1, .l 2), (1, 1, .l 3)],f_ 30 <|.mks 2 1 [.str [], .slice 5 []] [(0, .l 4)],f_ 31 <|.app 5 2 (.l 0) (.l 5),t_ 5 <|.mov (.l 6)]
def r217_10 : List Op := [f_ 32 <|.bin .add (.g 14) (ci 1),t_ 14 <|.mov (.l 0)]
def b217_0 : C := .seq (.region false r217_5) (.seq (.cond (.g 15) (.skip) (.exit 0)) (.seq (.block 1 (.seq (.region false r217_6) (.seq (.region false r217_7) (.seq (.region false r217_8) (.cond (.g 24) (.region false r217_9) (.skip)))))) (.region false r217_10)))
def l217_0 : C := .loop [] [] [7] [] b217_0
def r217_11 : List Op := [f_ 33 <|.mov (.g 5),t_ 4 <|.mov (.l 0)]
def c217 : C := .seq (.region false r217_0) (.seq (.seq (.region false r217_1) (.cond (.g 11) (.seq (.region false r217_2) (.ret)) (.skip))) (.seq (.region false r217_3) (.seq (.seq (.region false r217_4) (.block 0 (l217_0))) (.seq (.region false r217_11) (.ret)))))
def F217 : F := ⟨2, [0, 1, 3, 4, 5, 7, 8, 11, 12, 13, 14, 15, 24], [.t 4], none, c217⟩
attribute [go_sem] r217_0 r217_1 r217_2 r217_3 r217_4 r217_5 r217_6 r217_7 r217_8 r217_9 r217_10 b217_0 r217_11 c217 F217
def r220_0 : List Op := [t_ 4 <|.mov (ci 0),t_ 5 <|.mov (cb false)]
def r220_1 : List Op := [f_ 6 <|.mov (.g 0),f_ 7 <|.mov (.g 1),f_ 8 <|.call (.k 225) .no none [.l 0, .l 1, .f 226],f_ 9 <|.ext (.l 2) 0,f_ 10 <|.ext (.l 2) 1,t_ 4 <|.mov (.l 3),t_ 5 <|.mov (.l 4)]
def c220 : C := .seq (.region false r220_0) (.seq (.region false r220_1) (.ret))
def F220 : F := ⟨2, [0, 1, 4, 5], [.t 4, .t 5], none, c220⟩
attribute [go_sem] r220_0 r220_1 c220 F220
def r221_0 : List Op := [t_ 2 <|.mov (.c (.slice 2 []))]
def r221_1 : List Op := [f_ 5 <|.mov (.g 0),f_ 6 <|.call (.k 227) .no (some 0) [.l 0],t_ 3 <|.mov (.l 1)]
def r221_2 : List Op := [f_ 7 <|.mov (.g 3),t_ 8 <|.len false (.l 0),t_ 9 <|.mov (ci 0)]
def r221_3 : List Op := [t_ 10 <|.bin .lss (.g 9) (.g 8)]
def r221_4 : List Op := [f_ 11 <|.mov (.g 9),t_ 4 <|.mov (.l 0)]
def r221_5 : List Op := [f_ 12 <|.mov (.g 3),f_ 13 <|.mov (.g 4),f_ 14 <|.mov (.g 3),f_ 15 <|.mov (.g 4),f_ 16 <|.iad 2 (.l 2) (.l 3),f_ 17 <|.fad (.l 4) 1,f_ 18 <|.load (.e 6) none (.l 5),f_ 19 <|.call (.k 23) .no none [.l 6],f_ 20 <|.iad 2 (.l 0) (.l 1),f_ 21 <|.fad (.l 8) 1,u_ <|.store (.e 6) 1 (.l 9) (.l 7)]
def r221_6 : List Op := [f_ 22 <|.bin .add (.g 9) (ci 1),t_ 9 <|.mov (.l 0)]
def b221_0 : C := .seq (.region false r221_3) (.seq (.cond (.g 10) (.skip) (.exit 0)) (.seq (.block 1 (.seq (.region false r221_4) (.region false r221_5))) (.region false r221_6)))
def l221_0 : C := .loop [] [] [] [] b221_0
def r221_7 : List Op := [f_ 23 <|.mov (.g 3),t_ 2 <|.mov (.l 0)]
def c221 : C := .seq (.region false r221_0) (.seq (.region false r221_1) (.seq (.seq (.region false r221_2) (.block 0 (l221_0))) (.seq (.region false r221_7) (.ret))))
def F221 : F := ⟨1, [0, 2, 3, 4, 8, 9, 10], [.t 2], some 0, c221⟩
attribute [go_sem] r221_0 r221_1 r221_2 r221_3 r221_4 r221_5 r221_6 b221_0 r221_7 c221 F221
def r225_0 : List Op := [t_ 6 <|.mov (ci 0),t_ 7 <|.mov (cb false)]
def r225_1 : List Op := [f_ 12 <|.mov (.g 0),f_ 13 <|.len false (.l 0),t_ 8 <|.mov (.l 1)]
def r225_2 : List Op := [f_ 14 <|.mov (.g 8),t_ 9 <|.mov (ci 0),t_ 10 <|.mov (.l 0)]
def r225_3 : List Op := [f_ 15 <|.mov (.g 9),f_ 16 <|.mov (.g 10),t_ 17 <|.bin .lss (.l 0) (.l 1)]
def r225_4 : List Op := [f_ 18 <|.mov (.g 9),f_ 19 <|.mov (.g 10),f_ 20 <|.bin .add (.l 0) (.l 1),f_ 21 <|.conv (.int .u64) (.l 2),f_ 22 <|.sh .shr (.l 3) (.c (.int .u64 1)),f_ 23 <|.conv (.int .i64) (.l 4),t_ 11 <|.mov (.l 5)]
def r225_5 : List Op := [f_ 24 <|.mov (.g 2),f_ 25 <|.mov (.g 0),f_ 26 <|.mov (.g 11),f_ 27 <|.iad 2 (.l 1) (.l 2),f_ 28 <|.load (.c) (some 2) (.l 3),f_ 29 <|.mov (.g 1),f_ 30 <|.call (.v (.l 0)) .no none [.l 4, .l 5],t_ 31 <|.bin .lss (.l 6) (ci 0)]
def r225_6 : List Op := [f_ 32 <|.mov (.g 11),f_ 33 <|.bin .add (.l 0) (ci 1),t_ 9 <|.mov (.l 1)]
def r225_7 : List Op := [f_ 34 <|.mov (.g 11),t_ 10 <|.mov (.l 0)]
def b225_0 : C := .seq (.seq (.region false r225_3) (.cond (.g 17) (.skip) (.exit 0))) (.block 1 (.seq (.region false r225_4) (.seq (.region false r225_5) (.cond (.g 31) (.region false r225_6) (.region false r225_7)))))
def l225_0 : C := .loop [] [] [] [] b225_0
def r225_8 : List Op := [f_ 35 <|.mov (.g 9),f_ 36 <|.mov (.g 9),f_ 37 <|.mov (.g 8),f_ 38 <|.bin .lss (.l 1) (.l 2),f_ 39 <|.mov (.l 3),y_ 40 4 <|.mov (.g 2),y_ 41 4 <|.mov (.g 0),y_ 42 4 <|.mov (.g 9),y_ 43 4 <|.iad 2 (.l 6) (.l 7),y_ 44 4 <|.load (.c) (some 2) (.l 8),y_ 45 4 <|.mov (.g 1),y_ 46 4 <|.call (.v (.l 5)) .no none [.l 9, .l 10],y_ 47 4 <|.bin .eql (.l 11) (ci 0),f_ 48 <|.pick (.l 4) (.l 12) (cb false),t_ 6 <|.mov (.l 0),t_ 7 <|.mov (.l 13)]
def c225 : C := .seq (.region false r225_0) (.seq (.region false r225_1) (.seq (.region false r225_2) (.seq (.block 0 (l225_0)) (.seq (.region false r225_8) (.ret)))))
def F225 : F := ⟨3, [0, 1, 2, 6, 7, 8, 9, 10, 11, 17, 31], [.t 6, .t 7], none, c225⟩
attribute [go_sem] r225_0 r225_1 r225_2 r225_3 r225_4 r225_5 r225_6 r225_7 b225_0 r225_8 c225 F225
def r226_0 : List Op := [t_ 2 <|.box (.g 0),t_ 4 <|.mov (ci 0)]
def r226_1 : List Op := [f_ 5 <|.fad (.g 2) 0,f_ 6 <|.load (.v 2) none (.l 0),f_ 7 <|.mov (.g 1),f_ 8 <|.call (.k 192) .no none [.l 1, .l 2],t_ 4 <|.mov (.l 3)]
def c226 : C := .seq (.region false r226_0) (.seq (.region false r226_1) (.ret))
def F226 : F := ⟨2, [0, 1, 2, 4], [.t 4], none, c226⟩
attribute [go_sem] r226_0 r226_1 c226 F226
end Sg
namespace Sg
open _root_.Go (IntKind BinOp UnOp)
def r282_0 : List Op := [t_ 7 <|.box (.g 0),t_ 10 <|.box (.g 3),t_ 11 <|.box (.g 4),t_ 13 <|.box (.g 6),t_ 14 <|.mov (cb false)]
def r282_1 : List Op := [f_ 21 <|.load (.v 7) (some 5) (.g 7),f_ 22 <|.mov (.g 5),f_ 23 <|.call (.k 278) .no none [.l 0, .l 1],f_ 24 <|.un .not (.l 2),f_ 25 <|.mov (.l 3),n_ 26 4 <|.fad (.g 10) 2,n_ 27 4 <|.load (.v 10) none (.l 5),n_ 28 4 <|.bin .gtr (.l 6) (ci 3),f_ 29 <|.pick (.l 4) (cb true) (.l 7),f_ 30 <|.mov (.l 8),n_ 31 9 <|.fad (.g 7) 0,n_ 32 9 <|.load (.v 7) none (.l 10),n_ 33 9 <|.len false (.l 11),n_ 34 9 <|.bin .neq (.l 12) (ci 1),f_ 35 <|.pick (.l 9) (cb true) (.l 13),f_ 36 <|.mov (.l 14),n_ 37 15 <|.load (.v 13) (some 3) (.g 13),n_ 38 15 <|.call (.k 28) .no none [.l 16],n_ 39 15 <|.un .not (.l 17),t_ 40 <|.pick (.l 15) (cb true) (.l 18)]
def r282_2 : List Op := [f_ 41 <|.call (.k 239) .no none [],t_ 14 <|.mov (.l 0)]
def r282_3 : List Op := [f_ 43 <|.load (.v 7) (some 5) (.g 7),f_ 44 <|.mov (.g 1),f_ 45 <|.mov (.g 2),f_ 46 <|.load (.v 10) (some 12) (.g 10),f_ 47 <|.load (.v 11) (some 3) (.g 11),f_ 48 <|.call (.k 240) .no none [.l 0, .l 1, .l 2, .l 3, .l 4, .c (.int .i64 0)],f_ 42 <|.mov (.l 5),f_ 49 <|.ext (.l 6) 0,f_ 50 <|.ext (.l 6) 1,t_ 15 <|.alloc [.int .i64 0, .int .i64 0, .int .i64 0, .int .i64 0, .bool false, .str [], .slice 2 [], .str [], .bool false],u_ <|.store (.v 7) 5 (.g 7) (.l 7),u_ <|.store (.v 15) 9 (.l 9) (.l 8)]
def r282_4 : List Op := [f_ 51 <|.fad (.g 15) 0,f_ 52 <|.load (.v 15) none (.l 0),f_ 53 <|.bin .neq (.l 1) (ci 0),f_ 54 <|.mov (.l 2),y_ 55 3 <|.fad (.g 15) 0,y_ 56 3 <|.load (.v 15) none (.l 4),y_ 57 3 <|.bin .neq (.l 5) (ci 15),t_ 58 <|.pick (.l 3) (.l 6) (cb false)]
def r282_5 : List Op := [f_ 59 <|.call (.k 239) .no none [],t_ 14 <|.mov (.l 0)]
def r282_6 : List Op := [t_ 16 <|.mov (ci 0)]
def r282_7 : List Op := [f_ 60 <|.mov (.g 16),f_ 61 <|.mov (.g 5),f_ 62 <|.len false (.l 1),f_ 63 <|.bin .lss (.l 0) (.l 2),f_ 64 <|.mov (.l 3),y_ 65 4 <|.mov (.g 16),y_ 66 4 <|.bin .lss (.l 5) (ci 30),t_ 67 <|.pick (.l 4) (.l 6) (cb false)]
def r282_8 : List Op := [f_ 70 <|.load (.v 7) (some 5) (.g 7),f_ 71 <|.mov (.g 5),f_ 72 <|.mov (.g 16),f_ 73 <|.iad 21 (.l 1) (.l 2),f_ 74 <|.load (.c) (some 21) (.l 3),f_ 75 <|.call (.k 279) .no none [.l 0, .l 4],u_ <|.store (.v 7) 5 (.g 7) (.l 5)]
def r282_9 : List Op := [f_ 68 <|.mov (.g 16),f_ 69 <|.bin .add (.l 0) (ci 1),t_ 16 <|.mov (.l 1)]
def b282_0 : C := .seq (.seq (.region false r282_7) (.cond (.g 67) (.skip) (.exit 0))) (.seq (.block 1 (.region true r282_8)) (.region false r282_9))
def l282_0 : C := .loop [] [] [] [] b282_0
def r282_10 : List Op := [f_ 76 <|.fad (.g 7) 0,t_ 77 <|.load (.v 7) none (.l 0),t_ 78 <|.len false (.l 1),t_ 79 <|.mov (ci 0)]
def r282_11 : List Op := [t_ 80 <|.bin .lss (.g 79) (.g 78)]
def r282_12 : List Op := [f_ 81 <|.iad 17 (.g 77) (.g 79),f_ 82 <|.load (.c) (some 17) (.l 0),t_ 18 <|.alloc [.int .i64 0, .int .i64 0, .str [], .str [], .int .i64 0, .slice 2 [], .int .i64 0, .int .i64 0, .int .i64 0, .int .i64 0, .int .i64 0, .int .i64 0, .slice 11 [], .int .i64 0, .int .i64 0, .int .i64 0, .int .i64 0],u_ <|.store (.v 18) 17 (.l 2) (.l 1)]
def r282_13 : List Op := [f_ 83 <|.fad (.g 10) 3,f_ 84 <|.load (.v 10) none (.l 0),f_ 85 <|.fad (.g 18) 2,f_ 86 <|.fad (.l 2) 0,f_ 87 <|.load (.v 18) none (.l 3),f_ 88 <|.fad (.g 18) 2,f_ 89 <|.fad (.l 5) 1,f_ 90 <|.load (.v 18) none (.l 6),f_ 91 <|.call (.k 169) .no none [.l 1, .l 4, .l 7],t_ 92 <|.un .not (.l 8)]
def r282_14 : List Op := [f_ 94 <|.load (.v 7) (some 5) (.g 7),f_ 95 <|.fad (.g 18) 0,f_ 96 <|.load (.v 18) none (.l 1),f_ 97 <|.fad (.g 18) 1,f_ 98 <|.load (.v 18) none (.l 3),f_ 99 <|.load (.v 10) (some 12) (.g 10),f_ 100 <|.load (.v 13) (some 3) (.g 13),f_ 101 <|.call (.k 240) .no none [.l 0, .l 2, .l 4, .l 5, .l 6, .c (.int .i64 0)],f_ 93 <|.mov (.l 7),f_ 102 <|.ext (.l 8) 0,f_ 103 <|.ext (.l 8) 1,t_ 19 <|.alloc [.slice 17 [], .int .i64 0, .int .i64 0, .int .i64 0, .int .i64 0],t_ 20 <|.alloc [.int .i64 0, .int .i64 0, .int .i64 0, .int .i64 0, .bool false, .str [], .slice 2 [], .str [], .bool false],u_ <|.store (.v 19) 5 (.l 11) (.l 9),u_ <|.store (.v 20) 9 (.l 12) (.l 10)]
def r282_15 : List Op := [f_ 104 <|.load (.v 19) (some 5) (.g 19),f_ 105 <|.load (.v 7) (some 5) (.g 7),f_ 106 <|.call (.k 242) .no none [.l 0, .l 1],f_ 107 <|.un .not (.l 2),f_ 108 <|.mov (.l 3),n_ 109 4 <|.fad (.g 20) 0,n_ 110 4 <|.load (.v 20) none (.l 5),n_ 111 4 <|.fad (.g 15) 0,n_ 112 4 <|.load (.v 15) none (.l 7),n_ 113 4 <|.bin .eql (.l 6) (.l 8),n_ 114 4 <|.mov (.l 9),y_ 115 10 <|.load (.v 20) (some 9) (.g 20),y_ 116 10 <|.load (.v 15) (some 9) (.g 15),y_ 117 10 <|.call (.k 101) .no none [.l 11, .l 12],y_ 118 10 <|.un .not (.l 13),n_ 119 4 <|.pick (.l 10) (.l 14) (cb false),f_ 120 <|.pick (.l 4) (cb true) (.l 15),f_ 121 <|.mov (.l 16),n_ 122 17 <|.fad (.g 20) 0,n_ 123 17 <|.load (.v 20) none (.l 18),n_ 124 17 <|.fad (.g 15) 0,n_ 125 17 <|.load (.v 15) none (.l 20),n_ 126 17 <|.bin .neq (.l 19) (.l 21),n_ 127 17 <|.mov (.l 22),y_ 128 23 <|.fad (.g 20) 0,y_ 129 23 <|.load (.v 20) none (.l 24),y_ 130 23 <|.bin .neq (.l 25) (ci 10),n_ 131 17 <|.pick (.l 23) (.l 26) (cb false),n_ 132 17 <|.mov (.l 27),y_ 133 28 <|.fad (.g 20) 0,y_ 134 28 <|.load (.v 20) none (.l 29),y_ 135 28 <|.bin .neq (.l 30) (ci 11),n_ 136 17 <|.pick (.l 28) (.l 31) (cb false),t_ 137 <|.pick (.l 17) (cb true) (.l 32)]
def r282_16 : List Op := [t_ 14 <|.mov (cb false)]
def r282_17 : List Op := [f_ 138 <|.bin .add (.g 79) (ci 1),t_ 79 <|.mov (.l 0)]
def b282_1 : C := .seq (.region false r282_11) (.seq (.cond (.g 80) (.skip) (.exit 2)) (.seq (.block 3 (.seq (.region false r282_12) (.seq (.seq (.region false r282_13) (.cond (.g 92) (.exit 3) (.skip))) (.seq (.region false r282_14) (.seq (.region false r282_15) (.cond (.g 137) (.seq (.region false r282_16) (.ret)) (.skip))))))) (.region false r282_17)))
def l282_1 : C := .loop [] [] [18, 19, 20] [] b282_1
def r282_18 : List Op := [f_ 139 <|.call (.k 239) .no none [],t_ 14 <|.mov (.l 0)]
def c282 : C := .seq (.region false r282_0) (.seq (.seq (.region false r282_1) (.cond (.g 40) (.seq (.region false r282_2) (.ret)) (.skip))) (.seq (.region false r282_3) (.seq (.seq (.region false r282_4) (.cond (.g 58) (.seq (.region false r282_5) (.ret)) (.skip))) (.seq (.seq (.region false r282_6) (.block 0 (l282_0))) (.seq (.seq (.region false r282_10) (.block 2 (l282_1))) (.seq (.region false r282_18) (.ret)))))))
def F282 : F := ⟨7, [0, 1, 2, 3, 4, 5, 6, 7, 10, 11, 13, 14, 15, 16, 18, 19, 20, 40, 58, 67, 77, 78, 79, 80, 92, 137], [.t 14], none, c282⟩
attribute [go_sem] r282_0 r282_1 r282_2 r282_3 r282_4 r282_5 r282_6 r282_7 r282_8 r282_9 b282_0 r282_10 r282_11 r282_12 r282_13 r282_14 r282_15 r282_16 r282_17 b282_1 r282_18 c282 F282
def r238_0 : List Op := [t_ 1 <|.box (.g 0),t_ 2 <|.mov (cb false)]
def r238_1 : List Op := [f_ 4 <|.fad (.g 1) 0,f_ 5 <|.load (.v 1) none (.l 0),f_ 6 <|.len false (.l 1),t_ 7 <|.bin .gtr (.l 2) (ci 12)]
def r238_2 : List Op := [t_ 2 <|.mov (cb false)]
def r238_3 : List Op := [t_ 3 <|.mov (ci 0)]
def r238_4 : List Op := [f_ 8 <|.mov (.g 3),f_ 9 <|.fad (.g 1) 0,f_ 10 <|.load (.v 1) none (.l 1),f_ 11 <|.len false (.l 2),t_ 12 <|.bin .lss (.l 0) (.l 3)]
def r238_5 : List Op := [f_ 15 <|.fad (.g 1) 0,f_ 16 <|.load (.v 1) none (.l 0),f_ 17 <|.mov (.g 3),f_ 18 <|.iad 17 (.l 1) (.l 2),f_ 19 <|.load (.c) (some 17) (.l 3),f_ 20 <|.call (.k 252) .no none [.l 4],t_ 21 <|.un .not (.l 5)]
def r238_6 : List Op := [t_ 2 <|.mov (cb false)]
def r238_7 : List Op := [f_ 13 <|.mov (.g 3),f_ 14 <|.bin .add (.l 0) (ci 1),t_ 3 <|.mov (.l 1)]
def b238_0 : C := .seq (.seq (.region false r238_4) (.cond (.g 12) (.skip) (.exit 0))) (.seq (.block 1 (.seq (.region false r238_5) (.cond (.g 21) (.seq (.region false r238_6) (.ret)) (.skip)))) (.region false r238_7))
def l238_0 : C := .loop [] [] [] [] b238_0
def r238_8 : List Op := [t_ 2 <|.mov (cb true)]
def c238 : C := .seq (.region false r238_0) (.seq (.seq (.region false r238_1) (.cond (.g 7) (.seq (.region false r238_2) (.ret)) (.skip))) (.seq (.seq (.region false r238_3) (.block 0 (l238_0))) (.seq (.region false r238_8) (.ret))))
def F238 : F := ⟨1, [0, 1, 2, 3, 7, 12, 21], [.t 2], none, c238⟩
attribute [go_sem] r238_0 r238_1 r238_2 r238_3 r238_4 r238_5 r238_6 r238_7 b238_0 r238_8 c238 F238
def r239_0 : List Op := [t_ 0 <|.mov (cb false)]
def r239_1 : List Op := [f_ 6 <|.build [.int .i64 0, .int .i64 0, .str [], .str [], .int .i64 0, .slice 2 [], .int .i64 0, .int .i64 0, .int .i64 0, .int .i64 0, .int .i64 0, .int .i64 0, .slice 11 [], .int .i64 0, .int .i64 0, .int .i64 0, .int .i64 0] [(0, 1, .c (.int .i64 1)), (1, 1, .c (.int .i64 1)), (4, 1, .c (.int .i64 1))],f_ 7 <|.mks 17 1 [.int .i64 0, .int .i64 0, .str [], .str [], .int .i64 0, .slice 2 [], .int .i64 0, .int .i64 0, .int .i64 0, .int .i64 0, .int .i64 0, .int .i64 0, .slice 11 [], .int .i64 0, .int .i64 0, .int .i64 0, .int .i64 0] [(0, .l 0)],f_ 8 <|.build [.slice 17 [], .int .i64 0, .int .i64 0, .int .i64 0, .int .i64 0] [(0, 1, .l 1)],t_ 1 <|.alloc [.slice 17 [], .int .i64 0, .int .i64 0, .int .i64 0, .int .i64 0],u_ <|.store (.v 1) 5 (.l 3) (.l 2)]
def r239_2 : List Op := [f_ 10 <|.load (.v 1) (some 5) (.g 1),f_ 11 <|.build [.int .i64 0, .int .i64 0, .int .i64 0, .str [], .str [], .bool false, .str [], .int .i64 0, .int .i64 0, .int .i64 0, .str [], .int .i64 0] [(0, 1, .c (.int .i64 1)), (1, 1, .c (.int .i64 1)), (2, 1, .c (.int .i64 1)), (3, 1, .c (.str [97])), (4, 1, .c (.str [120]))],f_ 12 <|.call (.k 283) .no none [.c (.int .i64 5)],f_ 13 <|.call (.k 240) .no none [.l 0, .c (.int .i64 1), .c (.int .i64 1), .l 1, .l 2, .c (.int .i64 0)],f_ 9 <|.mov (.l 3),f_ 14 <|.ext (.l 4) 0,f_ 15 <|.ext (.l 4) 1,t_ 2 <|.alloc [.slice 17 [], .int .i64 0, .int .i64 0, .int .i64 0, .int .i64 0],t_ 3 <|.alloc [.int .i64 0, .int .i64 0, .int .i64 0, .int .i64 0, .bool false, .str [], .slice 2 [], .str [], .bool false],u_ <|.store (.v 2) 5 (.l 7) (.l 5),u_ <|.store (.v 3) 9 (.l 8) (.l 6)]
def r239_3 : List Op := [f_ 17 <|.load (.v 2) (some 5) (.g 2),f_ 18 <|.build [.int .i64 0, .int .i64 0, .int .i64 0, .str [], .str [], .bool false, .str [], .int .i64 0, .int .i64 0, .int .i64 0, .str [], .int .i64 0] [(0, 1, .c (.int .i64 1)), (1, 1, .c (.int .i64 2)), (2, 1, .c (.int .i64 4)), (3, 1, .c (.str [97]))],f_ 19 <|.call (.k 283) .no none [.c (.int .i64 6)],f_ 20 <|.call (.k 240) .no none [.l 0, .c (.int .i64 1), .c (.int .i64 1), .l 1, .l 2, .c (.int .i64 0)],f_ 16 <|.mov (.l 3),f_ 21 <|.ext (.l 4) 0,f_ 22 <|.ext (.l 4) 1,f_ 4 <|.alloc [.slice 17 [], .int .i64 0, .int .i64 0, .int .i64 0, .int .i64 0],t_ 5 <|.alloc [.int .i64 0, .int .i64 0, .int .i64 0, .int .i64 0, .bool false, .str [], .slice 2 [], .str [], .bool false],u_ <|.store (.v 4) 5 (.l 7) (.l 5),u_ <|.store (.v 5) 9 (.l 8) (.l 6)]
def r239_4 : List Op := [f_ 23 <|.load (.v 2) (some 5) (.g 2),f_ 24 <|.call (.k 249) .no none [.l 0],f_ 25 <|.mov (.l 1),y_ 26 2 <|.fad (.g 3) 1,y_ 27 2 <|.load (.v 3) (some 3) (.l 3),y_ 28 2 <|.call (.k 283) .no none [.c (.int .i64 5)],y_ 29 2 <|.eqa false [.i, .i, .i] (.l 4) (.l 5),f_ 30 <|.pick (.l 2) (.l 6) (cb false),f_ 31 <|.mov (.l 7),y_ 32 8 <|.fad (.g 3) 0,y_ 33 8 <|.load (.v 3) none (.l 9),y_ 34 8 <|.bin .eql (.l 10) (ci 0),f_ 35 <|.pick (.l 8) (.l 11) (cb false),f_ 36 <|.mov (.l 12),y_ 37 13 <|.fad (.g 5) 4,y_ 38 13 <|.load (.v 5) none (.l 14),f_ 39 <|.pick (.l 13) (.l 15) (cb false),f_ 40 <|.mov (.l 16),y_ 41 17 <|.fad (.g 5) 5,y_ 42 17 <|.load (.v 5) none (.l 18),y_ 43 17 <|.bin .eql (.l 19) (.c (.str [120])),f_ 44 <|.pick (.l 17) (.l 20) (cb false),f_ 45 <|.mov (.l 21),y_ 46 22 <|.fad (.g 5) 1,y_ 47 22 <|.load (.v 5) (some 3) (.l 23),y_ 48 22 <|.call (.k 283) .no none [.c (.int .i64 5)],y_ 49 22 <|.eqa false [.i, .i, .i] (.l 24) (.l 25),f_ 50 <|.pick (.l 22) (.l 26) (cb false),t_ 0 <|.mov (.l 27)]
def c239 : C := .seq (.region false r239_0) (.seq (.region false r239_1) (.seq (.region true r239_2) (.seq (.region true r239_3) (.seq (.region true r239_4) (.ret)))))
def F239 : F := ⟨0, [0, 1, 2, 3, 5], [.t 0], none, c239⟩
attribute [go_sem] r239_0 r239_1 r239_2 r239_3 r239_4 c239 F239
def r240_0 : List Op := [t_ 6 <|.box (.g 0),t_ 9 <|.box (.g 3),t_ 10 <|.box (.g 4),t_ 12 <|.alloc [.slice 17 [], .int .i64 0, .int .i64 0, .int .i64 0, .int .i64 0],t_ 13 <|.alloc [.int .i64 0, .int .i64 0, .int .i64 0, .int .i64 0, .bool false, .str [], .slice 2 [], .str [], .bool false]]
def r240_1 : List Op := [f_ 16 <|.load (.v 6) (some 5) (.g 6),f_ 17 <|.call (.k 249) .no none [.l 0],f_ 18 <|.un .not (.l 1),f_ 19 <|.mov (.l 2),n_ 20 3 <|.mov (.g 1),n_ 21 3 <|.mov (.g 2),n_ 22 3 <|.mks 1 2 [.int .i64 0] [(0, .l 4), (1, .l 5)],n_ 23 3 <|.call (.k 284) .no none [.c (.int .i64 1), .l 6],n_ 24 3 <|.un .not (.l 7),f_ 25 <|.pick (.l 3) (cb true) (.l 8),f_ 26 <|.mov (.l 9),n_ 27 10 <|.mov (.g 5),n_ 28 10 <|.mks 1 1 [.int .i64 0] [(0, .l 11)],n_ 29 10 <|.call (.k 284) .no none [.c (.int .i64 0), .l 12],n_ 30 10 <|.un .not (.l 13),f_ 31 <|.pick (.l 10) (cb true) (.l 14),f_ 32 <|.mov (.l 15),n_ 33 16 <|.load (.v 10) (some 3) (.g 10),n_ 34 16 <|.call (.k 28) .no none [.l 17],n_ 35 16 <|.un .not (.l 18),f_ 36 <|.pick (.l 16) (cb true) (.l 19),f_ 37 <|.mov (.l 20),n_ 38 21 <|.load (.v 9) (some 12) (.g 9),n_ 39 21 <|.call (.k 285) .no none [.l 22],n_ 40 21 <|.un .not (.l 23),t_ 41 <|.pick (.l 21) (cb true) (.l 24)]
def r240_2 : List Op := [f_ 42 <|.load (.v 6) (some 5) (.g 6),f_ 43 <|.call (.k 286) .no none [.c (.int .i64 1)],u_ <|.store (.v 12) 5 (.g 12) (.l 0),u_ <|.store (.v 13) 9 (.g 13) (.l 1)]
def r240_3 : List Op := [f_ 44 <|.load (.v 6) (some 5) (.g 6),f_ 45 <|.mov (.g 1),f_ 46 <|.call (.k 287) .no none [.l 0, .l 1],t_ 14 <|.alloc [.int .i64 0, .int .i64 0, .str [], .str [], .int .i64 0, .slice 2 [], .int .i64 0, .int .i64 0, .int .i64 0, .int .i64 0, .int .i64 0, .int .i64 0, .slice 11 [], .int .i64 0, .int .i64 0, .int .i64 0, .int .i64 0],u_ <|.store (.v 14) 17 (.l 3) (.l 2)]
def r240_4 : List Op := [f_ 47 <|.fad (.g 9) 3,f_ 48 <|.load (.v 9) none (.l 0),f_ 49 <|.bin .eql (.l 1) (.c (.str [])),f_ 50 <|.mov (.l 2),y_ 51 3 <|.fad (.g 14) 2,y_ 52 3 <|.fad (.l 4) 0,y_ 53 3 <|.load (.v 14) none (.l 5),y_ 54 3 <|.bin .eql (.l 6) (.c (.str [])),f_ 55 <|.pick (.l 3) (.l 7) (cb false),f_ 56 <|.mov (.l 8),n_ 57 9 <|.fad (.g 14) 2,n_ 58 9 <|.load (.v 14) (some 2) (.l 10),n_ 59 9 <|.fad (.g 9) 3,n_ 60 9 <|.load (.v 9) none (.l 12),n_ 61 9 <|.call (.k 171) .no none [.l 11, .l 13],f_ 62 <|.pick (.l 9) (cb true) (.l 14),t_ 15 <|.mov (.l 15)]
def r240_5 : List Op := [f_ 64 <|.fad (.g 14) 0,f_ 65 <|.load (.v 14) none (.l 0),f_ 66 <|.bin .eql (.l 1) (ci 0),f_ 67 <|.mov (.l 2),n_ 68 3 <|.fad (.g 14) 1,n_ 69 3 <|.load (.v 14) none (.l 4),n_ 70 3 <|.mov (.g 2),n_ 71 3 <|.bin .neq (.l 5) (.l 6),f_ 72 <|.pick (.l 3) (cb true) (.l 7),f_ 73 <|.mov (.l 8),n_ 74 9 <|.mov (.g 15),n_ 75 9 <|.un .not (.l 10),f_ 76 <|.pick (.l 9) (cb true) (.l 11),t_ 63 <|.mov (.l 12)]
def r240_6 : List Op := [f_ 77 <|.load (.v 6) (some 5) (.g 6),f_ 78 <|.call (.k 286) .no none [.c (.int .i64 10)],u_ <|.store (.v 12) 5 (.g 12) (.l 0),u_ <|.store (.v 13) 9 (.g 13) (.l 1)]
def r240_7 : List Op := [f_ 80 <|.fad (.g 14) 4,f_ 81 <|.load (.v 14) none (.l 0),f_ 82 <|.bin .neq (.l 1) (ci 1),f_ 83 <|.mov (.l 2),n_ 84 3 <|.load (.v 9) (some 12) (.g 9),n_ 85 3 <|.call (.k 288) .no none [.l 4],n_ 86 3 <|.mov (.l 5),y_ 87 6 <|.fad (.g 14) 13,y_ 88 6 <|.load (.v 14) none (.l 7),y_ 89 6 <|.bin .neq (.l 8) (ci 0),n_ 90 3 <|.pick (.l 6) (.l 9) (cb false),f_ 91 <|.pick (.l 3) (cb true) (.l 10),t_ 79 <|.mov (.l 11)]
def r240_8 : List Op := [f_ 92 <|.load (.v 6) (some 5) (.g 6),f_ 93 <|.call (.k 286) .no none [.c (.int .i64 11)],u_ <|.store (.v 12) 5 (.g 12) (.l 0),u_ <|.store (.v 13) 9 (.g 13) (.l 1)]
def r240_9 : List Op := [f_ 95 <|.load (.v 9) (some 12) (.g 9),f_ 96 <|.call (.k 288) .no none [.l 0],t_ 94 <|.mov (.l 1)]
def r240_10 : List Op := [f_ 97 <|.load (.v 6) (some 5) (.g 6),f_ 98 <|.load (.v 14) (some 17) (.g 14),f_ 99 <|.load (.v 9) (some 12) (.g 9),f_ 100 <|.load (.v 10) (some 3) (.g 10),f_ 101 <|.call (.k 289) .no none [.l 0, .l 1, .l 2, .l 3],f_ 102 <|.ext (.l 4) 0,f_ 103 <|.ext (.l 4) 1,u_ <|.store (.v 12) 5 (.g 12) (.l 5),u_ <|.store (.v 13) 9 (.g 13) (.l 6)]
def r240_11 : List Op := [f_ 105 <|.fad (.g 9) 2,f_ 106 <|.load (.v 9) none (.l 0),f_ 107 <|.bin .eql (.l 1) (ci 4),t_ 104 <|.mov (.l 2)]
def r240_12 : List Op := [f_ 108 <|.load (.v 6) (some 5) (.g 6),f_ 109 <|.load (.v 6) (some 5) (.g 6),f_ 110 <|.load (.v 14) (some 17) (.g 14),f_ 111 <|.fad (.g 9) 3,f_ 112 <|.load (.v 9) none (.l 3),f_ 113 <|.call (.k 290) .no none [.l 1, .l 2, .l 4],u_ <|.store (.v 12) 5 (.g 12) (.l 0),u_ <|.store (.v 13) 9 (.g 13) (.l 5)]
def r240_13 : List Op := [f_ 114 <|.load (.v 6) (some 5) (.g 6),f_ 115 <|.load (.v 14) (some 17) (.g 14),f_ 116 <|.load (.v 9) (some 12) (.g 9),f_ 117 <|.mov (.g 5),f_ 118 <|.call (.k 291) .no none [.l 0, .l 1, .l 2, .l 3],f_ 119 <|.ext (.l 4) 0,f_ 120 <|.ext (.l 4) 1,u_ <|.store (.v 12) 5 (.g 12) (.l 5),u_ <|.store (.v 13) 9 (.g 13) (.l 6)]
def c240 : C := .seq (.region false r240_0) (.seq (.seq (.region false r240_1) (.cond (.g 41) (.seq (.region true r240_2) (.ret)) (.skip))) (.seq (.region false r240_3) (.seq (.region false r240_4) (.seq (.block 0 (.seq (.region false r240_5) (.cond (.g 63) (.seq (.region true r240_6) (.ret)) (.seq (.region false r240_7) (.cond (.g 79) (.seq (.region true r240_8) (.ret)) (.seq (.region false r240_9) (.cond (.g 94) (.seq (.region false r240_10) (.ret)) (.seq (.region false r240_11) (.cond (.g 104) (.seq (.region true r240_12) (.ret)) (.skip)))))))))) (.seq (.region false r240_13) (.ret))))))
def F240 : F := ⟨6, [0, 1, 2, 3, 4, 5, 6, 9, 10, 12, 13, 14, 15, 41, 63, 79, 94, 104], [.cell 12 (some 5), .cell 13 (some 9)], none, c240⟩
attribute [go_sem] r240_0 r240_1 r240_2 r240_3 r240_4 r240_5 r240_6 r240_7 r240_8 r240_9 r240_10 r240_11 r240_12 r240_13 c240 F240
def r242_0 : List Op := [t_ 2 <|.box (.g 0),t_ 3 <|.box (.g 1),t_ 4 <|.mov (cb false)]
def r242_1 : List Op := [f_ 6 <|.fad (.g 2) 0,f_ 7 <|.load (.v 2) none (.l 0),f_ 8 <|.len false (.l 1),f_ 9 <|.fad (.g 3) 0,f_ 10 <|.load (.v 3) none (.l 3),f_ 11 <|.len false (.l 4),f_ 12 <|.bin .neq (.l 2) (.l 5),f_ 13 <|.mov (.l 6),n_ 14 7 <|.fad (.g 2) 1,n_ 15 7 <|.load (.v 2) (some 3) (.l 8),n_ 16 7 <|.fad (.g 3) 1,n_ 17 7 <|.load (.v 3) (some 3) (.l 10),n_ 18 7 <|.eqa true [.i, .i, .i] (.l 9) (.l 11),f_ 19 <|.pick (.l 7) (cb true) (.l 12),f_ 20 <|.mov (.l 13),n_ 21 14 <|.fad (.g 2) 4,n_ 22 14 <|.load (.v 2) none (.l 15),n_ 23 14 <|.fad (.g 3) 4,n_ 24 14 <|.load (.v 3) none (.l 17),n_ 25 14 <|.bin .neq (.l 16) (.l 18),t_ 26 <|.pick (.l 14) (cb true) (.l 19)]
def r242_2 : List Op := [t_ 4 <|.mov (cb false)]
def r242_3 : List Op := [t_ 5 <|.mov (ci 0)]
def r242_4 : List Op := [f_ 27 <|.mov (.g 5),f_ 28 <|.fad (.g 2) 0,f_ 29 <|.load (.v 2) none (.l 1),f_ 30 <|.len false (.l 2),t_ 31 <|.bin .lss (.l 0) (.l 3)]
def r242_5 : List Op := [f_ 34 <|.fad (.g 2) 0,f_ 35 <|.load (.v 2) none (.l 0),f_ 36 <|.mov (.g 5),f_ 37 <|.iad 17 (.l 1) (.l 2),f_ 38 <|.load (.c) (some 17) (.l 3),f_ 39 <|.fad (.g 3) 0,f_ 40 <|.load (.v 3) none (.l 5),f_ 41 <|.mov (.g 5),f_ 42 <|.iad 17 (.l 6) (.l 7),f_ 43 <|.load (.c) (some 17) (.l 8),f_ 44 <|.call (.k 250) .no none [.l 4, .l 9],t_ 45 <|.un .not (.l 10)]
def r242_6 : List Op := [t_ 4 <|.mov (cb false)]
def r242_7 : List Op := [f_ 32 <|.mov (.g 5),f_ 33 <|.bin .add (.l 0) (ci 1),t_ 5 <|.mov (.l 1)]
def b242_0 : C := .seq (.seq (.region false r242_4) (.cond (.g 31) (.skip) (.exit 0))) (.seq (.block 1 (.seq (.region true r242_5) (.cond (.g 45) (.seq (.region false r242_6) (.ret)) (.skip)))) (.region false r242_7))
def l242_0 : C := .loop [] [] [] [] b242_0
def r242_8 : List Op := [t_ 4 <|.mov (cb true)]
def c242 : C := .seq (.region false r242_0) (.seq (.seq (.region false r242_1) (.cond (.g 26) (.seq (.region false r242_2) (.ret)) (.skip))) (.seq (.seq (.region false r242_3) (.block 0 (l242_0))) (.seq (.region false r242_8) (.ret))))
def F242 : F := ⟨2, [0, 1, 2, 3, 4, 5, 26, 31, 45], [.t 4], none, c242⟩
attribute [go_sem] r242_0 r242_1 r242_2 r242_3 r242_4 r242_5 r242_6 r242_7 b242_0 r242_8 c242 F242
def r244_0 : List Op := [t_ 1 <|.box (.g 0),t_ 2 <|.mov (cb false)]
def r244_1 : List Op := [f_ 3 <|.fad (.g 1) 0,f_ 4 <|.load (.v 1) none (.l 0),f_ 5 <|.fad (.g 1) 1,f_ 6 <|.load (.v 1) none (.l 2),f_ 7 <|.mks 1 2 [.int .i64 0] [(0, .l 1), (1, .l 3)],f_ 8 <|.call (.k 284) .no none [.c (.int .i64 1), .l 4],f_ 9 <|.un .not (.l 5),f_ 10 <|.mov (.l 6),n_ 11 7 <|.fad (.g 1) 13,n_ 12 7 <|.load (.v 1) none (.l 8),n_ 13 7 <|.fad (.g 1) 14,n_ 14 7 <|.load (.v 1) none (.l 10),n_ 15 7 <|.fad (.g 1) 15,n_ 16 7 <|.load (.v 1) none (.l 12),n_ 17 7 <|.fad (.g 1) 16,n_ 18 7 <|.load (.v 1) none (.l 14),n_ 19 7 <|.mks 1 4 [.int .i64 0] [(0, .l 9), (1, .l 11), (2, .l 13), (3, .l 15)],n_ 20 7 <|.call (.k 284) .no none [.c (.int .i64 0), .l 16],n_ 21 7 <|.un .not (.l 17),f_ 22 <|.pick (.l 7) (cb true) (.l 18),f_ 23 <|.mov (.l 19),n_ 24 20 <|.fad (.g 1) 4,n_ 25 20 <|.load (.v 1) none (.l 21),n_ 26 20 <|.bin .lss (.l 22) (ci 1),f_ 27 <|.pick (.l 20) (cb true) (.l 23),f_ 28 <|.mov (.l 24),n_ 29 25 <|.fad (.g 1) 4,n_ 30 25 <|.load (.v 1) none (.l 26),n_ 31 25 <|.bin .gtr (.l 27) (ci 3),t_ 32 <|.pick (.l 25) (cb true) (.l 28)]
def r244_2 : List Op := [t_ 2 <|.mov (cb false)]
def r244_3 : List Op := [f_ 33 <|.fad (.g 1) 2,f_ 34 <|.load (.v 1) (some 2) (.l 0),f_ 35 <|.call (.k 186) .no none [.l 1],f_ 36 <|.un .not (.l 2),f_ 37 <|.mov (.l 3),n_ 38 4 <|.fad (.g 1) 5,n_ 39 4 <|.load (.v 1) none (.l 5),n_ 40 4 <|.call (.k 203) .no none [.l 6],n_ 41 4 <|.un .not (.l 7),f_ 42 <|.pick (.l 4) (cb true) (.l 8),f_ 43 <|.mov (.l 9),n_ 44 10 <|.fad (.g 1) 6,n_ 45 10 <|.load (.v 1) (some 3) (.l 11),n_ 46 10 <|.call (.k 28) .no none [.l 12],n_ 47 10 <|.un .not (.l 13),f_ 48 <|.pick (.l 10) (cb true) (.l 14),f_ 49 <|.mov (.l 15),n_ 50 16 <|.fad (.g 1) 9,n_ 51 16 <|.load (.v 1) (some 3) (.l 17),n_ 52 16 <|.call (.k 28) .no none [.l 18],n_ 53 16 <|.un .not (.l 19),f_ 54 <|.pick (.l 16) (cb true) (.l 20),f_ 55 <|.mov (.l 21),n_ 56 22 <|.fad (.g 1) 12,n_ 57 22 <|.load (.v 1) none (.l 23),n_ 58 22 <|.call (.k 81) .no none [.l 24],n_ 59 22 <|.un .not (.l 25),t_ 60 <|.pick (.l 22) (cb true) (.l 26)]
def r244_4 : List Op := [t_ 2 <|.mov (cb false)]
def r244_5 : List Op := [f_ 61 <|.fad (.g 1) 5,f_ 62 <|.load (.v 1) none (.l 0),f_ 63 <|.fn 298 [.g 1] [1],f_ 64 <|.call (.k 299) .no none [.l 1, .l 2],f_ 65 <|.un .not (.l 3),t_ 2 <|.mov (.l 4)]
def c244 : C := .seq (.region false r244_0) (.seq (.seq (.region false r244_1) (.cond (.g 32) (.seq (.region false r244_2) (.ret)) (.skip))) (.seq (.seq (.region false r244_3) (.cond (.g 60) (.seq (.region false r244_4) (.ret)) (.skip))) (.seq (.region false r244_5) (.ret))))
def F244 : F := ⟨1, [0, 1, 2, 32, 60], [.t 2], none, c244⟩
attribute [go_sem] r244_0 r244_1 r244_2 r244_3 r244_4 r244_5 c244 F244
def r247_0 : List Op := [t_ 2 <|.box (.g 0),t_ 4 <|.alloc [.int .i64 0, .int .i64 0, .str [], .str [], .int .i64 0, .slice 2 [], .int .i64 0, .int .i64 0, .int .i64 0, .int .i64 0, .int .i64 0, .int .i64 0, .slice 11 [], .int .i64 0, .int .i64 0, .int .i64 0, .int .i64 0],t_ 5 <|.mov (cb false)]
def r247_1 : List Op := [f_ 7 <|.load (.v 2) (some 5) (.g 2),f_ 8 <|.call (.k 249) .no none [.l 0],f_ 9 <|.un .not (.l 1),f_ 10 <|.mov (.l 2),n_ 11 3 <|.mov (.g 1),n_ 12 3 <|.mks 1 1 [.int .i64 0] [(0, .l 4)],n_ 13 3 <|.call (.k 284) .no none [.c (.int .i64 1), .l 5],n_ 14 3 <|.un .not (.l 6),t_ 15 <|.pick (.l 3) (cb true) (.l 7)]
def r247_2 : List Op := [f_ 16 <|.build [.int .i64 0, .int .i64 0, .str [], .str [], .int .i64 0, .slice 2 [], .int .i64 0, .int .i64 0, .int .i64 0, .int .i64 0, .int .i64 0, .int .i64 0, .slice 11 [], .int .i64 0, .int .i64 0, .int .i64 0, .int .i64 0] [],u_ <|.store (.v 4) 17 (.g 4) (.l 0),t_ 5 <|.mov (cb false)]
def r247_3 : List Op := [f_ 17 <|.load (.v 2) (some 5) (.g 2),f_ 18 <|.mov (.g 1),f_ 19 <|.call (.k 287) .no none [.l 0, .l 1],t_ 6 <|.alloc [.int .i64 0, .int .i64 0, .str [], .str [], .int .i64 0, .slice 2 [], .int .i64 0, .int .i64 0, .int .i64 0, .int .i64 0, .int .i64 0, .int .i64 0, .slice 11 [], .int .i64 0, .int .i64 0, .int .i64 0, .int .i64 0],u_ <|.store (.v 6) 17 (.l 3) (.l 2)]
def r247_4 : List Op := [f_ 20 <|.load (.v 6) (some 17) (.g 6),f_ 21 <|.fad (.g 6) 0,f_ 22 <|.load (.v 6) none (.l 1),f_ 23 <|.bin .neq (.l 2) (ci 0),u_ <|.store (.v 4) 17 (.g 4) (.l 0),t_ 5 <|.mov (.l 3)]
def c247 : C := .seq (.region false r247_0) (.seq (.seq (.region false r247_1) (.cond (.g 15) (.seq (.region false r247_2) (.ret)) (.skip))) (.seq (.region false r247_3) (.seq (.region true r247_4) (.ret))))
def F247 : F := ⟨2, [0, 1, 2, 4, 5, 6, 15], [.cell 4 (some 17), .t 5], none, c247⟩
attribute [go_sem] r247_0 r247_1 r247_2 r247_3 r247_4 c247 F247
def r249_0 : List Op := [t_ 1 <|.box (.g 0),t_ 2 <|.mov (cb false)]
def r249_1 : List Op := [t_ 3 <|.mov (ci 0)]
def r249_2 : List Op := [f_ 6 <|.fad (.g 1) 0,t_ 7 <|.load (.v 1) none (.l 0),t_ 8 <|.len false (.l 1),t_ 9 <|.mov (ci 0)]
def r249_3 : List Op := [t_ 10 <|.bin .lss (.g 9) (.g 8)]
def r249_4 : List Op := [f_ 11 <|.iad 17 (.g 7) (.g 9),f_ 12 <|.load (.c) (some 17) (.l 0),t_ 5 <|.alloc [.int .i64 0, .int .i64 0, .str [], .str [], .int .i64 0, .slice 2 [], .int .i64 0, .int .i64 0, .int .i64 0, .int .i64 0, .int .i64 0, .int .i64 0, .slice 11 [], .int .i64 0, .int .i64 0, .int .i64 0, .int .i64 0],u_ <|.store (.v 5) 17 (.l 2) (.l 1)]
def r249_5 : List Op := [f_ 13 <|.fad (.g 5) 0,f_ 14 <|.load (.v 5) none (.l 0),f_ 15 <|.mov (.g 3),f_ 16 <|.bin .leq (.l 1) (.l 2),f_ 17 <|.mov (.l 3),n_ 18 4 <|.load (.v 5) (some 17) (.g 5),n_ 19 4 <|.call (.k 244) .no none [.l 5],n_ 20 4 <|.un .not (.l 6),f_ 21 <|.pick (.l 4) (cb true) (.l 7),f_ 22 <|.mov (.l 8),n_ 23 9 <|.load (.v 5) (some 17) (.g 5),n_ 24 9 <|.fad (.g 1) 1,n_ 25 9 <|.load (.v 1) (some 3) (.l 11),n_ 26 9 <|.call (.k 301) .no none [.l 10, .l 12],n_ 27 9 <|.un .not (.l 13),t_ 28 <|.pick (.l 9) (cb true) (.l 14)]
def r249_6 : List Op := [t_ 2 <|.mov (cb false)]
def r249_7 : List Op := [f_ 29 <|.fad (.g 5) 0,f_ 30 <|.load (.v 5) none (.l 0),t_ 3 <|.mov (.l 1)]
def r249_8 : List Op := [f_ 31 <|.bin .add (.g 9) (ci 1),t_ 9 <|.mov (.l 0)]
def b249_0 : C := .seq (.region false r249_3) (.seq (.cond (.g 10) (.skip) (.exit 0)) (.seq (.block 1 (.seq (.region false r249_4) (.seq (.seq (.region false r249_5) (.cond (.g 28) (.seq (.region false r249_6) (.ret)) (.skip))) (.region false r249_7)))) (.region false r249_8)))
def l249_0 : C := .loop [] [] [5] [] b249_0
def r249_9 : List Op := [f_ 32 <|.fad (.g 1) 0,f_ 33 <|.load (.v 1) none (.l 0),f_ 34 <|.len false (.l 1),f_ 35 <|.bin .leq (.l 2) (ci 8),f_ 36 <|.mov (.l 3),y_ 37 4 <|.fad (.g 1) 1,y_ 38 4 <|.load (.v 1) (some 3) (.l 5),y_ 39 4 <|.call (.k 28) .no none [.l 6],f_ 40 <|.pick (.l 4) (.l 7) (cb false),f_ 41 <|.mov (.l 8),y_ 42 9 <|.fad (.g 1) 4,y_ 43 9 <|.load (.v 1) none (.l 10),y_ 44 9 <|.mks 1 1 [.int .i64 0] [(0, .l 11)],y_ 45 9 <|.call (.k 284) .no none [.c (.int .i64 0), .l 12],f_ 46 <|.pick (.l 9) (.l 13) (cb false),t_ 2 <|.mov (.l 14)]
def c249 : C := .seq (.region false r249_0) (.seq (.region false r249_1) (.seq (.seq (.region false r249_2) (.block 0 (l249_0))) (.seq (.region false r249_9) (.ret))))
def F249 : F := ⟨1, [0, 1, 2, 3, 5, 7, 8, 9, 10, 28], [.t 2], none, c249⟩
attribute [go_sem] r249_0 r249_1 r249_2 r249_3 r249_4 r249_5 r249_6 r249_7 r249_8 b249_0 r249_9 c249 F249
def r250_0 : List Op := [t_ 2 <|.box (.g 0),t_ 3 <|.box (.g 1),t_ 4 <|.mov (cb false)]
def r250_1 : List Op := [f_ 5 <|.fad (.g 2) 0,f_ 6 <|.load (.v 2) none (.l 0),f_ 7 <|.fad (.g 3) 0,f_ 8 <|.load (.v 3) none (.l 2),f_ 9 <|.bin .eql (.l 1) (.l 3),f_ 10 <|.mov (.l 4),y_ 11 5 <|.fad (.g 2) 1,y_ 12 5 <|.load (.v 2) none (.l 6),y_ 13 5 <|.fad (.g 3) 1,y_ 14 5 <|.load (.v 3) none (.l 8),y_ 15 5 <|.bin .eql (.l 7) (.l 9),f_ 16 <|.pick (.l 5) (.l 10) (cb false),f_ 17 <|.mov (.l 11),y_ 18 12 <|.fad (.g 2) 2,y_ 19 12 <|.load (.v 2) (some 2) (.l 13),y_ 20 12 <|.fad (.g 3) 2,y_ 21 12 <|.load (.v 3) (some 2) (.l 15),y_ 22 12 <|.eqa false [.s, .s] (.l 14) (.l 16),f_ 23 <|.pick (.l 12) (.l 17) (cb false),f_ 24 <|.mov (.l 18),y_ 25 19 <|.fad (.g 2) 4,y_ 26 19 <|.load (.v 2) none (.l 20),y_ 27 19 <|.fad (.g 3) 4,y_ 28 19 <|.load (.v 3) none (.l 22),y_ 29 19 <|.bin .eql (.l 21) (.l 23),f_ 30 <|.pick (.l 19) (.l 24) (cb false),f_ 31 <|.mov (.l 25),y_ 32 26 <|.fad (.g 2) 5,y_ 33 26 <|.load (.v 2) none (.l 27),y_ 34 26 <|.fad (.g 3) 5,y_ 35 26 <|.load (.v 3) none (.l 29),y_ 36 26 <|.call (.k 202) .no none [.l 28, .l 30],f_ 37 <|.pick (.l 26) (.l 31) (cb false),f_ 38 <|.mov (.l 32),y_ 39 33 <|.fad (.g 2) 6,y_ 40 33 <|.load (.v 2) (some 3) (.l 34),y_ 41 33 <|.fad (.g 3) 6,y_ 42 33 <|.load (.v 3) (some 3) (.l 36),y_ 43 33 <|.eqa false [.i, .i, .i] (.l 35) (.l 37),f_ 44 <|.pick (.l 33) (.l 38) (cb false),f_ 45 <|.mov (.l 39),y_ 46 40 <|.fad (.g 2) 9,y_ 47 40 <|.load (.v 2) (some 3) (.l 41),y_ 48 40 <|.fad (.g 3) 9,y_ 49 40 <|.load (.v 3) (some 3) (.l 43),y_ 50 40 <|.eqa false [.i, .i, .i] (.l 42) (.l 44),f_ 51 <|.pick (.l 40) (.l 45) (cb false),f_ 52 <|.mov (.l 46),y_ 53 47 <|.fad (.g 2) 12,y_ 54 47 <|.load (.v 2) none (.l 48),y_ 55 47 <|.fad (.g 3) 12,y_ 56 47 <|.load (.v 3) none (.l 50),y_ 57 47 <|.call (.k 86) .no none [.l 49, .l 51],f_ 58 <|.pick (.l 47) (.l 52) (cb false),f_ 59 <|.mov (.l 53),y_ 60 54 <|.fad (.g 2) 13,y_ 61 54 <|.load (.v 2) none (.l 55),y_ 62 54 <|.fad (.g 3) 13,y_ 63 54 <|.load (.v 3) none (.l 57),y_ 64 54 <|.bin .eql (.l 56) (.l 58),f_ 65 <|.pick (.l 54) (.l 59) (cb false),f_ 66 <|.mov (.l 60),y_ 67 61 <|.fad (.g 2) 14,y_ 68 61 <|.load (.v 2) none (.l 62),y_ 69 61 <|.fad (.g 3) 14,y_ 70 61 <|.load (.v 3) none (.l 64),y_ 71 61 <|.bin .eql (.l 63) (.l 65),f_ 72 <|.pick (.l 61) (.l 66) (cb false),f_ 73 <|.mov (.l 67),y_ 74 68 <|.fad (.g 2) 15,y_ 75 68 <|.load (.v 2) none (.l 69),y_ 76 68 <|.fad (.g 3) 15,y_ 77 68 <|.load (.v 3) none (.l 71),y_ 78 68 <|.bin .eql (.l 70) (.l 72),f_ 79 <|.pick (.l 68) (.l 73) (cb false),f_ 80 <|.mov (.l 74),y_ 81 75 <|.fad (.g 2) 16,y_ 82 75 <|.load (.v 2) none (.l 76),y_ 83 75 <|.fad (.g 3) 16,y_ 84 75 <|.load (.v 3) none (.l 78),y_ 85 75 <|.bin .eql (.l 77) (.l 79),f_ 86 <|.pick (.l 75) (.l 80) (cb false),t_ 4 <|.mov (.l 81)]
def c250 : C := .seq (.region false r250_0) (.seq (.region false r250_1) (.ret))
def F250 : F := ⟨2, [0, 1, 2, 3, 4], [.t 4], none, c250⟩
attribute [go_sem] r250_0 r250_1 c250 F250
def r252_0 : List Op := [t_ 1 <|.box (.g 0),t_ 2 <|.mov (cb false)]
def r252_1 : List Op := [f_ 3 <|.fad (.g 1) 5,f_ 4 <|.load (.v 1) none (.l 0),f_ 5 <|.call (.k 198) .no none [.l 1],f_ 6 <|.mov (.l 2),y_ 7 3 <|.fad (.g 1) 12,y_ 8 3 <|.load (.v 1) none (.l 4),y_ 9 3 <|.call (.k 78) .no none [.l 5],f_ 10 <|.pick (.l 3) (.l 6) (cb false),f_ 11 <|.mov (.l 7),y_ 12 8 <|.fad (.g 1) 2,y_ 13 8 <|.fad (.l 9) 0,y_ 14 8 <|.load (.v 1) none (.l 10),y_ 15 8 <|.len true (.l 11),y_ 16 8 <|.bin .lss (.l 12) (ci 100),f_ 17 <|.pick (.l 8) (.l 13) (cb false),f_ 18 <|.mov (.l 14),y_ 19 15 <|.fad (.g 1) 2,y_ 20 15 <|.fad (.l 16) 1,y_ 21 15 <|.load (.v 1) none (.l 17),y_ 22 15 <|.len true (.l 18),y_ 23 15 <|.bin .lss (.l 19) (ci 100),f_ 24 <|.pick (.l 15) (.l 20) (cb false),t_ 2 <|.mov (.l 21)]
def c252 : C := .seq (.region false r252_0) (.seq (.region false r252_1) (.ret))
def F252 : F := ⟨1, [0, 1, 2], [.t 2], none, c252⟩
attribute [go_sem] r252_0 r252_1 c252 F252
def r256_0 : List Op := [t_ 4 <|.box (.g 0),t_ 8 <|.alloc [.slice 17 [], .int .i64 0, .int .i64 0, .int .i64 0, .int .i64 0],t_ 9 <|.mov (cb false)]
def r256_1 : List Op := [f_ 13 <|.load (.v 4) (some 5) (.g 4),f_ 14 <|.mov (.g 1),f_ 15 <|.call (.k 247) .no none [.l 0, .l 1],f_ 12 <|.mov (.l 2),f_ 16 <|.ext (.l 3) 0,f_ 17 <|.ext (.l 3) 1,t_ 10 <|.alloc [.int .i64 0, .int .i64 0, .str [], .str [], .int .i64 0, .slice 2 [], .int .i64 0, .int .i64 0, .int .i64 0, .int .i64 0, .int .i64 0, .int .i64 0, .slice 11 [], .int .i64 0, .int .i64 0, .int .i64 0, .int .i64 0],u_ <|.store (.v 10) 17 (.l 6) (.l 4),t_ 11 <|.mov (.l 5)]
def r256_2 : List Op := [f_ 18 <|.mov (.g 11),f_ 19 <|.un .not (.l 0),f_ 20 <|.mov (.l 1),n_ 21 2 <|.mov (.g 2),n_ 22 2 <|.mov (.g 3),n_ 23 2 <|.mks 1 2 [.int .i64 0] [(0, .l 3), (1, .l 4)],n_ 24 2 <|.call (.k 284) .no none [.c (.int .i64 1), .l 5],n_ 25 2 <|.un .not (.l 6),f_ 26 <|.pick (.l 2) (cb true) (.l 7),f_ 27 <|.mov (.l 8),n_ 28 9 <|.fad (.g 10) 1,n_ 29 9 <|.load (.v 10) none (.l 10),n_ 30 9 <|.mov (.g 2),n_ 31 9 <|.bin .neq (.l 11) (.l 12),f_ 32 <|.pick (.l 9) (cb true) (.l 13),f_ 33 <|.mov (.l 14),n_ 34 15 <|.fad (.g 10) 4,n_ 35 15 <|.load (.v 10) none (.l 16),n_ 36 15 <|.bin .neq (.l 17) (ci 1),f_ 37 <|.pick (.l 15) (cb true) (.l 18),f_ 38 <|.mov (.l 19),n_ 39 20 <|.fad (.g 10) 14,n_ 40 20 <|.load (.v 10) none (.l 21),n_ 41 20 <|.mov (.g 3),n_ 42 20 <|.bin .geq (.l 22) (.l 23),f_ 43 <|.pick (.l 20) (cb true) (.l 24),f_ 44 <|.mov (.l 25),n_ 45 26 <|.fad (.g 10) 13,n_ 46 26 <|.load (.v 10) none (.l 27),n_ 47 26 <|.bin .neq (.l 28) (ci 0),n_ 48 26 <|.mov (.l 29),y_ 49 30 <|.fad (.g 10) 13,y_ 50 30 <|.load (.v 10) none (.l 31),y_ 51 30 <|.mov (.g 3),y_ 52 30 <|.bin .neq (.l 32) (.l 33),n_ 53 26 <|.pick (.l 30) (.l 34) (cb false),t_ 54 <|.pick (.l 26) (cb true) (.l 35)]
def r256_3 : List Op := [f_ 55 <|.load (.v 4) (some 5) (.g 4),u_ <|.store (.v 8) 5 (.g 8) (.l 0),t_ 9 <|.mov (cb false)]
def r256_4 : List Op := [f_ 56 <|.mov (.g 3),f_ 57 <|.fad (.g 10) 13,u_ <|.store (.v 10) 1 (.l 1) (.l 0)]
def r256_5 : List Op := [f_ 58 <|.load (.v 4) (some 5) (.g 4),f_ 59 <|.load (.v 10) (some 17) (.g 10),f_ 60 <|.call (.k 304) .no none [.l 0, .l 1],u_ <|.store (.v 8) 5 (.g 8) (.l 2),t_ 9 <|.mov (cb true)]
def c256 : C := .seq (.region false r256_0) (.seq (.region false r256_1) (.seq (.seq (.region false r256_2) (.cond (.g 54) (.seq (.region false r256_3) (.ret)) (.skip))) (.seq (.region false r256_4) (.seq (.region false r256_5) (.ret)))))
def F256 : F := ⟨4, [0, 1, 2, 3, 4, 8, 9, 10, 11, 54], [.cell 8 (some 5), .t 9], none, c256⟩
attribute [go_sem] r256_0 r256_1 r256_2 r256_3 r256_4 r256_5 c256 F256
def r258_0 : List Op := [t_ 4 <|.box (.g 0),t_ 7 <|.box (.g 3),t_ 8 <|.alloc [.slice 17 [], .int .i64 0, .int .i64 0, .int .i64 0, .int .i64 0],t_ 9 <|.mov (cb false)]
def r258_1 : List Op := [f_ 13 <|.load (.v 4) (some 5) (.g 4),f_ 14 <|.mov (.g 1),f_ 15 <|.call (.k 247) .no none [.l 0, .l 1],f_ 12 <|.mov (.l 2),f_ 16 <|.ext (.l 3) 0,f_ 17 <|.ext (.l 3) 1,t_ 10 <|.alloc [.int .i64 0, .int .i64 0, .str [], .str [], .int .i64 0, .slice 2 [], .int .i64 0, .int .i64 0, .int .i64 0, .int .i64 0, .int .i64 0, .int .i64 0, .slice 11 [], .int .i64 0, .int .i64 0, .int .i64 0, .int .i64 0],u_ <|.store (.v 10) 17 (.l 6) (.l 4),t_ 11 <|.mov (.l 5)]
def r258_2 : List Op := [f_ 18 <|.mov (.g 11),f_ 19 <|.un .not (.l 0),f_ 20 <|.mov (.l 1),n_ 21 2 <|.mov (.g 2),n_ 22 2 <|.mks 1 1 [.int .i64 0] [(0, .l 3)],n_ 23 2 <|.call (.k 284) .no none [.c (.int .i64 1), .l 4],n_ 24 2 <|.un .not (.l 5),f_ 25 <|.pick (.l 2) (cb true) (.l 6),f_ 26 <|.mov (.l 7),n_ 27 8 <|.load (.v 7) (some 3) (.g 7),n_ 28 8 <|.call (.k 28) .no none [.l 9],n_ 29 8 <|.un .not (.l 10),t_ 30 <|.pick (.l 8) (cb true) (.l 11)]
def r258_3 : List Op := [f_ 31 <|.load (.v 4) (some 5) (.g 4),u_ <|.store (.v 8) 5 (.g 8) (.l 0),t_ 9 <|.mov (cb false)]
def r258_4 : List Op := [f_ 32 <|.fad (.g 10) 14,f_ 33 <|.load (.v 10) none (.l 0),f_ 34 <|.mov (.g 2),t_ 35 <|.bin .geq (.l 1) (.l 2)]
def r258_5 : List Op := [f_ 36 <|.load (.v 4) (some 5) (.g 4),u_ <|.store (.v 8) 5 (.g 8) (.l 0),t_ 9 <|.mov (cb true)]
def r258_6 : List Op := [f_ 37 <|.mov (.g 2),f_ 38 <|.fad (.g 10) 14,u_ <|.store (.v 10) 1 (.l 1) (.l 0)]
def r258_7 : List Op := [f_ 39 <|.fad (.g 10) 13,f_ 40 <|.load (.v 10) none (.l 0),f_ 41 <|.mov (.g 2),t_ 42 <|.bin .eql (.l 1) (.l 2)]
def r258_8 : List Op := [f_ 43 <|.fad (.g 10) 13,u_ <|.store (.v 10) 1 (.l 0) (ci 0)]
def r258_9 : List Op := [f_ 44 <|.load (.v 4) (some 5) (.g 4),f_ 45 <|.load (.v 10) (some 17) (.g 10),f_ 46 <|.call (.k 304) .no none [.l 0, .l 1],u_ <|.store (.v 4) 5 (.g 4) (.l 2)]
def r258_10 : List Op := [f_ 47 <|.fad (.g 4) 1,f_ 48 <|.load (.v 4) (some 3) (.l 0),f_ 49 <|.load (.v 7) (some 3) (.g 7),f_ 50 <|.call (.k 21) .no none [.l 1, .l 2],f_ 51 <|.fad (.g 4) 1,u_ <|.store (.v 4) 3 (.l 4) (.l 3)]
def r258_11 : List Op := [f_ 52 <|.load (.v 4) (some 5) (.g 4),u_ <|.store (.v 8) 5 (.g 8) (.l 0),t_ 9 <|.mov (cb true)]
def c258 : C := .seq (.region false r258_0) (.seq (.region false r258_1) (.seq (.seq (.region false r258_2) (.cond (.g 30) (.seq (.region false r258_3) (.ret)) (.skip))) (.seq (.seq (.region false r258_4) (.cond (.g 35) (.seq (.region false r258_5) (.ret)) (.skip))) (.seq (.region false r258_6) (.seq (.seq (.region false r258_7) (.cond (.g 42) (.region false r258_8) (.skip))) (.seq (.region false r258_9) (.seq (.region false r258_10) (.seq (.region false r258_11) (.ret)))))))))
def F258 : F := ⟨4, [0, 1, 2, 3, 4, 7, 8, 9, 10, 11, 30, 35, 42], [.cell 8 (some 5), .t 9], none, c258⟩
attribute [go_sem] r258_0 r258_1 r258_2 r258_3 r258_4 r258_5 r258_6 r258_7 r258_8 r258_9 r258_10 r258_11 c258 F258
def r261_0 : List Op := [t_ 2 <|.box (.g 0),t_ 3 <|.box (.g 1),t_ 4 <|.alloc [.slice 17 [], .int .i64 0, .int .i64 0, .int .i64 0, .int .i64 0]]
def r261_1 : List Op := [f_ 5 <|.load (.v 2) (some 5) (.g 2),f_ 6 <|.call (.k 249) .no none [.l 0],f_ 7 <|.mov (.l 1),y_ 8 2 <|.load (.v 3) (some 3) (.g 3),y_ 9 2 <|.call (.k 28) .no none [.l 3],t_ 10 <|.pick (.l 2) (.l 4) (cb false)]
def r261_2 : List Op := [f_ 11 <|.fad (.g 2) 1,f_ 12 <|.load (.v 2) (some 3) (.l 0),f_ 13 <|.load (.v 3) (some 3) (.g 3),f_ 14 <|.call (.k 21) .no none [.l 1, .l 2],f_ 15 <|.fad (.g 2) 1,u_ <|.store (.v 2) 3 (.l 4) (.l 3)]
def r261_3 : List Op := [f_ 16 <|.load (.v 2) (some 5) (.g 2),u_ <|.store (.v 4) 5 (.g 4) (.l 0)]
def c261 : C := .seq (.region false r261_0) (.seq (.seq (.region false r261_1) (.cond (.g 10) (.region false r261_2) (.skip))) (.seq (.region false r261_3) (.ret)))
def F261 : F := ⟨2, [0, 1, 2, 3, 4, 10], [.cell 4 (some 5)], none, c261⟩
attribute [go_sem] r261_0 r261_1 r261_2 r261_3 c261 F261
def r262_0 : List Op := [t_ 2 <|.box (.g 0),t_ 3 <|.box (.g 1),t_ 4 <|.alloc [.slice 17 [], .int .i64 0, .int .i64 0, .int .i64 0, .int .i64 0]]
def r262_1 : List Op := [f_ 7 <|.load (.v 2) (some 5) (.g 2),f_ 8 <|.call (.k 249) .borrow none [.l 0],f_ 9 <|.un .not (.l 1),f_ 10 <|.mov (.l 2),n_ 11 3 <|.load (.v 3) (some 3) (.g 3),n_ 12 3 <|.call (.k 28) .borrow none [.l 4],n_ 13 3 <|.un .not (.l 5),t_ 14 <|.pick (.l 3) (cb true) (.l 6)]
def r262_2 : List Op := [f_ 15 <|.load (.v 2) (some 5) (.g 2),u_ <|.store (.v 4) 5 (.g 4) (.l 0)]
def r262_3 : List Op := [f_ 16 <|.fad (.g 2) 0,f_ 17 <|.load (.v 2) none (.l 0),f_ 18 <|.call (.k 307) .freeze (some 0) [.l 1],f_ 19 <|.fad (.g 2) 0,u_ <|.store (.v 2) 1 (.l 3) (.l 2)]
def r262_4 : List Op := [f_ 20 <|.fad (.g 2) 0,t_ 21 <|.load (.v 2) none (.l 0),t_ 22 <|.len false (.l 1),t_ 23 <|.mov (ci 0)]
def r262_5 : List Op := [t_ 24 <|.bin .lss (.g 23) (.g 22)]
def r262_6 : List Op := [f_ 25 <|.mov (.g 23),f_ 26 <|.iad 17 (.g 21) (.g 23),f_ 27 <|.load (.e 18) (some 17) (.l 1),t_ 6 <|.alloc [.int .i64 0, .int .i64 0, .str [], .str [], .int .i64 0, .slice 2 [], .int .i64 0, .int .i64 0, .int .i64 0, .int .i64 0, .int .i64 0, .int .i64 0, .slice 11 [], .int .i64 0, .int .i64 0, .int .i64 0, .int .i64 0],t_ 5 <|.mov (.l 0),u_ <|.store (.v 6) 17 (.l 3) (.l 2)]
def r262_7 : List Op := [f_ 28 <|.fad (.g 2) 0,f_ 29 <|.load (.v 2) none (.l 0),f_ 30 <|.mov (.g 5),f_ 31 <|.fad (.g 6) 5,f_ 32 <|.load (.v 6) none (.l 3),f_ 33 <|.load (.v 3) (some 3) (.g 3),f_ 34 <|.call (.k 217) .freeze none [.l 4, .l 5],f_ 35 <|.iad 17 (.l 1) (.l 2),f_ 36 <|.fad (.l 7) 5,u_ <|.store (.e 18) 1 (.l 8) (.l 6)]
def r262_8 : List Op := [f_ 37 <|.fad (.g 2) 0,f_ 38 <|.load (.v 2) none (.l 0),f_ 39 <|.mov (.g 5),f_ 40 <|.fad (.g 6) 6,f_ 41 <|.load (.v 6) (some 3) (.l 3),f_ 42 <|.load (.v 3) (some 3) (.g 3),f_ 43 <|.call (.k 21) .freeze none [.l 4, .l 5],f_ 44 <|.iad 17 (.l 1) (.l 2),f_ 45 <|.fad (.l 7) 6,u_ <|.store (.e 18) 3 (.l 8) (.l 6)]
def r262_9 : List Op := [f_ 46 <|.bin .add (.g 23) (ci 1),t_ 23 <|.mov (.l 0)]
def b262_0 : C := .seq (.region false r262_5) (.seq (.cond (.g 24) (.skip) (.exit 0)) (.seq (.block 1 (.seq (.region false r262_6) (.seq (.region true r262_7) (.region true r262_8)))) (.region false r262_9)))
def l262_0 : C := .loop [] [] [6] [] b262_0
def r262_10 : List Op := [f_ 47 <|.load (.v 2) (some 5) (.g 2),u_ <|.store (.v 4) 5 (.g 4) (.l 0)]
def c262 : C := .seq (.region false r262_0) (.seq (.seq (.region false r262_1) (.cond (.g 14) (.seq (.region false r262_2) (.ret)) (.skip))) (.seq (.region false r262_3) (.seq (.seq (.region false r262_4) (.block 0 (l262_0))) (.seq (.region false r262_10) (.ret)))))
def F262 : F := ⟨2, [0, 1, 2, 3, 4, 5, 6, 14, 21, 22, 23, 24], [.cell 4 (some 5)], none, c262⟩
attribute [go_sem] r262_0 r262_1 r262_2 r262_3 r262_4 r262_5 r262_6 r262_7 r262_8 r262_9 b262_0 r262_10 c262 F262
def r265_0 : List Op := [t_ 4 <|.box (.g 0),t_ 8 <|.alloc [.slice 17 [], .int .i64 0, .int .i64 0, .int .i64 0, .int .i64 0],t_ 9 <|.mov (cb false)]
def r265_1 : List Op := [f_ 13 <|.load (.v 4) (some 5) (.g 4),f_ 14 <|.mov (.g 1),f_ 15 <|.call (.k 247) .no none [.l 0, .l 1],f_ 12 <|.mov (.l 2),f_ 16 <|.ext (.l 3) 0,f_ 17 <|.ext (.l 3) 1,t_ 10 <|.alloc [.int .i64 0, .int .i64 0, .str [], .str [], .int .i64 0, .slice 2 [], .int .i64 0, .int .i64 0, .int .i64 0, .int .i64 0, .int .i64 0, .int .i64 0, .slice 11 [], .int .i64 0, .int .i64 0, .int .i64 0, .int .i64 0],u_ <|.store (.v 10) 17 (.l 6) (.l 4),t_ 11 <|.mov (.l 5)]
def r265_2 : List Op := [f_ 18 <|.mov (.g 11),f_ 19 <|.un .not (.l 0),f_ 20 <|.mov (.l 1),n_ 21 2 <|.mov (.g 2),n_ 22 2 <|.mov (.g 3),n_ 23 2 <|.mks 1 2 [.int .i64 0] [(0, .l 3), (1, .l 4)],n_ 24 2 <|.call (.k 284) .no none [.c (.int .i64 1), .l 5],n_ 25 2 <|.un .not (.l 6),t_ 26 <|.pick (.l 2) (cb true) (.l 7)]
def r265_3 : List Op := [f_ 27 <|.load (.v 4) (some 5) (.g 4),u_ <|.store (.v 8) 5 (.g 8) (.l 0),t_ 9 <|.mov (cb false)]
def r265_4 : List Op := [f_ 28 <|.load (.v 10) (some 17) (.g 10),f_ 29 <|.mov (.g 3),t_ 30 <|.call (.k 303) .no none [.l 0, .l 1]]
def r265_5 : List Op := [f_ 31 <|.load (.v 4) (some 5) (.g 4),u_ <|.store (.v 8) 5 (.g 8) (.l 0),t_ 9 <|.mov (cb true)]
def r265_6 : List Op := [f_ 32 <|.fad (.g 10) 1,f_ 33 <|.load (.v 10) none (.l 0),f_ 34 <|.mov (.g 2),f_ 35 <|.bin .neq (.l 1) (.l 2),f_ 36 <|.mov (.l 3),n_ 37 4 <|.fad (.g 10) 4,n_ 38 4 <|.load (.v 10) none (.l 5),n_ 39 4 <|.bin .neq (.l 6) (ci 1),f_ 40 <|.pick (.l 4) (cb true) (.l 7),f_ 41 <|.mov (.l 8),n_ 42 9 <|.fad (.g 10) 13,n_ 43 9 <|.load (.v 10) none (.l 10),n_ 44 9 <|.bin .neq (.l 11) (ci 0),f_ 45 <|.pick (.l 9) (cb true) (.l 12),f_ 46 <|.mov (.l 13),n_ 47 14 <|.fad (.g 10) 16,n_ 48 14 <|.load (.v 10) none (.l 15),n_ 49 14 <|.mov (.g 3),n_ 50 14 <|.bin .geq (.l 16) (.l 17),t_ 51 <|.pick (.l 14) (cb true) (.l 18)]
def r265_7 : List Op := [f_ 52 <|.load (.v 4) (some 5) (.g 4),u_ <|.store (.v 8) 5 (.g 8) (.l 0),t_ 9 <|.mov (cb false)]
def r265_8 : List Op := [f_ 53 <|.mov (.g 3),f_ 54 <|.fad (.g 4) 1,f_ 55 <|.load (.v 4) (some 3) (.l 1),f_ 56 <|.fad (.g 10) 4,u_ <|.store (.v 10) 1 (.l 3) (ci 2),f_ 57 <|.fad (.g 10) 15,u_ <|.store (.v 10) 1 (.l 5) (.l 0),f_ 58 <|.fad (.g 10) 9,u_ <|.store (.v 10) 3 (.l 7) (.l 2)]
def r265_9 : List Op := [f_ 59 <|.load (.v 4) (some 5) (.g 4),f_ 60 <|.load (.v 10) (some 17) (.g 10),f_ 61 <|.call (.k 304) .no none [.l 0, .l 1],u_ <|.store (.v 8) 5 (.g 8) (.l 2),t_ 9 <|.mov (cb true)]
def c265 : C := .seq (.region false r265_0) (.seq (.region false r265_1) (.seq (.seq (.region false r265_2) (.cond (.g 26) (.seq (.region false r265_3) (.ret)) (.skip))) (.seq (.seq (.region false r265_4) (.cond (.g 30) (.seq (.region false r265_5) (.ret)) (.skip))) (.seq (.seq (.region false r265_6) (.cond (.g 51) (.seq (.region false r265_7) (.ret)) (.skip))) (.seq (.region true r265_8) (.seq (.region false r265_9) (.ret)))))))
def F265 : F := ⟨4, [0, 1, 2, 3, 4, 8, 9, 10, 11, 26, 30, 51], [.cell 8 (some 5), .t 9], none, c265⟩
attribute [go_sem] r265_0 r265_1 r265_2 r265_3 r265_4 r265_5 r265_6 r265_7 r265_8 r265_9 c265 F265
def r266_0 : List Op := [t_ 4 <|.box (.g 0),t_ 8 <|.alloc [.slice 17 [], .int .i64 0, .int .i64 0, .int .i64 0, .int .i64 0],t_ 9 <|.mov (cb false)]
def r266_1 : List Op := [f_ 13 <|.load (.v 4) (some 5) (.g 4),f_ 14 <|.mov (.g 1),f_ 15 <|.call (.k 247) .no none [.l 0, .l 1],f_ 12 <|.mov (.l 2),f_ 16 <|.ext (.l 3) 0,f_ 17 <|.ext (.l 3) 1,t_ 10 <|.alloc [.int .i64 0, .int .i64 0, .str [], .str [], .int .i64 0, .slice 2 [], .int .i64 0, .int .i64 0, .int .i64 0, .int .i64 0, .int .i64 0, .int .i64 0, .slice 11 [], .int .i64 0, .int .i64 0, .int .i64 0, .int .i64 0],u_ <|.store (.v 10) 17 (.l 6) (.l 4),t_ 11 <|.mov (.l 5)]
def r266_2 : List Op := [f_ 18 <|.mov (.g 11),f_ 19 <|.un .not (.l 0),f_ 20 <|.mov (.l 1),n_ 21 2 <|.mov (.g 2),n_ 22 2 <|.mov (.g 3),n_ 23 2 <|.mks 1 2 [.int .i64 0] [(0, .l 3), (1, .l 4)],n_ 24 2 <|.call (.k 284) .no none [.c (.int .i64 1), .l 5],n_ 25 2 <|.un .not (.l 6),t_ 26 <|.pick (.l 2) (cb true) (.l 7)]
def r266_3 : List Op := [f_ 27 <|.load (.v 4) (some 5) (.g 4),u_ <|.store (.v 8) 5 (.g 8) (.l 0),t_ 9 <|.mov (cb false)]
def r266_4 : List Op := [f_ 28 <|.fad (.g 10) 4,f_ 29 <|.load (.v 10) none (.l 0),f_ 30 <|.bin .eql (.l 1) (ci 1),f_ 31 <|.mov (.l 2),y_ 32 3 <|.fad (.g 10) 1,y_ 33 3 <|.load (.v 10) none (.l 4),y_ 34 3 <|.mov (.g 3),y_ 35 3 <|.bin .eql (.l 5) (.l 6),f_ 36 <|.pick (.l 3) (.l 7) (cb false),f_ 37 <|.mov (.l 8),y_ 38 9 <|.fad (.g 10) 16,y_ 39 9 <|.load (.v 10) none (.l 10),y_ 40 9 <|.mov (.g 2),y_ 41 9 <|.bin .eql (.l 11) (.l 12),t_ 42 <|.pick (.l 9) (.l 13) (cb false)]
def r266_5 : List Op := [f_ 43 <|.load (.v 4) (some 5) (.g 4),u_ <|.store (.v 8) 5 (.g 8) (.l 0),t_ 9 <|.mov (cb true)]
def r266_6 : List Op := [f_ 44 <|.load (.v 10) (some 17) (.g 10),f_ 45 <|.mov (.g 2),f_ 46 <|.call (.k 302) .no none [.l 0, .l 1],f_ 47 <|.un .not (.l 2),f_ 48 <|.mov (.l 3),n_ 49 4 <|.mov (.g 3),n_ 50 4 <|.fad (.g 10) 1,n_ 51 4 <|.load (.v 10) none (.l 6),n_ 52 4 <|.bin .leq (.l 5) (.l 7),t_ 53 <|.pick (.l 4) (cb true) (.l 8)]
def r266_7 : List Op := [f_ 54 <|.load (.v 4) (some 5) (.g 4),u_ <|.store (.v 8) 5 (.g 8) (.l 0),t_ 9 <|.mov (cb false)]
def r266_8 : List Op := [f_ 55 <|.mov (.g 3),f_ 56 <|.mov (.g 2),f_ 57 <|.fad (.g 10) 4,u_ <|.store (.v 10) 1 (.l 2) (ci 1),f_ 58 <|.fad (.g 10) 1,u_ <|.store (.v 10) 1 (.l 4) (.l 0),f_ 59 <|.fad (.g 10) 16,u_ <|.store (.v 10) 1 (.l 6) (.l 1)]
def r266_9 : List Op := [f_ 60 <|.fad (.g 4) 4,f_ 61 <|.load (.v 4) none (.l 0),f_ 62 <|.mov (.g 2),f_ 63 <|.mm true (.l 1) (.l 2),f_ 64 <|.fad (.g 4) 4,u_ <|.store (.v 4) 1 (.l 4) (.l 3)]
def r266_10 : List Op := [f_ 65 <|.load (.v 4) (some 5) (.g 4),f_ 66 <|.load (.v 10) (some 17) (.g 10),f_ 67 <|.call (.k 304) .no none [.l 0, .l 1],u_ <|.store (.v 8) 5 (.g 8) (.l 2),t_ 9 <|.mov (cb true)]
def c266 : C := .seq (.region false r266_0) (.seq (.region false r266_1) (.seq (.seq (.region false r266_2) (.cond (.g 26) (.seq (.region false r266_3) (.ret)) (.skip))) (.seq (.seq (.region false r266_4) (.cond (.g 42) (.seq (.region false r266_5) (.ret)) (.skip))) (.seq (.seq (.region false r266_6) (.cond (.g 53) (.seq (.region false r266_7) (.ret)) (.skip))) (.seq (.region false r266_8) (.seq (.region false r266_9) (.seq (.region false r266_10) (.ret))))))))
def F266 : F := ⟨4, [0, 1, 2, 3, 4, 8, 9, 10, 11, 26, 42, 53], [.cell 8 (some 5), .t 9], none, c266⟩
attribute [go_sem] r266_0 r266_1 r266_2 r266_3 r266_4 r266_5 r266_6 r266_7 r266_8 r266_9 r266_10 c266 F266
def r267_0 : List Op := [t_ 3 <|.box (.g 0),t_ 6 <|.alloc [.slice 17 [], .int .i64 0, .int .i64 0, .int .i64 0, .int .i64 0],t_ 7 <|.mov (cb false)]
def r267_1 : List Op := [f_ 9 <|.load (.v 3) (some 5) (.g 3),f_ 10 <|.call (.k 249) .no none [.l 0],f_ 11 <|.un .not (.l 1),f_ 12 <|.mov (.l 2),n_ 13 3 <|.mov (.g 1),n_ 14 3 <|.mov (.g 2),n_ 15 3 <|.mks 1 2 [.int .i64 0] [(0, .l 4), (1, .l 5)],n_ 16 3 <|.call (.k 284) .no none [.c (.int .i64 1), .l 6],n_ 17 3 <|.un .not (.l 7),t_ 18 <|.pick (.l 3) (cb true) (.l 8)]
def r267_2 : List Op := [f_ 19 <|.load (.v 3) (some 5) (.g 3),u_ <|.store (.v 6) 5 (.g 6) (.l 0),t_ 7 <|.mov (cb false)]
def r267_3 : List Op := [f_ 20 <|.load (.v 3) (some 5) (.g 3),f_ 21 <|.mov (.g 1),f_ 22 <|.call (.k 287) .no none [.l 0, .l 1],t_ 8 <|.alloc [.int .i64 0, .int .i64 0, .str [], .str [], .int .i64 0, .slice 2 [], .int .i64 0, .int .i64 0, .int .i64 0, .int .i64 0, .int .i64 0, .int .i64 0, .slice 11 [], .int .i64 0, .int .i64 0, .int .i64 0, .int .i64 0],u_ <|.store (.v 8) 17 (.l 3) (.l 2)]
def r267_4 : List Op := [f_ 23 <|.fad (.g 8) 0,f_ 24 <|.load (.v 8) none (.l 0),t_ 25 <|.bin .eql (.l 1) (ci 0)]
def r267_5 : List Op := [f_ 26 <|.load (.v 3) (some 5) (.g 3),u_ <|.store (.v 6) 5 (.g 6) (.l 0),t_ 7 <|.mov (cb true)]
def r267_6 : List Op := [f_ 27 <|.load (.v 8) (some 17) (.g 8),f_ 28 <|.mov (.g 2),f_ 29 <|.call (.k 303) .no none [.l 0, .l 1],t_ 30 <|.un .not (.l 2)]
def r267_7 : List Op := [f_ 31 <|.load (.v 3) (some 5) (.g 3),u_ <|.store (.v 6) 5 (.g 6) (.l 0),t_ 7 <|.mov (cb false)]
def r267_8 : List Op := [f_ 32 <|.load (.v 3) (some 5) (.g 3),f_ 33 <|.mov (.g 1),f_ 34 <|.call (.k 308) .no none [.l 0, .l 1],u_ <|.store (.v 6) 5 (.g 6) (.l 2),t_ 7 <|.mov (cb true)]
def c267 : C := .seq (.region false r267_0) (.seq (.seq (.region false r267_1) (.cond (.g 18) (.seq (.region false r267_2) (.ret)) (.skip))) (.seq (.region false r267_3) (.seq (.seq (.region false r267_4) (.cond (.g 25) (.seq (.region false r267_5) (.ret)) (.skip))) (.seq (.seq (.region false r267_6) (.cond (.g 30) (.seq (.region false r267_7) (.ret)) (.skip))) (.seq (.region false r267_8) (.ret))))))
def F267 : F := ⟨3, [0, 1, 2, 3, 6, 7, 8, 18, 25, 30], [.cell 6 (some 5), .t 7], none, c267⟩
attribute [go_sem] r267_0 r267_1 r267_2 r267_3 r267_4 r267_5 r267_6 r267_7 r267_8 c267 F267
def r270_0 : List Op := [t_ 3 <|.box (.g 0),t_ 6 <|.alloc [.slice 17 [], .int .i64 0, .int .i64 0, .int .i64 0, .int .i64 0],t_ 7 <|.mov (cb false)]
def r270_1 : List Op := [f_ 11 <|.load (.v 3) (some 5) (.g 3),f_ 12 <|.mov (.g 1),f_ 13 <|.call (.k 247) .no none [.l 0, .l 1],f_ 10 <|.mov (.l 2),f_ 14 <|.ext (.l 3) 0,f_ 15 <|.ext (.l 3) 1,t_ 8 <|.alloc [.int .i64 0, .int .i64 0, .str [], .str [], .int .i64 0, .slice 2 [], .int .i64 0, .int .i64 0, .int .i64 0, .int .i64 0, .int .i64 0, .int .i64 0, .slice 11 [], .int .i64 0, .int .i64 0, .int .i64 0, .int .i64 0],u_ <|.store (.v 8) 17 (.l 6) (.l 4),t_ 9 <|.mov (.l 5)]
def r270_2 : List Op := [f_ 16 <|.mov (.g 9),f_ 17 <|.un .not (.l 0),f_ 18 <|.mov (.l 1),n_ 19 2 <|.mov (.g 2),n_ 20 2 <|.mks 1 1 [.int .i64 0] [(0, .l 3)],n_ 21 2 <|.call (.k 284) .no none [.c (.int .i64 1), .l 4],n_ 22 2 <|.un .not (.l 5),t_ 23 <|.pick (.l 2) (cb true) (.l 6)]
def r270_3 : List Op := [f_ 24 <|.load (.v 3) (some 5) (.g 3),u_ <|.store (.v 6) 5 (.g 6) (.l 0),t_ 7 <|.mov (cb false)]
def r270_4 : List Op := [f_ 25 <|.fad (.g 8) 16,f_ 26 <|.load (.v 8) none (.l 0),f_ 27 <|.mov (.g 2),f_ 28 <|.bin .geq (.l 1) (.l 2),f_ 29 <|.mov (.l 3),n_ 30 4 <|.fad (.g 8) 4,n_ 31 4 <|.load (.v 8) none (.l 5),n_ 32 4 <|.bin .eql (.l 6) (ci 2),n_ 33 4 <|.mov (.l 7),y_ 34 8 <|.fad (.g 8) 15,y_ 35 8 <|.load (.v 8) none (.l 9),y_ 36 8 <|.mov (.g 2),y_ 37 8 <|.bin .neq (.l 10) (.l 11),n_ 38 4 <|.pick (.l 8) (.l 12) (cb false),t_ 39 <|.pick (.l 4) (cb true) (.l 13)]
def r270_5 : List Op := [f_ 40 <|.load (.v 3) (some 5) (.g 3),u_ <|.store (.v 6) 5 (.g 6) (.l 0),t_ 7 <|.mov (cb true)]
def r270_6 : List Op := [f_ 41 <|.mov (.g 2),f_ 42 <|.fad (.g 8) 16,u_ <|.store (.v 8) 1 (.l 1) (.l 0)]
def r270_7 : List Op := [f_ 43 <|.load (.v 8) (some 17) (.g 8),f_ 44 <|.mov (.g 2),t_ 45 <|.call (.k 303) .no none [.l 0, .l 1]]
def r270_8 : List Op := [f_ 46 <|.fad (.g 8) 4,u_ <|.store (.v 8) 1 (.l 0) (ci 1)]
def r270_9 : List Op := [f_ 47 <|.load (.v 3) (some 5) (.g 3),f_ 48 <|.load (.v 8) (some 17) (.g 8),f_ 49 <|.call (.k 304) .no none [.l 0, .l 1],u_ <|.store (.v 6) 5 (.g 6) (.l 2),t_ 7 <|.mov (cb true)]
def c270 : C := .seq (.region false r270_0) (.seq (.region false r270_1) (.seq (.seq (.region false r270_2) (.cond (.g 23) (.seq (.region false r270_3) (.ret)) (.skip))) (.seq (.seq (.region false r270_4) (.cond (.g 39) (.seq (.region false r270_5) (.ret)) (.skip))) (.seq (.region false r270_6) (.seq (.seq (.region false r270_7) (.cond (.g 45) (.region false r270_8) (.skip))) (.seq (.region false r270_9) (.ret)))))))
def F270 : F := ⟨3, [0, 1, 2, 3, 6, 7, 8, 9, 23, 39, 45], [.cell 6 (some 5), .t 7], none, c270⟩
attribute [go_sem] r270_0 r270_1 r270_2 r270_3 r270_4 r270_5 r270_6 r270_7 r270_8 r270_9 c270 F270
def r271_0 : List Op := [t_ 3 <|.box (.g 0),t_ 6 <|.alloc [.slice 17 [], .int .i64 0, .int .i64 0, .int .i64 0, .int .i64 0],t_ 7 <|.mov (cb false)]
def r271_1 : List Op := [f_ 8 <|.load (.v 3) (some 5) (.g 3),f_ 9 <|.call (.k 249) .no none [.l 0],f_ 10 <|.un .not (.l 1),f_ 11 <|.mov (.l 2),n_ 12 3 <|.mov (.g 1),n_ 13 3 <|.mov (.g 2),n_ 14 3 <|.mks 1 2 [.int .i64 0] [(0, .l 4), (1, .l 5)],n_ 15 3 <|.call (.k 284) .no none [.c (.int .i64 1), .l 6],n_ 16 3 <|.un .not (.l 7),t_ 17 <|.pick (.l 3) (cb true) (.l 8)]
def r271_2 : List Op := [f_ 18 <|.load (.v 3) (some 5) (.g 3),u_ <|.store (.v 6) 5 (.g 6) (.l 0),t_ 7 <|.mov (cb false)]
def r271_3 : List Op := [f_ 19 <|.load (.v 3) (some 5) (.g 3),f_ 20 <|.mov (.g 1),f_ 21 <|.call (.k 287) .no none [.l 0, .l 1],f_ 22 <|.mov (.g 2),t_ 23 <|.call (.k 302) .no none [.l 2, .l 3]]
def r271_4 : List Op := [f_ 24 <|.load (.v 3) (some 5) (.g 3),f_ 25 <|.mov (.g 1),f_ 26 <|.call (.k 308) .no none [.l 0, .l 1],u_ <|.store (.v 3) 5 (.g 3) (.l 2)]
def r271_5 : List Op := [f_ 27 <|.fad (.g 3) 4,f_ 28 <|.load (.v 3) none (.l 0),f_ 29 <|.mov (.g 2),f_ 30 <|.mm true (.l 1) (.l 2),f_ 31 <|.fad (.g 3) 4,u_ <|.store (.v 3) 1 (.l 4) (.l 3)]
def r271_6 : List Op := [f_ 32 <|.load (.v 3) (some 5) (.g 3),u_ <|.store (.v 6) 5 (.g 6) (.l 0),t_ 7 <|.mov (cb true)]
def c271 : C := .seq (.region false r271_0) (.seq (.seq (.region false r271_1) (.cond (.g 17) (.seq (.region false r271_2) (.ret)) (.skip))) (.seq (.seq (.region false r271_3) (.cond (.g 23) (.region false r271_4) (.skip))) (.seq (.region false r271_5) (.seq (.region false r271_6) (.ret)))))
def F271 : F := ⟨3, [0, 1, 2, 3, 6, 7, 17, 23], [.cell 6 (some 5), .t 7], none, c271⟩
attribute [go_sem] r271_0 r271_1 r271_2 r271_3 r271_4 r271_5 r271_6 c271 F271
def r273_0 : List Op := [t_ 6 <|.box (.g 0),t_ 12 <|.alloc [.slice 17 [], .int .i64 0, .int .i64 0, .int .i64 0, .int .i64 0],t_ 13 <|.mov (cb false)]
def r273_1 : List Op := [f_ 19 <|.load (.v 6) (some 5) (.g 6),f_ 20 <|.call (.k 249) .no none [.l 0],f_ 21 <|.un .not (.l 1),f_ 22 <|.mov (.l 2),n_ 23 3 <|.mov (.g 1),n_ 24 3 <|.mov (.g 2),n_ 25 3 <|.mov (.g 4),n_ 26 3 <|.mov (.g 5),n_ 27 3 <|.mks 1 4 [.int .i64 0] [(0, .l 4), (1, .l 5), (2, .l 6), (3, .l 7)],n_ 28 3 <|.call (.k 284) .no none [.c (.int .i64 1), .l 8],n_ 29 3 <|.un .not (.l 9),t_ 30 <|.pick (.l 3) (cb true) (.l 10)]
def r273_2 : List Op := [f_ 31 <|.load (.v 6) (some 5) (.g 6),u_ <|.store (.v 12) 5 (.g 12) (.l 0),t_ 13 <|.mov (cb false)]
def r273_3 : List Op := [f_ 32 <|.load (.v 6) (some 5) (.g 6),f_ 33 <|.mov (.g 1),f_ 34 <|.call (.k 287) .no none [.l 0, .l 1],f_ 35 <|.load (.v 6) (some 5) (.g 6),f_ 36 <|.mov (.g 4),f_ 37 <|.call (.k 287) .no none [.l 3, .l 4],t_ 14 <|.alloc [.int .i64 0, .int .i64 0, .str [], .str [], .int .i64 0, .slice 2 [], .int .i64 0, .int .i64 0, .int .i64 0, .int .i64 0, .int .i64 0, .int .i64 0, .slice 11 [], .int .i64 0, .int .i64 0, .int .i64 0, .int .i64 0],t_ 15 <|.alloc [.int .i64 0, .int .i64 0, .str [], .str [], .int .i64 0, .slice 2 [], .int .i64 0, .int .i64 0, .int .i64 0, .int .i64 0, .int .i64 0, .int .i64 0, .slice 11 [], .int .i64 0, .int .i64 0, .int .i64 0, .int .i64 0],u_ <|.store (.v 14) 17 (.l 6) (.l 2),u_ <|.store (.v 15) 17 (.l 7) (.l 5)]
def r273_4 : List Op := [f_ 38 <|.fad (.g 14) 0,f_ 39 <|.load (.v 14) none (.l 0),f_ 40 <|.bin .neq (.l 1) (ci 0),f_ 41 <|.mov (.l 2),y_ 42 3 <|.fad (.g 14) 1,y_ 43 3 <|.load (.v 14) none (.l 4),y_ 44 3 <|.mov (.g 5),y_ 45 3 <|.bin .eql (.l 5) (.l 6),f_ 46 <|.pick (.l 3) (.l 7) (cb false),f_ 47 <|.mov (.l 8),y_ 48 9 <|.fad (.g 14) 2,y_ 49 9 <|.fad (.l 10) 1,y_ 50 9 <|.load (.v 14) none (.l 11),y_ 51 9 <|.mov (.g 3),y_ 52 9 <|.bin .eql (.l 12) (.l 13),f_ 53 <|.pick (.l 9) (.l 14) (cb false),f_ 54 <|.mov (.l 15),y_ 55 16 <|.fad (.g 15) 0,y_ 56 16 <|.load (.v 15) none (.l 17),y_ 57 16 <|.bin .neq (.l 18) (ci 0),f_ 58 <|.pick (.l 16) (.l 19) (cb false),f_ 59 <|.mov (.l 20),y_ 60 21 <|.fad (.g 15) 1,y_ 61 21 <|.load (.v 15) none (.l 22),y_ 62 21 <|.mov (.g 5),y_ 63 21 <|.bin .eql (.l 23) (.l 24),t_ 64 <|.pick (.l 21) (.l 25) (cb false)]
def r273_5 : List Op := [f_ 65 <|.load (.v 6) (some 5) (.g 6),u_ <|.store (.v 12) 5 (.g 12) (.l 0),t_ 13 <|.mov (cb true)]
def r273_6 : List Op := [f_ 67 <|.fad (.g 14) 2,f_ 68 <|.load (.v 14) (some 2) (.l 0),f_ 69 <|.mov (.g 3),f_ 70 <|.call (.k 178) .no none [.l 1, .l 2],f_ 66 <|.mov (.l 3),f_ 71 <|.ext (.l 4) 0,f_ 72 <|.ext (.l 4) 1,f_ 73 <|.ext (.l 4) 2,t_ 16 <|.alloc [.str [], .str []],t_ 17 <|.alloc [.str [], .str []],u_ <|.store (.v 16) 2 (.l 8) (.l 5),u_ <|.store (.v 17) 2 (.l 9) (.l 6),t_ 18 <|.mov (.l 7)]
def r273_7 : List Op := [f_ 74 <|.load (.v 14) (some 17) (.g 14),f_ 75 <|.mov (.g 2),f_ 76 <|.call (.k 309) .no none [.l 0, .l 1],f_ 77 <|.un .not (.l 2),f_ 78 <|.mov (.l 3),n_ 79 4 <|.mov (.g 5),n_ 80 4 <|.mov (.g 2),n_ 81 4 <|.bin .leq (.l 5) (.l 6),f_ 82 <|.pick (.l 4) (cb true) (.l 7),f_ 83 <|.mov (.l 8),n_ 84 9 <|.fad (.g 14) 16,n_ 85 9 <|.load (.v 14) none (.l 10),n_ 86 9 <|.mov (.g 5),n_ 87 9 <|.bin .geq (.l 11) (.l 12),f_ 88 <|.pick (.l 9) (cb true) (.l 13),f_ 89 <|.mov (.l 14),n_ 90 15 <|.fad (.g 15) 0,n_ 91 15 <|.load (.v 15) none (.l 16),n_ 92 15 <|.bin .neq (.l 17) (ci 0),f_ 93 <|.pick (.l 15) (cb true) (.l 18),f_ 94 <|.mov (.l 19),n_ 95 20 <|.fad (.g 6) 0,n_ 96 20 <|.load (.v 6) none (.l 21),n_ 97 20 <|.len false (.l 22),n_ 98 20 <|.bin .eql (.l 23) (ci 8),f_ 99 <|.pick (.l 20) (cb true) (.l 24),f_ 100 <|.mov (.l 25),n_ 101 26 <|.mov (.g 18),n_ 102 26 <|.bin .neq (.l 27) (ci 0),t_ 103 <|.pick (.l 26) (cb true) (.l 28)]
def r273_8 : List Op := [f_ 104 <|.load (.v 6) (some 5) (.g 6),u_ <|.store (.v 12) 5 (.g 12) (.l 0),t_ 13 <|.mov (cb false)]
def r273_9 : List Op := [f_ 105 <|.load (.v 14) (some 17) (.g 14),u_ <|.store (.v 15) 17 (.g 15) (.l 0)]
def r273_10 : List Op := [f_ 107 <|.fad (.g 14) 5,f_ 108 <|.load (.v 14) none (.l 0),f_ 109 <|.mov (.g 3),f_ 110 <|.call (.k 211) .no none [.l 1, .l 2],f_ 106 <|.mov (.l 3),f_ 111 <|.ext (.l 4) 0,f_ 112 <|.ext (.l 4) 1,f_ 113 <|.fad (.g 14) 5,u_ <|.store (.v 14) 1 (.l 7) (.l 5),f_ 114 <|.fad (.g 15) 5,u_ <|.store (.v 15) 1 (.l 9) (.l 6)]
def r273_11 : List Op := [f_ 115 <|.load (.v 16) (some 2) (.g 16),f_ 116 <|.load (.v 17) (some 2) (.g 17),f_ 117 <|.fad (.g 14) 2,u_ <|.store (.v 14) 2 (.l 2) (.l 0),f_ 118 <|.fad (.g 15) 2,u_ <|.store (.v 15) 2 (.l 4) (.l 1)]
def r273_12 : List Op := [f_ 119 <|.mov (.g 5),f_ 120 <|.mov (.g 5),f_ 121 <|.mov (.g 4),f_ 122 <|.fad (.g 14) 1,u_ <|.store (.v 14) 1 (.l 3) (.l 0),f_ 123 <|.fad (.g 15) 1,u_ <|.store (.v 15) 1 (.l 5) (.l 1),f_ 124 <|.fad (.g 15) 0,u_ <|.store (.v 15) 1 (.l 7) (.l 2)]
def r273_13 : List Op := [f_ 125 <|.load (.v 6) (some 5) (.g 6),f_ 126 <|.load (.v 14) (some 17) (.g 14),f_ 127 <|.call (.k 304) .no none [.l 0, .l 1],f_ 128 <|.load (.v 15) (some 17) (.g 15),f_ 129 <|.call (.k 304) .no none [.l 2, .l 3],u_ <|.store (.v 12) 5 (.g 12) (.l 4),t_ 13 <|.mov (cb true)]
def c273 : C := .seq (.region false r273_0) (.seq (.seq (.region false r273_1) (.cond (.g 30) (.seq (.region false r273_2) (.ret)) (.skip))) (.seq (.region true r273_3) (.seq (.seq (.region false r273_4) (.cond (.g 64) (.seq (.region false r273_5) (.ret)) (.skip))) (.seq (.region false r273_6) (.seq (.seq (.region false r273_7) (.cond (.g 103) (.seq (.region false r273_8) (.ret)) (.skip))) (.seq (.region false r273_9) (.seq (.region false r273_10) (.seq (.region true r273_11) (.seq (.region false r273_12) (.seq (.region true r273_13) (.ret)))))))))))
def F273 : F := ⟨6, [0, 1, 2, 3, 4, 5, 6, 12, 13, 14, 15, 16, 17, 18, 30, 64, 103], [.cell 12 (some 5), .t 13], none, c273⟩
attribute [go_sem] r273_0 r273_1 r273_2 r273_3 r273_4 r273_5 r273_6 r273_7 r273_8 r273_9 r273_10 r273_11 r273_12 r273_13 c273 F273
def r275_0 : List Op := [t_ 5 <|.box (.g 0),t_ 10 <|.alloc [.slice 17 [], .int .i64 0, .int .i64 0, .int .i64 0, .int .i64 0],t_ 11 <|.mov (cb false)]
def r275_1 : List Op := [f_ 20 <|.load (.v 5) (some 5) (.g 5),f_ 21 <|.call (.k 249) .no none [.l 0],f_ 22 <|.un .not (.l 1),f_ 23 <|.mov (.l 2),n_ 24 3 <|.mov (.g 1),n_ 25 3 <|.mov (.g 2),n_ 26 3 <|.mov (.g 3),n_ 27 3 <|.mov (.g 4),n_ 28 3 <|.mks 1 4 [.int .i64 0] [(0, .l 4), (1, .l 5), (2, .l 6), (3, .l 7)],n_ 29 3 <|.call (.k 284) .no none [.c (.int .i64 1), .l 8],n_ 30 3 <|.un .not (.l 9),t_ 31 <|.pick (.l 3) (cb true) (.l 10)]
def r275_2 : List Op := [f_ 32 <|.load (.v 5) (some 5) (.g 5),u_ <|.store (.v 10) 5 (.g 10) (.l 0),t_ 11 <|.mov (cb false)]
def r275_3 : List Op := [f_ 33 <|.load (.v 5) (some 5) (.g 5),f_ 34 <|.mov (.g 1),f_ 35 <|.call (.k 287) .no none [.l 0, .l 1],f_ 36 <|.load (.v 5) (some 5) (.g 5),f_ 37 <|.mov (.g 2),f_ 38 <|.call (.k 287) .no none [.l 3, .l 4],t_ 12 <|.alloc [.int .i64 0, .int .i64 0, .str [], .str [], .int .i64 0, .slice 2 [], .int .i64 0, .int .i64 0, .int .i64 0, .int .i64 0, .int .i64 0, .int .i64 0, .slice 11 [], .int .i64 0, .int .i64 0, .int .i64 0, .int .i64 0],t_ 13 <|.alloc [.int .i64 0, .int .i64 0, .str [], .str [], .int .i64 0, .slice 2 [], .int .i64 0, .int .i64 0, .int .i64 0, .int .i64 0, .int .i64 0, .int .i64 0, .slice 11 [], .int .i64 0, .int .i64 0, .int .i64 0, .int .i64 0],u_ <|.store (.v 12) 17 (.l 6) (.l 2),u_ <|.store (.v 13) 17 (.l 7) (.l 5)]
def r275_4 : List Op := [f_ 39 <|.fad (.g 12) 0,f_ 40 <|.load (.v 12) none (.l 0),f_ 41 <|.bin .neq (.l 1) (ci 0),f_ 42 <|.mov (.l 2),y_ 43 3 <|.fad (.g 12) 1,y_ 44 3 <|.load (.v 12) none (.l 4),y_ 45 3 <|.mov (.g 4),y_ 46 3 <|.bin .eql (.l 5) (.l 6),f_ 47 <|.pick (.l 3) (.l 7) (cb false),f_ 48 <|.mov (.l 8),y_ 49 9 <|.fad (.g 13) 0,y_ 50 9 <|.load (.v 13) none (.l 10),y_ 51 9 <|.bin .eql (.l 11) (ci 0),t_ 52 <|.pick (.l 9) (.l 12) (cb false)]
def r275_5 : List Op := [f_ 53 <|.load (.v 5) (some 5) (.g 5),u_ <|.store (.v 10) 5 (.g 10) (.l 0),t_ 11 <|.mov (cb true)]
def r275_6 : List Op := [f_ 54 <|.load (.v 12) (some 17) (.g 12),f_ 55 <|.mov (.g 3),f_ 56 <|.call (.k 309) .no none [.l 0, .l 1],f_ 57 <|.un .not (.l 2),f_ 58 <|.mov (.l 3),n_ 59 4 <|.load (.v 13) (some 17) (.g 13),n_ 60 4 <|.fad (.g 13) 1,n_ 61 4 <|.load (.v 13) none (.l 6),n_ 62 4 <|.call (.k 309) .no none [.l 5, .l 7],n_ 63 4 <|.un .not (.l 8),f_ 64 <|.pick (.l 4) (cb true) (.l 9),f_ 65 <|.mov (.l 10),n_ 66 11 <|.mov (.g 4),n_ 67 11 <|.fad (.g 12) 1,n_ 68 11 <|.load (.v 12) none (.l 13),n_ 69 11 <|.bin .leq (.l 12) (.l 14),f_ 70 <|.pick (.l 11) (cb true) (.l 15),f_ 71 <|.mov (.l 16),n_ 72 17 <|.mov (.g 4),n_ 73 17 <|.fad (.g 13) 1,n_ 74 17 <|.load (.v 13) none (.l 19),n_ 75 17 <|.bin .leq (.l 18) (.l 20),f_ 76 <|.pick (.l 17) (cb true) (.l 21),f_ 77 <|.mov (.l 22),n_ 78 23 <|.fad (.g 12) 16,n_ 79 23 <|.load (.v 12) none (.l 24),n_ 80 23 <|.mov (.g 4),n_ 81 23 <|.bin .geq (.l 25) (.l 26),t_ 82 <|.pick (.l 23) (cb true) (.l 27)]
def r275_7 : List Op := [f_ 83 <|.load (.v 5) (some 5) (.g 5),u_ <|.store (.v 10) 5 (.g 10) (.l 0),t_ 11 <|.mov (cb false)]
def r275_8 : List Op := [f_ 85 <|.fad (.g 12) 2,f_ 86 <|.load (.v 12) (some 2) (.l 0),f_ 87 <|.fad (.g 13) 2,f_ 88 <|.load (.v 13) (some 2) (.l 2),f_ 89 <|.call (.k 311) .no none [.l 1, .l 3],f_ 84 <|.mov (.l 4),f_ 90 <|.ext (.l 5) 0,f_ 91 <|.ext (.l 5) 1,t_ 14 <|.alloc [.str [], .str []],u_ <|.store (.v 14) 2 (.l 8) (.l 6),t_ 15 <|.mov (.l 7)]
def r275_9 : List Op := [f_ 93 <|.fad (.g 12) 5,f_ 94 <|.load (.v 12) none (.l 0),f_ 95 <|.fad (.g 13) 5,f_ 96 <|.load (.v 13) none (.l 2),f_ 97 <|.call (.k 213) .no none [.l 1, .l 3],f_ 92 <|.mov (.l 4),f_ 98 <|.ext (.l 5) 0,f_ 99 <|.ext (.l 5) 1,t_ 16 <|.mov (.l 6),t_ 17 <|.mov (.l 7)]
def r275_10 : List Op := [f_ 101 <|.fad (.g 12) 12,f_ 102 <|.load (.v 12) none (.l 0),f_ 103 <|.fad (.g 13) 12,f_ 104 <|.load (.v 13) none (.l 2),f_ 105 <|.call (.k 91) .no none [.l 1, .l 3],f_ 100 <|.mov (.l 4),f_ 106 <|.ext (.l 5) 0,f_ 107 <|.ext (.l 5) 1,t_ 18 <|.mov (.l 6),t_ 19 <|.mov (.l 7)]
def r275_11 : List Op := [f_ 108 <|.mov (.g 15),f_ 109 <|.bin .neq (.l 0) (ci 0),f_ 110 <|.mov (.l 1),n_ 111 2 <|.mov (.g 17),n_ 112 2 <|.bin .neq (.l 3) (ci 0),f_ 113 <|.pick (.l 2) (cb true) (.l 4),f_ 114 <|.mov (.l 5),n_ 115 6 <|.mov (.g 19),n_ 116 6 <|.bin .neq (.l 7) (ci 0),t_ 117 <|.pick (.l 6) (cb true) (.l 8)]
def r275_12 : List Op := [f_ 118 <|.load (.v 5) (some 5) (.g 5),u_ <|.store (.v 10) 5 (.g 10) (.l 0),t_ 11 <|.mov (cb false)]
def r275_13 : List Op := [f_ 119 <|.load (.v 14) (some 2) (.g 14),f_ 120 <|.mov (.g 18),f_ 121 <|.mov (.g 4),f_ 122 <|.fad (.g 12) 2,u_ <|.store (.v 12) 2 (.l 3) (.l 0),f_ 123 <|.fad (.g 12) 12,u_ <|.store (.v 12) 1 (.l 5) (.l 1),f_ 124 <|.fad (.g 12) 1,u_ <|.store (.v 12) 1 (.l 7) (.l 2),f_ 125 <|.fad (.g 12) 15,u_ <|.store (.v 12) 1 (.l 9) (ci 0)]
def r275_14 : List Op := [f_ 126 <|.fad (.g 12) 6,f_ 127 <|.load (.v 12) (some 3) (.l 0),f_ 128 <|.fad (.g 13) 6,f_ 129 <|.load (.v 13) (some 3) (.l 2),f_ 130 <|.call (.k 21) .no none [.l 1, .l 3],f_ 131 <|.fad (.g 12) 6,u_ <|.store (.v 12) 3 (.l 5) (.l 4)]
def r275_15 : List Op := [f_ 132 <|.mov (.g 16),f_ 133 <|.fad (.g 12) 6,f_ 134 <|.load (.v 12) (some 3) (.l 1),f_ 135 <|.call (.k 217) .no none [.l 0, .l 2],f_ 136 <|.fad (.g 12) 5,u_ <|.store (.v 12) 1 (.l 4) (.l 3)]
def r275_16 : List Op := [f_ 137 <|.fad (.g 12) 14,f_ 138 <|.load (.v 12) none (.l 0),f_ 139 <|.fad (.g 13) 14,f_ 140 <|.load (.v 13) none (.l 2),f_ 141 <|.mm true (.l 1) (.l 3),f_ 142 <|.fad (.g 12) 16,f_ 143 <|.load (.v 12) none (.l 5),f_ 144 <|.fad (.g 13) 16,f_ 145 <|.load (.v 13) none (.l 7),f_ 146 <|.mm true (.l 6) (.l 8),f_ 147 <|.fad (.g 12) 14,u_ <|.store (.v 12) 1 (.l 10) (.l 4),f_ 148 <|.fad (.g 12) 16,u_ <|.store (.v 12) 1 (.l 12) (.l 9)]
def r275_17 : List Op := [f_ 149 <|.load (.v 5) (some 5) (.g 5),f_ 150 <|.load (.v 12) (some 17) (.g 12),f_ 151 <|.call (.k 304) .no none [.l 0, .l 1],f_ 152 <|.mov (.g 2),f_ 153 <|.call (.k 308) .no none [.l 2, .l 3],u_ <|.store (.v 10) 5 (.g 10) (.l 4),t_ 11 <|.mov (cb true)]
def c275 : C := .seq (.region false r275_0) (.seq (.seq (.region false r275_1) (.cond (.g 31) (.seq (.region false r275_2) (.ret)) (.skip))) (.seq (.region true r275_3) (.seq (.seq (.region false r275_4) (.cond (.g 52) (.seq (.region false r275_5) (.ret)) (.skip))) (.seq (.seq (.region false r275_6) (.cond (.g 82) (.seq (.region false r275_7) (.ret)) (.skip))) (.seq (.region false r275_8) (.seq (.region false r275_9) (.seq (.region false r275_10) (.seq (.seq (.region false r275_11) (.cond (.g 117) (.seq (.region false r275_12) (.ret)) (.skip))) (.seq (.region false r275_13) (.seq (.region false r275_14) (.seq (.region false r275_15) (.seq (.region true r275_16) (.seq (.region false r275_17) (.ret))))))))))))))
def F275 : F := ⟨5, [0, 1, 2, 3, 4, 5, 10, 11, 12, 13, 14, 15, 16, 17, 18, 19, 31, 52, 82, 117], [.cell 10 (some 5), .t 11], none, c275⟩
attribute [go_sem] r275_0 r275_1 r275_2 r275_3 r275_4 r275_5 r275_6 r275_7 r275_8 r275_9 r275_10 r275_11 r275_12 r275_13 r275_14 r275_15 r275_16 r275_17 c275 F275
def r278_0 : List Op := [t_ 2 <|.box (.g 0),t_ 4 <|.mov (cb false)]
def r278_1 : List Op := [t_ 5 <|.mov (ci 0)]
def r278_2 : List Op := [f_ 6 <|.mov (.g 5),f_ 7 <|.mov (.g 1),f_ 8 <|.len false (.l 1),f_ 9 <|.bin .lss (.l 0) (.l 2),f_ 10 <|.mov (.l 3),y_ 11 4 <|.mov (.g 5),y_ 12 4 <|.bin .lss (.l 5) (ci 40),t_ 13 <|.pick (.l 4) (.l 6) (cb false)]
def r278_3 : List Op := [f_ 16 <|.mov (.g 1),f_ 17 <|.mov (.g 5),f_ 18 <|.iad 21 (.l 0) (.l 1),f_ 19 <|.fad (.l 2) 8,f_ 20 <|.load (.c) none (.l 3),f_ 21 <|.len true (.l 4),t_ 22 <|.bin .gtr (.l 5) (ci 100)]
def r278_4 : List Op := [t_ 4 <|.mov (cb false)]
def r278_5 : List Op := [f_ 14 <|.mov (.g 5),f_ 15 <|.bin .add (.l 0) (ci 1),t_ 5 <|.mov (.l 1)]
def b278_0 : C := .seq (.seq (.region false r278_2) (.cond (.g 13) (.skip) (.exit 0))) (.seq (.block 1 (.seq (.region false r278_3) (.cond (.g 22) (.seq (.region false r278_4) (.ret)) (.skip)))) (.region false r278_5))
def l278_0 : C := .loop [] [] [] [] b278_0
def r278_6 : List Op := [f_ 23 <|.load (.v 2) (some 5) (.g 2),f_ 24 <|.call (.k 238) .no none [.l 0],t_ 4 <|.mov (.l 1)]
def c278 : C := .seq (.region false r278_0) (.seq (.seq (.region false r278_1) (.block 0 (l278_0))) (.seq (.region false r278_6) (.ret)))
def F278 : F := ⟨2, [0, 1, 2, 4, 5, 13, 22], [.t 4], none, c278⟩
attribute [go_sem] r278_0 r278_1 r278_2 r278_3 r278_4 r278_5 b278_0 r278_6 c278 F278
def r279_0 : List Op := [t_ 2 <|.box (.g 0),t_ 3 <|.box (.g 1),t_ 4 <|.alloc [.slice 17 [], .int .i64 0, .int .i64 0, .int .i64 0, .int .i64 0]]
def r279_1 : List Op := [f_ 5 <|.fad (.g 3) 0,f_ 6 <|.load (.v 3) none (.l 0),f_ 7 <|.conv (.int .u64) (.l 1),t_ 8 <|.bin .rem (.l 2) (.c (.int .u64 15))]
def r279_2 : List Op := [f_ 23 <|.bin .eql (.g 8) (.c (.int .u64 4)),t_ 22 <|.mov (.l 0)]
def r279_3 : List Op := [f_ 25 <|.load (.v 2) (some 5) (.g 2),f_ 26 <|.fad (.g 3) 1,f_ 27 <|.load (.v 3) none (.l 1),f_ 28 <|.fad (.g 3) 2,f_ 29 <|.load (.v 3) none (.l 3),f_ 30 <|.fad (.g 3) 3,f_ 31 <|.load (.v 3) none (.l 5),f_ 32 <|.call (.k 256) .no none [.l 0, .l 2, .l 4, .l 6],f_ 24 <|.mov (.l 7),f_ 33 <|.ext (.l 8) 0,f_ 34 <|.ext (.l 8) 1,u_ <|.store (.v 2) 5 (.g 2) (.l 9)]
def r279_4 : List Op := [f_ 36 <|.bin .eql (.g 8) (.c (.int .u64 5)),t_ 35 <|.mov (.l 0)]
def r279_5 : List Op := [f_ 38 <|.load (.v 2) (some 5) (.g 2),f_ 39 <|.fad (.g 3) 1,f_ 40 <|.load (.v 3) none (.l 1),f_ 41 <|.fad (.g 3) 3,f_ 42 <|.load (.v 3) none (.l 3),f_ 43 <|.fad (.g 3) 5,f_ 44 <|.load (.v 3) (some 3) (.l 5),f_ 45 <|.call (.k 258) .no none [.l 0, .l 2, .l 4, .l 6],f_ 37 <|.mov (.l 7),f_ 46 <|.ext (.l 8) 0,f_ 47 <|.ext (.l 8) 1,u_ <|.store (.v 2) 5 (.g 2) (.l 9)]
def r279_6 : List Op := [f_ 49 <|.bin .eql (.g 8) (.c (.int .u64 6)),t_ 48 <|.mov (.l 0)]
def r279_7 : List Op := [f_ 51 <|.load (.v 2) (some 5) (.g 2),f_ 52 <|.fad (.g 3) 1,f_ 53 <|.load (.v 3) none (.l 1),f_ 54 <|.fad (.g 3) 2,f_ 55 <|.load (.v 3) none (.l 3),f_ 56 <|.fad (.g 3) 3,f_ 57 <|.load (.v 3) none (.l 5),f_ 58 <|.call (.k 265) .no none [.l 0, .l 2, .l 4, .l 6],f_ 50 <|.mov (.l 7),f_ 59 <|.ext (.l 8) 0,f_ 60 <|.ext (.l 8) 1,u_ <|.store (.v 2) 5 (.g 2) (.l 9)]
def r279_8 : List Op := [f_ 62 <|.bin .eql (.g 8) (.c (.int .u64 7)),t_ 61 <|.mov (.l 0)]
def r279_9 : List Op := [f_ 64 <|.load (.v 2) (some 5) (.g 2),f_ 65 <|.fad (.g 3) 1,f_ 66 <|.load (.v 3) none (.l 1),f_ 67 <|.fad (.g 3) 3,f_ 68 <|.load (.v 3) none (.l 3),f_ 69 <|.call (.k 270) .no none [.l 0, .l 2, .l 4],f_ 63 <|.mov (.l 5),f_ 70 <|.ext (.l 6) 0,f_ 71 <|.ext (.l 6) 1,u_ <|.store (.v 2) 5 (.g 2) (.l 7)]
def r279_10 : List Op := [f_ 73 <|.bin .eql (.g 8) (.c (.int .u64 8)),t_ 72 <|.mov (.l 0)]
def r279_11 : List Op := [f_ 75 <|.load (.v 2) (some 5) (.g 2),f_ 76 <|.fad (.g 3) 1,f_ 77 <|.load (.v 3) none (.l 1),f_ 78 <|.fad (.g 3) 3,f_ 79 <|.load (.v 3) none (.l 3),f_ 80 <|.call (.k 267) .no none [.l 0, .l 2, .l 4],f_ 74 <|.mov (.l 5),f_ 81 <|.ext (.l 6) 0,f_ 82 <|.ext (.l 6) 1,u_ <|.store (.v 2) 5 (.g 2) (.l 7)]
def r279_12 : List Op := [f_ 84 <|.bin .eql (.g 8) (.c (.int .u64 9)),t_ 83 <|.mov (.l 0)]
def r279_13 : List Op := [f_ 86 <|.load (.v 2) (some 5) (.g 2),f_ 87 <|.fad (.g 3) 1,f_ 88 <|.load (.v 3) none (.l 1),f_ 89 <|.fad (.g 3) 3,f_ 90 <|.load (.v 3) none (.l 3),f_ 91 <|.fad (.g 3) 2,f_ 92 <|.load (.v 3) none (.l 5),f_ 93 <|.call (.k 266) .no none [.l 0, .l 2, .l 4, .l 6],f_ 85 <|.mov (.l 7),f_ 94 <|.ext (.l 8) 0,f_ 95 <|.ext (.l 8) 1,u_ <|.store (.v 2) 5 (.g 2) (.l 9)]
def r279_14 : List Op := [f_ 97 <|.bin .eql (.g 8) (.c (.int .u64 10)),t_ 96 <|.mov (.l 0)]
def r279_15 : List Op := [f_ 99 <|.load (.v 2) (some 5) (.g 2),f_ 100 <|.fad (.g 3) 1,f_ 101 <|.load (.v 3) none (.l 1),f_ 102 <|.fad (.g 3) 3,f_ 103 <|.load (.v 3) none (.l 3),f_ 104 <|.call (.k 271) .no none [.l 0, .l 2, .l 4],f_ 98 <|.mov (.l 5),f_ 105 <|.ext (.l 6) 0,f_ 106 <|.ext (.l 6) 1,u_ <|.store (.v 2) 5 (.g 2) (.l 7)]
def r279_16 : List Op := [f_ 108 <|.bin .eql (.g 8) (.c (.int .u64 11)),t_ 107 <|.mov (.l 0)]
def r279_17 : List Op := [f_ 110 <|.load (.v 2) (some 5) (.g 2),f_ 111 <|.fad (.g 3) 1,f_ 112 <|.load (.v 3) none (.l 1),f_ 113 <|.fad (.g 3) 2,f_ 114 <|.load (.v 3) none (.l 3),f_ 115 <|.fad (.g 3) 8,f_ 116 <|.load (.v 3) none (.l 5),f_ 117 <|.fad (.g 3) 4,f_ 118 <|.load (.v 3) none (.l 7),f_ 119 <|.fad (.g 3) 3,f_ 120 <|.load (.v 3) none (.l 9),f_ 121 <|.call (.k 273) .no none [.l 0, .l 2, .l 4, .l 6, .l 8, .l 10],f_ 109 <|.mov (.l 11),f_ 122 <|.ext (.l 12) 0,f_ 123 <|.ext (.l 12) 1,u_ <|.store (.v 2) 5 (.g 2) (.l 13)]
def r279_18 : List Op := [f_ 125 <|.bin .eql (.g 8) (.c (.int .u64 12)),t_ 124 <|.mov (.l 0)]
def r279_19 : List Op := [f_ 127 <|.load (.v 2) (some 5) (.g 2),f_ 128 <|.fad (.g 3) 1,f_ 129 <|.load (.v 3) none (.l 1),f_ 130 <|.fad (.g 3) 4,f_ 131 <|.load (.v 3) none (.l 3),f_ 132 <|.fad (.g 3) 2,f_ 133 <|.load (.v 3) none (.l 5),f_ 134 <|.fad (.g 3) 3,f_ 135 <|.load (.v 3) none (.l 7),f_ 136 <|.call (.k 275) .no none [.l 0, .l 2, .l 4, .l 6, .l 8],f_ 126 <|.mov (.l 9),f_ 137 <|.ext (.l 10) 0,f_ 138 <|.ext (.l 10) 1,u_ <|.store (.v 2) 5 (.g 2) (.l 11)]
def r279_20 : List Op := [f_ 140 <|.bin .eql (.g 8) (.c (.int .u64 13)),t_ 139 <|.mov (.l 0)]
def r279_21 : List Op := [f_ 141 <|.load (.v 2) (some 5) (.g 2),f_ 142 <|.fad (.g 3) 5,f_ 143 <|.load (.v 3) (some 3) (.l 1),f_ 144 <|.call (.k 261) .no none [.l 0, .l 2],u_ <|.store (.v 2) 5 (.g 2) (.l 3)]
def r279_22 : List Op := [f_ 146 <|.bin .eql (.g 8) (.c (.int .u64 14)),t_ 145 <|.mov (.l 0)]
def r279_23 : List Op := [f_ 147 <|.load (.v 2) (some 5) (.g 2),f_ 148 <|.fad (.g 3) 5,f_ 149 <|.load (.v 3) (some 3) (.l 1),f_ 150 <|.call (.k 262) .no none [.l 0, .l 2],u_ <|.store (.v 2) 5 (.g 2) (.l 3)]
def r279_24 : List Op := [f_ 10 <|.load (.v 2) (some 5) (.g 2),f_ 11 <|.fad (.g 3) 1,f_ 12 <|.load (.v 3) none (.l 1),f_ 13 <|.fad (.g 3) 2,f_ 14 <|.load (.v 3) none (.l 3),f_ 15 <|.fad (.g 3) 9,f_ 16 <|.load (.v 3) (some 12) (.l 5),f_ 17 <|.fad (.g 3) 5,f_ 18 <|.load (.v 3) (some 3) (.l 7),f_ 19 <|.call (.k 240) .no none [.l 0, .l 2, .l 4, .l 6, .l 8, .c (.int .i64 10)],f_ 9 <|.mov (.l 9),f_ 20 <|.ext (.l 10) 0,f_ 21 <|.ext (.l 10) 1,u_ <|.store (.v 2) 5 (.g 2) (.l 11)]
def r279_25 : List Op := [f_ 151 <|.load (.v 2) (some 5) (.g 2),u_ <|.store (.v 4) 5 (.g 4) (.l 0)]
def c279 : C := .seq (.region false r279_0) (.seq (.seq (.region false r279_1) (.block 0 (.seq (.region false r279_2) (.cond (.g 22) (.region false r279_3) (.seq (.region false r279_4) (.cond (.g 35) (.region false r279_5) (.seq (.region false r279_6) (.cond (.g 48) (.region false r279_7) (.seq (.region false r279_8) (.cond (.g 61) (.region false r279_9) (.seq (.region false r279_10) (.cond (.g 72) (.region false r279_11) (.seq (.region false r279_12) (.cond (.g 83) (.region false r279_13) (.seq (.region false r279_14) (.cond (.g 96) (.region false r279_15) (.seq (.region false r279_16) (.cond (.g 107) (.region false r279_17) (.seq (.region false r279_18) (.cond (.g 124) (.region false r279_19) (.seq (.region false r279_20) (.cond (.g 139) (.region false r279_21) (.seq (.region false r279_22) (.cond (.g 145) (.region false r279_23) (.region false r279_24))))))))))))))))))))))))) (.seq (.region false r279_25) (.ret)))
def F279 : F := ⟨2, [0, 1, 2, 3, 4, 8, 22, 35, 48, 61, 72, 83, 96, 107, 124, 139, 145], [.cell 4 (some 5)], none, c279⟩
attribute [go_sem] r279_0 r279_1 r279_2 r279_3 r279_4 r279_5 r279_6 r279_7 r279_8 r279_9 r279_10 r279_11 r279_12 r279_13 r279_14 r279_15 r279_16 r279_17 r279_18 r279_19 r279_20 r279_21 r279_22 r279_23 r279_24 r279_25 c279 F279
def r283_0 : List Op := [t_ 2 <|.alloc [.int .i64 0, .int .i64 0, .int .i64 0]]
def r283_1 : List Op := [f_ 3 <|.mov (.g 0),f_ 4 <|.build [.int .i64 0, .int .i64 0, .int .i64 0] [(0, 1, .l 0)],u_ <|.store (.v 2) 3 (.g 2) (.l 1)]
def c283 : C := .seq (.region false r283_0) (.seq (.region false r283_1) (.ret))
def F283 : F := ⟨1, [0, 2], [.cell 2 (some 3)], none, c283⟩
attribute [go_sem] r283_0 r283_1 c283 F283
def r284_0 : List Op := [t_ 2 <|.box (.g 0),t_ 4 <|.mov (cb false)]
def r284_1 : List Op := [f_ 5 <|.mov (.g 1),f_ 6 <|.fn 313 [.g 2] [2],f_ 7 <|.call (.k 67) .no none [.l 0, .l 1],f_ 8 <|.un .not (.l 2),t_ 4 <|.mov (.l 3)]
def c284 : C := .seq (.region false r284_0) (.seq (.region false r284_1) (.ret))
def F284 : F := ⟨2, [0, 1, 2, 4], [.t 4], none, c284⟩
attribute [go_sem] r284_0 r284_1 c284 F284
def r285_0 : List Op := [t_ 1 <|.box (.g 0),t_ 2 <|.mov (cb false)]
def r285_1 : List Op := [f_ 3 <|.fad (.g 1) 0,f_ 4 <|.load (.v 1) none (.l 0),f_ 5 <|.fad (.g 1) 1,f_ 6 <|.load (.v 1) none (.l 2),f_ 7 <|.mks 1 2 [.int .i64 0] [(0, .l 1), (1, .l 3)],f_ 8 <|.call (.k 284) .no none [.c (.int .i64 1), .l 4],f_ 9 <|.un .not (.l 5),f_ 10 <|.mov (.l 6),n_ 11 7 <|.fad (.g 1) 2,n_ 12 7 <|.load (.v 1) none (.l 8),n_ 13 7 <|.bin .lss (.l 9) (ci 1),f_ 14 <|.pick (.l 7) (cb true) (.l 10),f_ 15 <|.mov (.l 11),n_ 16 12 <|.fad (.g 1) 2,n_ 17 12 <|.load (.v 1) none (.l 13),n_ 18 12 <|.bin .gtr (.l 14) (ci 6),f_ 19 <|.pick (.l 12) (cb true) (.l 15),f_ 20 <|.mov (.l 16),n_ 21 17 <|.fad (.g 1) 4,n_ 22 17 <|.load (.v 1) none (.l 18),n_ 23 17 <|.len true (.l 19),n_ 24 17 <|.bin .gtr (.l 20) (ci 16),f_ 25 <|.pick (.l 17) (cb true) (.l 21),f_ 26 <|.mov (.l 22),n_ 27 23 <|.fad (.g 1) 6,n_ 28 23 <|.load (.v 1) none (.l 24),n_ 29 23 <|.len true (.l 25),n_ 30 23 <|.bin .gtr (.l 26) (ci 16),f_ 31 <|.pick (.l 23) (cb true) (.l 27),f_ 32 <|.mov (.l 28),n_ 33 29 <|.fad (.g 1) 11,n_ 34 29 <|.load (.v 1) none (.l 30),n_ 35 29 <|.bin .lss (.l 31) (ci 0),f_ 36 <|.pick (.l 29) (cb true) (.l 32),f_ 37 <|.mov (.l 33),n_ 38 34 <|.fad (.g 1) 11,n_ 39 34 <|.load (.v 1) none (.l 35),n_ 40 34 <|.bin .gtr (.l 36) (ci 8),f_ 41 <|.pick (.l 34) (cb true) (.l 37),f_ 42 <|.mov (.l 38),n_ 43 39 <|.fad (.g 1) 7,n_ 44 39 <|.load (.v 1) (some 3) (.l 40),n_ 45 39 <|.call (.k 28) .no none [.l 41],n_ 46 39 <|.un .not (.l 42),f_ 47 <|.pick (.l 39) (cb true) (.l 43),f_ 48 <|.mov (.l 44),n_ 49 45 <|.fad (.g 1) 10,n_ 50 45 <|.load (.v 1) none (.l 46),n_ 51 45 <|.bin .neq (.l 47) (.c (.str [])),n_ 52 45 <|.mov (.l 48),y_ 53 49 <|.fad (.g 1) 10,y_ 54 49 <|.load (.v 1) none (.l 50),y_ 55 49 <|.call (.k 170) .no none [.l 51],y_ 56 49 <|.un .not (.l 52),n_ 57 45 <|.pick (.l 49) (.l 53) (cb false),t_ 58 <|.pick (.l 45) (cb true) (.l 54)]
def r285_2 : List Op := [t_ 2 <|.mov (cb false)]
def r285_3 : List Op := [f_ 59 <|.fad (.g 1) 2,f_ 60 <|.load (.v 1) none (.l 0),t_ 61 <|.bin .eql (.l 1) (ci 6)]
def r285_4 : List Op := [f_ 62 <|.fad (.g 1) 3,f_ 63 <|.load (.v 1) none (.l 0),f_ 64 <|.bin .eql (.l 1) (.c (.str [])),f_ 65 <|.mov (.l 2),n_ 66 3 <|.fad (.g 1) 3,n_ 67 3 <|.load (.v 1) none (.l 4),n_ 68 3 <|.call (.k 170) .no none [.l 5],f_ 69 <|.pick (.l 3) (cb true) (.l 6),f_ 70 <|.mov (.l 7),y_ 71 8 <|.fad (.g 1) 11,y_ 72 8 <|.load (.v 1) none (.l 9),y_ 73 8 <|.bin .geq (.l 10) (ci 1),f_ 74 <|.pick (.l 8) (.l 11) (cb false),t_ 2 <|.mov (.l 12)]
def r285_5 : List Op := [f_ 75 <|.fad (.g 1) 3,f_ 76 <|.load (.v 1) none (.l 0),f_ 77 <|.call (.k 170) .no none [.l 1],t_ 2 <|.mov (.l 2)]
def c285 : C := .seq (.region false r285_0) (.seq (.seq (.region false r285_1) (.cond (.g 58) (.seq (.region false r285_2) (.ret)) (.skip))) (.seq (.seq (.region false r285_3) (.cond (.g 61) (.seq (.region false r285_4) (.ret)) (.skip))) (.seq (.region false r285_5) (.ret))))
def F285 : F := ⟨1, [0, 1, 2, 58, 61], [.t 2], none, c285⟩
attribute [go_sem] r285_0 r285_1 r285_2 r285_3 r285_4 r285_5 c285 F285
def r286_0 : List Op := [t_ 2 <|.alloc [.int .i64 0, .int .i64 0, .int .i64 0, .int .i64 0, .bool false, .str [], .slice 2 [], .str [], .bool false]]
def r286_1 : List Op := [f_ 3 <|.mov (.g 0),f_ 4 <|.build [.int .i64 0, .int .i64 0, .int .i64 0, .int .i64 0, .bool false, .str [], .slice 2 [], .str [], .bool false] [(0, 1, .l 0)],u_ <|.store (.v 2) 9 (.g 2) (.l 1)]
def c286 : C := .seq (.region false r286_0) (.seq (.region false r286_1) (.ret))
def F286 : F := ⟨1, [0, 2], [.cell 2 (some 9)], none, c286⟩
attribute [go_sem] r286_0 r286_1 c286 F286
def r287_0 : List Op := [t_ 2 <|.box (.g 0),t_ 4 <|.alloc [.int .i64 0, .int .i64 0, .str [], .str [], .int .i64 0, .slice 2 [], .int .i64 0, .int .i64 0, .int .i64 0, .int .i64 0, .int .i64 0, .int .i64 0, .slice 11 [], .int .i64 0, .int .i64 0, .int .i64 0, .int .i64 0]]
def r287_1 : List Op := [f_ 8 <|.load (.v 2) (some 5) (.g 2),f_ 9 <|.mov (.g 1),f_ 10 <|.call (.k 314) .no none [.l 0, .l 1],f_ 7 <|.mov (.l 2),f_ 11 <|.ext (.l 3) 0,f_ 12 <|.ext (.l 3) 1,t_ 5 <|.mov (.l 4),t_ 6 <|.mov (.l 5)]
def r287_2 : List Op := [t_ 13 <|.mov (.g 6)]
def r287_3 : List Op := [f_ 14 <|.fad (.g 2) 0,f_ 15 <|.load (.v 2) none (.l 0),f_ 16 <|.mov (.g 5),f_ 17 <|.iad 17 (.l 1) (.l 2),f_ 18 <|.load (.c) (some 17) (.l 3),u_ <|.store (.v 4) 17 (.g 4) (.l 4)]
def r287_4 : List Op := [f_ 19 <|.build [.int .i64 0, .int .i64 0, .str [], .str [], .int .i64 0, .slice 2 [], .int .i64 0, .int .i64 0, .int .i64 0, .int .i64 0, .int .i64 0, .int .i64 0, .slice 11 [], .int .i64 0, .int .i64 0, .int .i64 0, .int .i64 0] [],u_ <|.store (.v 4) 17 (.g 4) (.l 0)]
def c287 : C := .seq (.region false r287_0) (.seq (.seq (.region false r287_1) (.seq (.region false r287_2) (.cond (.g 13) (.seq (.region false r287_3) (.ret)) (.skip)))) (.seq (.region false r287_4) (.ret)))
def F287 : F := ⟨2, [0, 1, 2, 4, 5, 6, 13], [.cell 4 (some 17)], none, c287⟩
attribute [go_sem] r287_0 r287_1 r287_2 r287_3 r287_4 c287 F287
def r288_0 : List Op := [t_ 1 <|.box (.g 0),t_ 2 <|.mov (cb false)]
def r288_1 : List Op := [f_ 3 <|.fad (.g 1) 2,f_ 4 <|.load (.v 1) none (.l 0),f_ 5 <|.bin .eql (.l 1) (ci 1),f_ 6 <|.mov (.l 2),n_ 7 3 <|.fad (.g 1) 2,n_ 8 3 <|.load (.v 1) none (.l 4),n_ 9 3 <|.bin .eql (.l 5) (ci 2),f_ 10 <|.pick (.l 3) (cb true) (.l 6),f_ 11 <|.mov (.l 7),n_ 12 8 <|.fad (.g 1) 2,n_ 13 8 <|.load (.v 1) none (.l 9),n_ 14 8 <|.bin .eql (.l 10) (ci 3),f_ 15 <|.pick (.l 8) (cb true) (.l 11),t_ 2 <|.mov (.l 12)]
def c288 : C := .seq (.region false r288_0) (.seq (.region false r288_1) (.ret))
def F288 : F := ⟨1, [0, 1, 2], [.t 2], none, c288⟩
attribute [go_sem] r288_0 r288_1 c288 F288
def r289_0 : List Op := [t_ 4 <|.box (.g 0),t_ 5 <|.box (.g 1),t_ 6 <|.box (.g 2),t_ 7 <|.box (.g 3),t_ 8 <|.alloc [.slice 17 [], .int .i64 0, .int .i64 0, .int .i64 0, .int .i64 0],t_ 9 <|.alloc [.int .i64 0, .int .i64 0, .int .i64 0, .int .i64 0, .bool false, .str [], .slice 2 [], .str [], .bool false]]
def r289_1 : List Op := [f_ 15 <|.fad (.g 5) 12,f_ 16 <|.load (.v 5) none (.l 0),f_ 17 <|.fad (.g 6) 0,f_ 18 <|.load (.v 6) none (.l 2),f_ 19 <|.fad (.g 6) 1,f_ 20 <|.load (.v 6) none (.l 4),t_ 21 <|.call (.k 82) .no none [.l 1, .l 3, .l 5]]
def r289_2 : List Op := [f_ 23 <|.bin .eql (.g 21) (ci 2),t_ 22 <|.mov (.l 0)]
def r289_3 : List Op := [f_ 25 <|.fad (.g 5) 12,f_ 26 <|.load (.v 5) none (.l 0),f_ 27 <|.fad (.g 6) 0,f_ 28 <|.load (.v 6) none (.l 2),f_ 29 <|.call (.k 84) .no none [.l 1, .l 3],f_ 24 <|.mov (.l 4),f_ 30 <|.ext (.l 5) 0,f_ 31 <|.ext (.l 5) 1,t_ 10 <|.alloc [.int .i64 0, .int .i64 0, .int .i64 0, .int .i64 0, .int .i64 0, .int .i64 0, .bool false, .str [], .slice 2 [], .str [], .bool false],u_ <|.store (.v 10) 11 (.l 8) (.l 6),f_ 11 <|.mov (.l 7)]
def r289_4 : List Op := [f_ 32 <|.load (.v 4) (some 5) (.g 4),f_ 33 <|.fad (.g 10) 2,f_ 34 <|.load (.v 10) (some 9) (.l 1),u_ <|.store (.v 8) 5 (.g 8) (.l 0),u_ <|.store (.v 9) 9 (.g 9) (.l 2)]
def r289_5 : List Op := [f_ 36 <|.bin .eql (.g 21) (ci 3),t_ 35 <|.mov (.l 0)]
def r289_6 : List Op := [f_ 37 <|.load (.v 4) (some 5) (.g 4),f_ 38 <|.call (.k 286) .no none [.c (.int .i64 10)],u_ <|.store (.v 8) 5 (.g 8) (.l 0),u_ <|.store (.v 9) 9 (.g 9) (.l 1)]
def r289_7 : List Op := [f_ 39 <|.load (.v 7) (some 3) (.g 7),f_ 40 <|.fad (.g 4) 1,f_ 41 <|.load (.v 4) (some 3) (.l 1),f_ 42 <|.call (.k 15) .no none [.l 0, .l 2],t_ 43 <|.bin .leq (.l 3) (ci 0)]
def r289_8 : List Op := [f_ 44 <|.load (.v 4) (some 5) (.g 4),f_ 45 <|.call (.k 286) .no none [.c (.int .i64 1)],u_ <|.store (.v 8) 5 (.g 8) (.l 0),u_ <|.store (.v 9) 9 (.g 9) (.l 1)]
def r289_9 : List Op := [f_ 46 <|.load (.v 4) (some 5) (.g 4),f_ 47 <|.load (.v 5) (some 17) (.g 5),f_ 48 <|.fad (.g 6) 3,f_ 49 <|.load (.v 6) none (.l 2),f_ 50 <|.call (.k 290) .no none [.l 0, .l 1, .l 3],t_ 12 <|.alloc [.int .i64 0, .int .i64 0, .int .i64 0, .int .i64 0, .bool false, .str [], .slice 2 [], .str [], .bool false],u_ <|.store (.v 12) 9 (.l 5) (.l 4)]
def r289_10 : List Op := [f_ 51 <|.load (.v 7) (some 3) (.g 7),f_ 52 <|.fad (.g 12) 4,f_ 53 <|.load (.v 12) none (.l 1),f_ 54 <|.build [.int .i64 0, .int .i64 0, .int .i64 0, .int .i64 0, .bool false, .str [], .slice 2 [], .str [], .bool false] [(1, 3, .l 0), (4, 1, .l 2)],t_ 13 <|.alloc [.int .i64 0, .int .i64 0, .int .i64 0, .int .i64 0, .bool false, .str [], .slice 2 [], .str [], .bool false],u_ <|.store (.v 13) 9 (.l 4) (.l 3)]
def r289_11 : List Op := [t_ 14 <|.mov (ci 0)]
def r289_12 : List Op := [f_ 56 <|.fad (.g 6) 2,f_ 57 <|.load (.v 6) none (.l 0),f_ 58 <|.bin .eql (.l 1) (ci 3),f_ 59 <|.mov (.l 2),y_ 60 3 <|.fad (.g 12) 4,y_ 61 3 <|.load (.v 12) none (.l 4),y_ 62 3 <|.fad (.g 6) 5,y_ 63 3 <|.load (.v 6) none (.l 6),y_ 64 3 <|.eqb true (.l 5) (.l 7),y_ 65 3 <|.mov (.l 8),n_ 66 9 <|.fad (.g 12) 4,n_ 67 9 <|.load (.v 12) none (.l 10),n_ 68 9 <|.mov (.l 11),y_ 69 12 <|.fad (.g 12) 5,y_ 70 12 <|.load (.v 12) none (.l 13),y_ 71 12 <|.fad (.g 6) 6,y_ 72 12 <|.load (.v 6) none (.l 15),y_ 73 12 <|.bin .neq (.l 14) (.l 16),n_ 74 9 <|.pick (.l 12) (.l 17) (cb false),y_ 75 3 <|.pick (.l 9) (cb true) (.l 18),f_ 76 <|.pick (.l 3) (.l 19) (cb false),t_ 55 <|.mov (.l 20)]
def r289_13 : List Op := [f_ 77 <|.fad (.g 12) 5,f_ 78 <|.load (.v 12) none (.l 0),f_ 79 <|.fad (.g 13) 0,u_ <|.store (.v 13) 1 (.l 2) (ci 15),f_ 80 <|.fad (.g 13) 5,u_ <|.store (.v 13) 1 (.l 4) (.l 1)]
def r289_14 : List Op := [f_ 82 <|.fad (.g 6) 2,f_ 83 <|.load (.v 6) none (.l 0),f_ 84 <|.bin .neq (.l 1) (ci 2),t_ 81 <|.mov (.l 2)]
def r289_15 : List Op := [f_ 86 <|.fad (.g 5) 5,f_ 87 <|.load (.v 5) none (.l 0),f_ 88 <|.fad (.g 6) 3,f_ 89 <|.load (.v 6) none (.l 2),f_ 90 <|.load (.v 7) (some 3) (.g 7),f_ 91 <|.fad (.g 6) 4,f_ 92 <|.load (.v 6) none (.l 5),f_ 93 <|.build [.int .i64 0, .int .i64 0, .int .i64 0, .bool false, .str []] [(0, 3, .l 4), (4, 1, .l 6)],f_ 94 <|.call (.k 200) .no none [.l 1, .l 3, .l 7],f_ 85 <|.mov (.l 8),f_ 95 <|.ext (.l 9) 0,f_ 96 <|.ext (.l 9) 1,f_ 97 <|.fad (.g 5) 5,u_ <|.store (.v 5) 1 (.l 12) (.l 10),t_ 14 <|.mov (.l 11)]
def r289_16 : List Op := [f_ 99 <|.fad (.g 12) 4,f_ 100 <|.load (.v 12) none (.l 0),t_ 98 <|.mov (.l 1)]
def r289_17 : List Op := [f_ 102 <|.fad (.g 5) 5,f_ 103 <|.load (.v 5) none (.l 0),f_ 104 <|.fad (.g 6) 3,f_ 105 <|.load (.v 6) none (.l 2),f_ 106 <|.load (.v 7) (some 3) (.g 7),f_ 107 <|.build [.int .i64 0, .int .i64 0, .int .i64 0, .bool false, .str []] [(0, 3, .l 4), (3, 1, .c (.bool true))],f_ 108 <|.call (.k 200) .no none [.l 1, .l 3, .l 5],f_ 101 <|.mov (.l 6),f_ 109 <|.ext (.l 7) 0,f_ 110 <|.ext (.l 7) 1,f_ 111 <|.fad (.g 5) 5,u_ <|.store (.v 5) 1 (.l 10) (.l 8),t_ 14 <|.mov (.l 9)]
def r289_18 : List Op := [f_ 112 <|.mov (.g 14),t_ 113 <|.bin .neq (.l 0) (ci 0)]
def r289_19 : List Op := [f_ 114 <|.load (.v 4) (some 5) (.g 4),f_ 115 <|.mov (.g 14),f_ 116 <|.call (.k 286) .no none [.l 1],u_ <|.store (.v 8) 5 (.g 8) (.l 0),u_ <|.store (.v 9) 9 (.g 9) (.l 2)]
def r289_20 : List Op := [f_ 118 <|.fad (.g 5) 12,f_ 119 <|.load (.v 5) none (.l 0),f_ 120 <|.fad (.g 6) 0,f_ 121 <|.load (.v 6) none (.l 2),f_ 122 <|.fad (.g 6) 1,f_ 123 <|.load (.v 6) none (.l 4),f_ 124 <|.load (.v 13) (some 9) (.g 13),f_ 125 <|.build [.int .i64 0, .int .i64 0, .int .i64 0, .int .i64 0, .int .i64 0, .int .i64 0, .bool false, .str [], .slice 2 [], .str [], .bool false] [(0, 1, .l 3), (1, 1, .l 5), (2, 9, .l 6)],f_ 126 <|.call (.k 88) .no none [.l 1, .l 7],f_ 117 <|.mov (.l 8),f_ 127 <|.ext (.l 9) 0,f_ 128 <|.ext (.l 9) 1,f_ 129 <|.fad (.g 5) 12,u_ <|.store (.v 5) 1 (.l 12) (.l 10),t_ 14 <|.mov (.l 11)]
def r289_21 : List Op := [f_ 130 <|.mov (.g 14),t_ 131 <|.bin .neq (.l 0) (ci 0)]
def r289_22 : List Op := [f_ 132 <|.load (.v 4) (some 5) (.g 4),f_ 133 <|.mov (.g 14),f_ 134 <|.call (.k 286) .no none [.l 1],u_ <|.store (.v 8) 5 (.g 8) (.l 0),u_ <|.store (.v 9) 9 (.g 9) (.l 2)]
def r289_23 : List Op := [f_ 135 <|.load (.v 4) (some 5) (.g 4),f_ 136 <|.load (.v 5) (some 17) (.g 5),f_ 137 <|.call (.k 304) .no none [.l 0, .l 1],u_ <|.store (.v 4) 5 (.g 4) (.l 2)]
def r289_24 : List Op := [f_ 138 <|.load (.v 7) (some 3) (.g 7),f_ 139 <|.fad (.g 4) 1,u_ <|.store (.v 4) 3 (.l 1) (.l 0)]
def r289_25 : List Op := [f_ 140 <|.load (.v 4) (some 5) (.g 4),f_ 141 <|.load (.v 13) (some 9) (.g 13),u_ <|.store (.v 8) 5 (.g 8) (.l 0),u_ <|.store (.v 9) 9 (.g 9) (.l 1)]
def c289 : C := .seq (.region false r289_0) (.seq (.seq (.region false r289_1) (.block 0 (.seq (.region false r289_2) (.cond (.g 22) (.seq (.region false r289_3) (.seq (.region true r289_4) (.ret))) (.seq (.region false r289_5) (.cond (.g 35) (.seq (.region true r289_6) (.ret)) (.skip))))))) (.seq (.seq (.region false r289_7) (.cond (.g 43) (.seq (.region true r289_8) (.ret)) (.skip))) (.seq (.region false r289_9) (.seq (.region false r289_10) (.seq (.region false r289_11) (.seq (.block 1 (.seq (.region false r289_12) (.cond (.g 55) (.region true r289_13) (.seq (.region false r289_14) (.cond (.g 81) (.region false r289_15) (.seq (.region false r289_16) (.cond (.g 98) (.region false r289_17) (.skip)))))))) (.seq (.seq (.region false r289_18) (.cond (.g 113) (.seq (.region true r289_19) (.ret)) (.skip))) (.seq (.seq (.region false r289_20) (.seq (.region false r289_21) (.cond (.g 131) (.seq (.region true r289_22) (.ret)) (.skip)))) (.seq (.region false r289_23) (.seq (.region false r289_24) (.seq (.region true r289_25) (.ret))))))))))))
def F289 : F := ⟨4, [0, 1, 2, 3, 4, 5, 6, 7, 8, 9, 10, 12, 13, 14, 21, 22, 35, 43, 55, 81, 98, 113, 131], [.cell 8 (some 5), .cell 9 (some 9)], none, c289⟩
attribute [go_sem] r289_0 r289_1 r289_2 r289_3 r289_4 r289_5 r289_6 r289_7 r289_8 r289_9 r289_10 r289_11 r289_12 r289_13 r289_14 r289_15 r289_16 r289_17 r289_18 r289_19 r289_20 r289_21 r289_22 r289_23 r289_24 r289_25 c289 F289
def r290_0 : List Op := [t_ 3 <|.box (.g 0),t_ 4 <|.box (.g 1),t_ 6 <|.alloc [.int .i64 0, .int .i64 0, .int .i64 0, .int .i64 0, .bool false, .str [], .slice 2 [], .str [], .bool false]]
def r290_1 : List Op := [f_ 10 <|.fad (.g 4) 5,f_ 11 <|.load (.v 4) none (.l 0),f_ 12 <|.mov (.g 2),f_ 13 <|.fad (.g 3) 1,f_ 14 <|.load (.v 3) (some 3) (.l 3),f_ 15 <|.call (.k 312) .no none [.l 1, .l 2, .l 4],f_ 9 <|.mov (.l 5),f_ 16 <|.ext (.l 6) 0,f_ 17 <|.ext (.l 6) 1,t_ 7 <|.alloc [.int .i64 0, .int .i64 0, .int .i64 0, .bool false, .str []],u_ <|.store (.v 7) 5 (.l 9) (.l 7),t_ 8 <|.mov (.l 8)]
def r290_2 : List Op := [f_ 18 <|.fad (.g 7) 0,f_ 19 <|.load (.v 7) (some 3) (.l 0),f_ 20 <|.mov (.g 8),f_ 21 <|.mov (.l 2),y_ 22 3 <|.fad (.g 7) 3,y_ 23 3 <|.load (.v 7) none (.l 4),y_ 24 3 <|.un .not (.l 5),f_ 25 <|.pick (.l 3) (.l 6) (cb false),f_ 26 <|.fad (.g 7) 4,f_ 27 <|.load (.v 7) none (.l 8),f_ 28 <|.build [.int .i64 0, .int .i64 0, .int .i64 0, .int .i64 0, .bool false, .str [], .slice 2 [], .str [], .bool false] [(1, 3, .l 1), (4, 1, .l 7), (5, 1, .l 9)],u_ <|.store (.v 6) 9 (.g 6) (.l 10)]
def c290 : C := .seq (.region false r290_0) (.seq (.region false r290_1) (.seq (.region false r290_2) (.ret)))
def F290 : F := ⟨3, [0, 1, 2, 3, 4, 6, 7, 8], [.cell 6 (some 9)], none, c290⟩
attribute [go_sem] r290_0 r290_1 r290_2 c290 F290
def r291_0 : List Op := [t_ 4 <|.box (.g 0),t_ 5 <|.box (.g 1),t_ 6 <|.box (.g 2),t_ 8 <|.alloc [.slice 17 [], .int .i64 0, .int .i64 0, .int .i64 0, .int .i64 0],t_ 9 <|.alloc [.int .i64 0, .int .i64 0, .int .i64 0, .int .i64 0, .bool false, .str [], .slice 2 [], .str [], .bool false]]
def r291_1 : List Op := [f_ 16 <|.fad (.g 6) 7,f_ 17 <|.load (.v 6) (some 3) (.l 0),f_ 18 <|.fad (.g 5) 6,f_ 19 <|.load (.v 5) (some 3) (.l 2),f_ 20 <|.call (.k 15) .no none [.l 1, .l 3],f_ 21 <|.bin .lss (.l 4) (ci 0),t_ 15 <|.mov (.l 5)]
def r291_2 : List Op := [f_ 22 <|.load (.v 4) (some 5) (.g 4),f_ 23 <|.call (.k 286) .no none [.c (.int .i64 13)],u_ <|.store (.v 8) 5 (.g 8) (.l 0),u_ <|.store (.v 9) 9 (.g 9) (.l 1)]
def r291_3 : List Op := [f_ 25 <|.fad (.g 6) 7,f_ 26 <|.fad (.l 0) 0,f_ 27 <|.load (.v 6) none (.l 1),f_ 28 <|.bin .sub (.l 2) (ci 1000),f_ 29 <|.mov (.g 3),f_ 30 <|.bin .gtr (.l 3) (.l 4),t_ 24 <|.mov (.l 5)]
def r291_4 : List Op := [f_ 31 <|.load (.v 4) (some 5) (.g 4),f_ 32 <|.call (.k 286) .no none [.c (.int .i64 12)],u_ <|.store (.v 8) 5 (.g 8) (.l 0),u_ <|.store (.v 9) 9 (.g 9) (.l 1)]
def r291_5 : List Op := [f_ 33 <|.fad (.g 4) 1,f_ 34 <|.load (.v 4) (some 3) (.l 0),f_ 35 <|.fad (.g 6) 7,f_ 36 <|.load (.v 6) (some 3) (.l 2),f_ 37 <|.call (.k 21) .no none [.l 1, .l 3],f_ 38 <|.fad (.g 4) 1,u_ <|.store (.v 4) 3 (.l 5) (.l 4)]
def r291_6 : List Op := [f_ 39 <|.fad (.g 6) 7,f_ 40 <|.load (.v 6) (some 3) (.l 0),f_ 41 <|.build [.int .i64 0, .int .i64 0, .int .i64 0, .int .i64 0, .bool false, .str [], .slice 2 [], .str [], .bool false] [(1, 3, .l 1)],t_ 10 <|.alloc [.int .i64 0, .int .i64 0, .int .i64 0, .int .i64 0, .bool false, .str [], .slice 2 [], .str [], .bool false],u_ <|.store (.v 10) 9 (.l 3) (.l 2)]
def r291_7 : List Op := [f_ 42 <|.fad (.g 6) 2,f_ 43 <|.load (.v 6) none (.l 0),t_ 44 <|.bin .eql (.l 1) (ci 5)]
def r291_8 : List Op := [f_ 46 <|.fad (.g 5) 5,f_ 47 <|.load (.v 5) none (.l 0),f_ 48 <|.fad (.g 6) 3,f_ 49 <|.load (.v 6) none (.l 2),f_ 50 <|.fad (.g 6) 7,f_ 51 <|.load (.v 6) (some 3) (.l 4),f_ 52 <|.call (.k 312) .no none [.l 1, .l 3, .l 5],f_ 45 <|.mov (.l 6),f_ 53 <|.ext (.l 7) 0,f_ 54 <|.ext (.l 7) 1,t_ 11 <|.alloc [.int .i64 0, .int .i64 0, .int .i64 0, .bool false, .str []],u_ <|.store (.v 11) 5 (.l 10) (.l 8),t_ 12 <|.mov (.l 9)]
def r291_9 : List Op := [f_ 55 <|.mov (.g 12),f_ 56 <|.mov (.l 0),y_ 57 1 <|.fad (.g 11) 3,y_ 58 1 <|.load (.v 11) none (.l 2),y_ 59 1 <|.un .not (.l 3),f_ 60 <|.pick (.l 1) (.l 4) (cb false),f_ 61 <|.fad (.g 11) 4,f_ 62 <|.load (.v 11) none (.l 6),f_ 63 <|.fad (.g 10) 4,u_ <|.store (.v 10) 1 (.l 8) (.l 5),f_ 64 <|.fad (.g 10) 5,u_ <|.store (.v 10) 1 (.l 10) (.l 7)]
def r291_10 : List Op := [f_ 65 <|.load (.v 4) (some 5) (.g 4),f_ 66 <|.load (.v 10) (some 9) (.g 10),u_ <|.store (.v 8) 5 (.g 8) (.l 0),u_ <|.store (.v 9) 9 (.g 9) (.l 1)]
def r291_11 : List Op := [f_ 67 <|.fad (.g 6) 10,f_ 68 <|.load (.v 6) none (.l 0),t_ 13 <|.mov (.l 1)]
def r291_12 : List Op := [f_ 69 <|.fad (.g 5) 2,f_ 70 <|.fad (.l 0) 1,f_ 71 <|.load (.v 5) none (.l 1),f_ 72 <|.bin .neq (.l 2) (.c (.str [])),f_ 73 <|.mov (.l 3),y_ 74 4 <|.mov (.g 13),y_ 75 4 <|.bin .eql (.l 5) (.c (.str [])),y_ 76 4 <|.mov (.l 6),n_ 77 7 <|.fad (.g 5) 2,n_ 78 7 <|.fad (.l 8) 1,n_ 79 7 <|.load (.v 5) none (.l 9),n_ 80 7 <|.mov (.g 13),n_ 81 7 <|.call (.k 192) .no none [.l 10, .l 11],n_ 82 7 <|.bin .lss (.l 12) (ci 0),y_ 83 4 <|.pick (.l 7) (cb true) (.l 13),f_ 84 <|.pick (.l 4) (.l 14) (cb false),t_ 14 <|.mov (.l 15)]
def r291_13 : List Op := [t_ 85 <|.mov (.g 14)]
def r291_14 : List Op := [f_ 86 <|.fad (.g 5) 2,f_ 87 <|.fad (.l 0) 1,f_ 88 <|.load (.v 5) none (.l 1),t_ 13 <|.mov (.l 2)]
def r291_15 : List Op := [f_ 90 <|.fad (.g 5) 5,f_ 91 <|.load (.v 5) none (.l 0),f_ 92 <|.fad (.g 6) 3,f_ 93 <|.load (.v 6) none (.l 2),f_ 94 <|.mov (.g 13),f_ 95 <|.fad (.g 6) 7,f_ 96 <|.load (.v 6) (some 3) (.l 5),f_ 97 <|.fad (.g 6) 11,f_ 98 <|.load (.v 6) none (.l 7),f_ 99 <|.call (.k 206) .no none [.l 1, .l 3, .l 4, .l 6, .l 8],f_ 89 <|.mov (.l 9),f_ 100 <|.ext (.l 10) 0,f_ 101 <|.ext (.l 10) 1,f_ 102 <|.ext (.l 10) 2,f_ 103 <|.fad (.g 10) 6,u_ <|.store (.v 10) 1 (.l 14) (.l 11),f_ 104 <|.fad (.g 10) 7,u_ <|.store (.v 10) 1 (.l 16) (.l 12),f_ 105 <|.fad (.g 10) 8,u_ <|.store (.v 10) 1 (.l 18) (.l 13)]
def r291_16 : List Op := [f_ 106 <|.mov (.g 14),f_ 107 <|.mov (.l 0),y_ 108 1 <|.fad (.g 10) 8,y_ 109 1 <|.load (.v 10) none (.l 2),y_ 110 1 <|.un .not (.l 3),t_ 111 <|.pick (.l 1) (.l 4) (cb false)]
def r291_17 : List Op := [f_ 112 <|.mov (.g 13),f_ 113 <|.fad (.g 10) 7,u_ <|.store (.v 10) 1 (.l 1) (.l 0),f_ 114 <|.fad (.g 10) 8,u_ <|.store (.v 10) 1 (.l 3) (cb true)]
def r291_18 : List Op := [f_ 115 <|.load (.v 4) (some 5) (.g 4),f_ 116 <|.load (.v 10) (some 9) (.g 10),u_ <|.store (.v 8) 5 (.g 8) (.l 0),u_ <|.store (.v 9) 9 (.g 9) (.l 1)]
def c291 : C := .seq (.region false r291_0) (.seq (.block 0 (.seq (.region false r291_1) (.cond (.g 15) (.seq (.region true r291_2) (.ret)) (.seq (.region false r291_3) (.cond (.g 24) (.seq (.region true r291_4) (.ret)) (.skip)))))) (.seq (.region false r291_5) (.seq (.region false r291_6) (.seq (.seq (.region false r291_7) (.cond (.g 44) (.seq (.region false r291_8) (.seq (.region true r291_9) (.seq (.region true r291_10) (.ret)))) (.skip))) (.seq (.region false r291_11) (.seq (.region false r291_12) (.seq (.seq (.region false r291_13) (.cond (.g 85) (.region false r291_14) (.skip))) (.seq (.region false r291_15) (.seq (.seq (.region false r291_16) (.cond (.g 111) (.region false r291_17) (.skip))) (.seq (.region true r291_18) (.ret)))))))))))
def F291 : F := ⟨4, [0, 1, 2, 3, 4, 5, 6, 8, 9, 10, 11, 12, 13, 14, 15, 24, 44, 85, 111], [.cell 8 (some 5), .cell 9 (some 9)], none, c291⟩
attribute [go_sem] r291_0 r291_1 r291_2 r291_3 r291_4 r291_5 r291_6 r291_7 r291_8 r291_9 r291_10 r291_11 r291_12 r291_13 r291_14 r291_15 r291_16 r291_17 r291_18 c291 F291
def r298_0 : List Op := [t_ 2 <|.box (.g 0),t_ 3 <|.mov (cb false)]
def r298_1 : List Op := [f_ 4 <|.fad (.g 1) 2,f_ 5 <|.load (.c) (some 2) (.l 0),f_ 6 <|.fad (.g 2) 0,f_ 7 <|.load (.v 2) none (.l 2),f_ 8 <|.call (.k 171) .no none [.l 1, .l 3],f_ 9 <|.un .not (.l 4),t_ 3 <|.mov (.l 5)]
def c298 : C := .seq (.region false r298_0) (.seq (.region false r298_1) (.ret))
def F298 : F := ⟨2, [0, 1, 2, 3], [.t 3], none, c298⟩
attribute [go_sem] r298_0 r298_1 c298 F298
def r299_0 : List Op := [t_ 4 <|.mov (cb false)]
def r299_1 : List Op := [f_ 5 <|.mov (.g 0),f_ 6 <|.mov (.g 1),f_ 7 <|.call (.k 315) .no none [.l 0, .l 1],f_ 8 <|.bin .geq (.l 2) (ci 0),t_ 4 <|.mov (.l 3)]
def c299 : C := .seq (.region false r299_0) (.seq (.region false r299_1) (.ret))
def F299 : F := ⟨2, [0, 1, 4], [.t 4], none, c299⟩
attribute [go_sem] r299_0 r299_1 c299 F299
def r301_0 : List Op := [t_ 2 <|.box (.g 0),t_ 3 <|.box (.g 1),t_ 4 <|.mov (cb false)]
def r301_1 : List Op := [f_ 5 <|.fad (.g 2) 5,f_ 6 <|.load (.v 2) none (.l 0),f_ 7 <|.fn 316 [.g 3] [3],f_ 8 <|.call (.k 299) .no none [.l 1, .l 2],f_ 9 <|.un .not (.l 3),t_ 4 <|.mov (.l 4)]
def c301 : C := .seq (.region false r301_0) (.seq (.region false r301_1) (.ret))
def F301 : F := ⟨2, [0, 1, 2, 3, 4], [.t 4], none, c301⟩
attribute [go_sem] r301_0 r301_1 c301 F301
def r302_0 : List Op := [t_ 2 <|.box (.g 0),t_ 4 <|.mov (cb false)]
def r302_1 : List Op := [f_ 5 <|.fad (.g 2) 4,f_ 6 <|.load (.v 2) none (.l 0),f_ 7 <|.bin .eql (.l 1) (ci 3),f_ 8 <|.mov (.l 2),y_ 9 3 <|.fad (.g 2) 15,y_ 10 3 <|.load (.v 2) none (.l 4),y_ 11 3 <|.mov (.g 1),y_ 12 3 <|.bin .eql (.l 5) (.l 6),f_ 13 <|.pick (.l 3) (.l 7) (cb false),t_ 4 <|.mov (.l 8)]
def c302 : C := .seq (.region false r302_0) (.seq (.region false r302_1) (.ret))
def F302 : F := ⟨2, [0, 1, 2, 4], [.t 4], none, c302⟩
attribute [go_sem] r302_0 r302_1 c302 F302
def r303_0 : List Op := [t_ 2 <|.box (.g 0),t_ 4 <|.mov (cb false)]
def r303_1 : List Op := [f_ 5 <|.fad (.g 2) 4,f_ 6 <|.load (.v 2) none (.l 0),f_ 7 <|.bin .eql (.l 1) (ci 2),f_ 8 <|.mov (.l 2),y_ 9 3 <|.fad (.g 2) 15,y_ 10 3 <|.load (.v 2) none (.l 4),y_ 11 3 <|.mov (.g 1),y_ 12 3 <|.bin .eql (.l 5) (.l 6),f_ 13 <|.pick (.l 3) (.l 7) (cb false),t_ 4 <|.mov (.l 8)]
def c303 : C := .seq (.region false r303_0) (.seq (.region false r303_1) (.ret))
def F303 : F := ⟨2, [0, 1, 2, 4], [.t 4], none, c303⟩
attribute [go_sem] r303_0 r303_1 c303 F303
def r304_0 : List Op := [t_ 2 <|.box (.g 0),t_ 3 <|.box (.g 1),t_ 4 <|.alloc [.slice 17 [], .int .i64 0, .int .i64 0, .int .i64 0, .int .i64 0]]
def r304_1 : List Op := [f_ 8 <|.load (.v 2) (some 5) (.g 2),f_ 9 <|.fad (.g 3) 0,f_ 10 <|.load (.v 3) none (.l 1),f_ 11 <|.call (.k 314) .borrow none [.l 0, .l 2],f_ 7 <|.mov (.l 3),f_ 12 <|.ext (.l 4) 0,f_ 13 <|.ext (.l 4) 1,t_ 5 <|.mov (.l 5),t_ 6 <|.mov (.l 6)]
def r304_2 : List Op := [f_ 14 <|.fad (.g 2) 0,f_ 15 <|.load (.v 2) none (.l 0),f_ 16 <|.call (.k 307) .freeze (some 0) [.l 1],f_ 17 <|.fad (.g 2) 0,u_ <|.store (.v 2) 1 (.l 3) (.l 2)]
def r304_3 : List Op := [t_ 18 <|.mov (.g 6)]
def r304_4 : List Op := [f_ 19 <|.fad (.g 2) 0,f_ 20 <|.load (.v 2) none (.l 0),f_ 21 <|.mov (.g 5),f_ 22 <|.load (.v 3) (some 17) (.g 3),f_ 23 <|.iad 17 (.l 1) (.l 2),u_ <|.store (.e 16) 17 (.l 4) (.l 3)]
def r304_5 : List Op := [f_ 24 <|.fad (.g 2) 0,f_ 25 <|.load (.v 2) none (.l 0),f_ 26 <|.mov (.g 5),f_ 27 <|.load (.v 3) (some 17) (.g 3),f_ 28 <|.mks 17 1 [.int .i64 0, .int .i64 0, .str [], .str [], .int .i64 0, .slice 2 [], .int .i64 0, .int .i64 0, .int .i64 0, .int .i64 0, .int .i64 0, .int .i64 0, .slice 11 [], .int .i64 0, .int .i64 0, .int .i64 0, .int .i64 0] [(0, .l 3)],f_ 29 <|.ins 317 16 17 (.l 1) (.l 2) (.l 4),f_ 30 <|.fad (.g 2) 0,u_ <|.store (.v 2) 1 (.l 6) (.l 5)]
def r304_6 : List Op := [f_ 31 <|.load (.v 2) (some 5) (.g 2),u_ <|.store (.v 4) 5 (.g 4) (.l 0)]
def c304 : C := .seq (.region false r304_0) (.seq (.region false r304_1) (.seq (.region false r304_2) (.seq (.seq (.region false r304_3) (.cond (.g 18) (.region false r304_4) (.region false r304_5))) (.seq (.region false r304_6) (.ret)))))
def F304 : F := ⟨2, [0, 1, 2, 3, 4, 5, 6, 18], [.cell 4 (some 5)], none, c304⟩
attribute [go_sem] r304_0 r304_1 r304_2 r304_3 r304_4 r304_5 r304_6 c304 F304
def r308_0 : List Op := [t_ 2 <|.box (.g 0),t_ 4 <|.alloc [.slice 17 [], .int .i64 0, .int .i64 0, .int .i64 0, .int .i64 0]]
def r308_1 : List Op := [f_ 8 <|.load (.v 2) (some 5) (.g 2),f_ 9 <|.mov (.g 1),f_ 10 <|.call (.k 314) .borrow none [.l 0, .l 1],f_ 7 <|.mov (.l 2),f_ 11 <|.ext (.l 3) 0,f_ 12 <|.ext (.l 3) 1,t_ 5 <|.mov (.l 4),t_ 6 <|.mov (.l 5)]
def r308_2 : List Op := [t_ 13 <|.mov (.g 6)]
def r308_3 : List Op := [f_ 14 <|.fad (.g 2) 0,f_ 15 <|.load (.v 2) none (.l 0),f_ 16 <|.call (.k 307) .freeze (some 0) [.l 1],f_ 17 <|.mov (.g 5),f_ 18 <|.mov (.g 5),f_ 19 <|.bin .add (.l 4) (ci 1),f_ 20 <|.del 318 16 17 (.l 2) (.l 3) (.l 5),f_ 21 <|.fad (.g 2) 0,u_ <|.store (.v 2) 1 (.l 7) (.l 6)]
def r308_4 : List Op := [f_ 22 <|.load (.v 2) (some 5) (.g 2),u_ <|.store (.v 4) 5 (.g 4) (.l 0)]
def c308 : C := .seq (.region false r308_0) (.seq (.seq (.region false r308_1) (.seq (.region false r308_2) (.cond (.g 13) (.region false r308_3) (.skip)))) (.seq (.region false r308_4) (.ret)))
def F308 : F := ⟨2, [0, 1, 2, 4, 5, 6, 13], [.cell 4 (some 5)], none, c308⟩
attribute [go_sem] r308_0 r308_1 r308_2 r308_3 r308_4 c308 F308
def r309_0 : List Op := [t_ 2 <|.box (.g 0),t_ 4 <|.mov (cb false)]
def r309_1 : List Op := [f_ 5 <|.fad (.g 2) 0,f_ 6 <|.load (.v 2) none (.l 0),f_ 7 <|.bin .neq (.l 1) (ci 0),f_ 8 <|.mov (.l 2),y_ 9 3 <|.fad (.g 2) 1,y_ 10 3 <|.load (.v 2) none (.l 4),y_ 11 3 <|.mov (.g 1),y_ 12 3 <|.bin .eql (.l 5) (.l 6),f_ 13 <|.pick (.l 3) (.l 7) (cb false),f_ 14 <|.mov (.l 8),y_ 15 9 <|.fad (.g 2) 4,y_ 16 9 <|.load (.v 2) none (.l 10),y_ 17 9 <|.bin .eql (.l 11) (ci 1),f_ 18 <|.pick (.l 9) (.l 12) (cb false),f_ 19 <|.mov (.l 13),y_ 20 14 <|.fad (.g 2) 13,y_ 21 14 <|.load (.v 2) none (.l 15),y_ 22 14 <|.bin .eql (.l 16) (ci 0),f_ 23 <|.pick (.l 14) (.l 17) (cb false),t_ 4 <|.mov (.l 18)]
def c309 : C := .seq (.region false r309_0) (.seq (.region false r309_1) (.ret))
def F309 : F := ⟨2, [0, 1, 2, 4], [.t 4], none, c309⟩
attribute [go_sem] r309_0 r309_1 c309 F309
def r311_0 : List Op := [t_ 2 <|.box (.g 0),t_ 3 <|.box (.g 1),t_ 4 <|.alloc [.str [], .str []],t_ 5 <|.mov (ci 0)]
def r311_1 : List Op := [f_ 7 <|.load (.v 2) (some 2) (.g 2),f_ 8 <|.call (.k 186) .no none [.l 0],f_ 9 <|.un .not (.l 1),f_ 10 <|.mov (.l 2),n_ 11 3 <|.load (.v 3) (some 2) (.g 3),n_ 12 3 <|.call (.k 186) .no none [.l 4],n_ 13 3 <|.un .not (.l 5),f_ 14 <|.pick (.l 3) (cb true) (.l 6),t_ 6 <|.mov (.l 7)]
def r311_2 : List Op := [f_ 15 <|.build [.str [], .str []] [],u_ <|.store (.v 4) 2 (.g 4) (.l 0),t_ 5 <|.mov (ci 1)]
def r311_3 : List Op := [f_ 17 <|.fad (.g 2) 1,f_ 18 <|.load (.v 2) none (.l 0),f_ 19 <|.bin .eql (.l 1) (.c (.str [])),f_ 20 <|.mov (.l 2),n_ 21 3 <|.fad (.g 2) 1,n_ 22 3 <|.load (.v 2) none (.l 4),n_ 23 3 <|.fad (.g 3) 0,n_ 24 3 <|.load (.v 3) none (.l 6),n_ 25 3 <|.bin .neq (.l 5) (.l 7),f_ 26 <|.pick (.l 3) (cb true) (.l 8),t_ 16 <|.mov (.l 9)]
def r311_4 : List Op := [f_ 27 <|.build [.str [], .str []] [],u_ <|.store (.v 4) 2 (.g 4) (.l 0),t_ 5 <|.mov (ci 9)]
def r311_5 : List Op := [f_ 28 <|.fad (.g 2) 0,f_ 29 <|.load (.v 2) none (.l 0),f_ 30 <|.fad (.g 3) 1,f_ 31 <|.load (.v 3) none (.l 2),f_ 32 <|.build [.str [], .str []] [(0, 1, .l 1), (1, 1, .l 3)],u_ <|.store (.v 4) 2 (.g 4) (.l 4),t_ 5 <|.mov (ci 0)]
def c311 : C := .seq (.region false r311_0) (.seq (.block 0 (.seq (.region false r311_1) (.cond (.g 6) (.seq (.region false r311_2) (.ret)) (.seq (.region false r311_3) (.cond (.g 16) (.seq (.region false r311_4) (.ret)) (.skip)))))) (.seq (.region false r311_5) (.ret)))
def F311 : F := ⟨2, [0, 1, 2, 3, 4, 5, 6, 16], [.cell 4 (some 2), .t 5], none, c311⟩
attribute [go_sem] r311_0 r311_1 r311_2 r311_3 r311_4 r311_5 c311 F311
def r312_0 : List Op := [t_ 5 <|.box (.g 2),t_ 6 <|.alloc [.int .i64 0, .int .i64 0, .int .i64 0, .bool false, .str []],t_ 7 <|.mov (cb false)]
def r312_1 : List Op := [f_ 10 <|.mov (.g 0),f_ 11 <|.call (.k 203) .no none [.l 0],t_ 12 <|.un .not (.l 1)]
def r312_2 : List Op := [f_ 13 <|.build [.int .i64 0, .int .i64 0, .int .i64 0, .bool false, .str []] [],u_ <|.store (.v 6) 5 (.g 6) (.l 0),t_ 7 <|.mov (cb false)]
def r312_3 : List Op := [f_ 15 <|.mov (.g 0),f_ 16 <|.mov (.g 1),f_ 17 <|.call (.k 220) .no none [.l 0, .l 1],f_ 14 <|.mov (.l 2),f_ 18 <|.ext (.l 3) 0,f_ 19 <|.ext (.l 3) 1,t_ 8 <|.mov (.l 4),t_ 9 <|.mov (.l 5)]
def r312_4 : List Op := [f_ 20 <|.mov (.g 9),t_ 21 <|.un .not (.l 0)]
def r312_5 : List Op := [f_ 22 <|.build [.int .i64 0, .int .i64 0, .int .i64 0, .bool false, .str []] [],u_ <|.store (.v 6) 5 (.g 6) (.l 0),t_ 7 <|.mov (cb false)]
def r312_6 : List Op := [f_ 23 <|.mov (.g 0),f_ 24 <|.mov (.g 8),f_ 25 <|.iad 2 (.l 0) (.l 1),f_ 26 <|.fad (.l 2) 1,f_ 27 <|.load (.c) none (.l 3),f_ 28 <|.load (.v 5) (some 3) (.g 5),f_ 29 <|.call (.k 10) .no none [.l 4, .l 5],f_ 30 <|.ext (.l 6) 0,f_ 31 <|.ext (.l 6) 1,u_ <|.store (.v 6) 5 (.g 6) (.l 7),t_ 7 <|.mov (.l 8)]
def c312 : C := .seq (.region false r312_0) (.seq (.seq (.region false r312_1) (.cond (.g 12) (.seq (.region false r312_2) (.ret)) (.skip))) (.seq (.region false r312_3) (.seq (.seq (.region false r312_4) (.cond (.g 21) (.seq (.region false r312_5) (.ret)) (.skip))) (.seq (.region true r312_6) (.ret)))))
def F312 : F := ⟨3, [0, 1, 2, 5, 6, 7, 8, 9, 12, 21], [.cell 6 (some 5), .t 7], none, c312⟩
attribute [go_sem] r312_0 r312_1 r312_2 r312_3 r312_4 r312_5 r312_6 c312 F312
def r313_0 : List Op := [t_ 3 <|.mov (cb false)]
def r313_1 : List Op := [f_ 4 <|.mov (.g 0),f_ 5 <|.load (.c) none (.g 1),f_ 6 <|.bin .lss (.l 0) (.l 1),f_ 7 <|.mov (.l 2),n_ 8 3 <|.mov (.g 0),n_ 9 3 <|.bin .gtr (.l 4) (ci 1099511627776),f_ 10 <|.pick (.l 3) (cb true) (.l 5),t_ 3 <|.mov (.l 6)]
def c313 : C := .seq (.region false r313_0) (.seq (.region false r313_1) (.ret))
def F313 : F := ⟨2, [0, 1, 3], [.t 3], none, c313⟩
attribute [go_sem] r313_0 r313_1 c313 F313
def r314_0 : List Op := [t_ 2 <|.box (.g 0),t_ 4 <|.mov (ci 0),t_ 5 <|.mov (cb false)]
def r314_1 : List Op := [f_ 6 <|.fad (.g 2) 0,f_ 7 <|.load (.v 2) none (.l 0),f_ 8 <|.mov (.g 1),f_ 9 <|.call (.k 319) .no none [.l 1, .l 2, .f 320],f_ 10 <|.ext (.l 3) 0,f_ 11 <|.ext (.l 3) 1,t_ 4 <|.mov (.l 4),t_ 5 <|.mov (.l 5)]
def c314 : C := .seq (.region false r314_0) (.seq (.region false r314_1) (.ret))
def F314 : F := ⟨2, [0, 1, 2, 4, 5], [.t 4, .t 5], none, c314⟩
attribute [go_sem] r314_0 r314_1 c314 F314
def r315_0 : List Op := [t_ 4 <|.mov (ci 0)]
def r315_1 : List Op := [f_ 6 <|.mov (.g 0),t_ 7 <|.len false (.l 0),t_ 8 <|.mov (ci 0)]
def r315_2 : List Op := [t_ 9 <|.bin .lss (.g 8) (.g 7)]
def r315_3 : List Op := [f_ 10 <|.mov (.g 8),t_ 5 <|.mov (.l 0)]
def r315_4 : List Op := [f_ 11 <|.mov (.g 1),f_ 12 <|.mov (.g 0),f_ 13 <|.mov (.g 5),f_ 14 <|.iad 2 (.l 1) (.l 2),f_ 15 <|.load (.c) (some 2) (.l 3),t_ 16 <|.call (.v (.l 0)) .no none [.l 4]]
def r315_5 : List Op := [f_ 17 <|.mov (.g 5),t_ 4 <|.mov (.l 0)]
def r315_6 : List Op := [f_ 18 <|.bin .add (.g 8) (ci 1),t_ 8 <|.mov (.l 0)]
def b315_0 : C := .seq (.region false r315_2) (.seq (.cond (.g 9) (.skip) (.exit 0)) (.seq (.block 1 (.seq (.region false r315_3) (.seq (.region false r315_4) (.cond (.g 16) (.seq (.region false r315_5) (.ret)) (.skip))))) (.region false r315_6)))
def l315_0 : C := .loop [] [] [] [] b315_0
def r315_7 : List Op := [t_ 4 <|.mov (ci (-1))]
def c315 : C := .seq (.region false r315_0) (.seq (.seq (.region false r315_1) (.block 0 (l315_0))) (.seq (.region false r315_7) (.ret)))
def F315 : F := ⟨2, [0, 1, 4, 5, 7, 8, 9, 16], [.t 4], none, c315⟩
attribute [go_sem] r315_0 r315_1 r315_2 r315_3 r315_4 r315_5 r315_6 b315_0 r315_7 c315 F315
def r316_0 : List Op := [t_ 2 <|.box (.g 0),t_ 3 <|.mov (cb false)]
def r316_1 : List Op := [f_ 4 <|.fad (.g 2) 1,f_ 5 <|.load (.v 2) none (.l 0),f_ 6 <|.fad (.g 2) 1,f_ 7 <|.load (.v 2) none (.l 2),f_ 8 <|.len false (.l 3),f_ 9 <|.bin .sub (.l 4) (ci 1),f_ 10 <|.iad 5 (.l 1) (.l 5),f_ 11 <|.fad (.l 6) 0,f_ 12 <|.load (.c) (some 3) (.l 7),f_ 13 <|.load (.c) (some 3) (.g 1),f_ 14 <|.call (.k 15) .no none [.l 8, .l 9],f_ 15 <|.bin .gtr (.l 10) (ci 0),t_ 3 <|.mov (.l 11)]
def c316 : C := .seq (.region false r316_0) (.seq (.region true r316_1) (.ret))
def F316 : F := ⟨2, [0, 1, 2, 3], [.t 3], none, c316⟩
attribute [go_sem] r316_0 r316_1 c316 F316
def r319_0 : List Op := [t_ 6 <|.mov (ci 0),t_ 7 <|.mov (cb false)]
def r319_1 : List Op := [f_ 12 <|.mov (.g 0),f_ 13 <|.len false (.l 0),t_ 8 <|.mov (.l 1)]
def r319_2 : List Op := [f_ 14 <|.mov (.g 8),t_ 9 <|.mov (ci 0),t_ 10 <|.mov (.l 0)]
def r319_3 : List Op := [f_ 15 <|.mov (.g 9),f_ 16 <|.mov (.g 10),t_ 17 <|.bin .lss (.l 0) (.l 1)]
def r319_4 : List Op := [f_ 18 <|.mov (.g 9),f_ 19 <|.mov (.g 10),f_ 20 <|.bin .add (.l 0) (.l 1),f_ 21 <|.conv (.int .u64) (.l 2),f_ 22 <|.sh .shr (.l 3) (.c (.int .u64 1)),f_ 23 <|.conv (.int .i64) (.l 4),t_ 11 <|.mov (.l 5)]
def r319_5 : List Op := [f_ 24 <|.mov (.g 2),f_ 25 <|.mov (.g 0),f_ 26 <|.mov (.g 11),f_ 27 <|.iad 17 (.l 1) (.l 2),f_ 28 <|.load (.c) (some 17) (.l 3),f_ 29 <|.mov (.g 1),f_ 30 <|.call (.v (.l 0)) .no none [.l 4, .l 5],t_ 31 <|.bin .lss (.l 6) (ci 0)]
def r319_6 : List Op := [f_ 32 <|.mov (.g 11),f_ 33 <|.bin .add (.l 0) (ci 1),t_ 9 <|.mov (.l 1)]
def r319_7 : List Op := [f_ 34 <|.mov (.g 11),t_ 10 <|.mov (.l 0)]
def b319_0 : C := .seq (.seq (.region false r319_3) (.cond (.g 17) (.skip) (.exit 0))) (.block 1 (.seq (.region false r319_4) (.seq (.region false r319_5) (.cond (.g 31) (.region false r319_6) (.region false r319_7)))))
def l319_0 : C := .loop [] [] [] [] b319_0
def r319_8 : List Op := [f_ 35 <|.mov (.g 9),f_ 36 <|.mov (.g 9),f_ 37 <|.mov (.g 8),f_ 38 <|.bin .lss (.l 1) (.l 2),f_ 39 <|.mov (.l 3),y_ 40 4 <|.mov (.g 2),y_ 41 4 <|.mov (.g 0),y_ 42 4 <|.mov (.g 9),y_ 43 4 <|.iad 17 (.l 6) (.l 7),y_ 44 4 <|.load (.c) (some 17) (.l 8),y_ 45 4 <|.mov (.g 1),y_ 46 4 <|.call (.v (.l 5)) .no none [.l 9, .l 10],y_ 47 4 <|.bin .eql (.l 11) (ci 0),f_ 48 <|.pick (.l 4) (.l 12) (cb false),t_ 6 <|.mov (.l 0),t_ 7 <|.mov (.l 13)]
def c319 : C := .seq (.region false r319_0) (.seq (.region false r319_1) (.seq (.region false r319_2) (.seq (.block 0 (l319_0)) (.seq (.region false r319_8) (.ret)))))
def F319 : F := ⟨3, [0, 1, 2, 6, 7, 8, 9, 10, 11, 17, 31], [.t 6, .t 7], none, c319⟩
attribute [go_sem] r319_0 r319_1 r319_2 r319_3 r319_4 r319_5 r319_6 r319_7 b319_0 r319_8 c319 F319
def r320_0 : List Op := [t_ 2 <|.box (.g 0),t_ 4 <|.mov (ci 0)]
def r320_1 : List Op := [f_ 5 <|.fad (.g 2) 0,f_ 6 <|.load (.v 2) none (.l 0),f_ 7 <|.mov (.g 1),f_ 8 <|.bin .sub (.l 1) (.l 2),t_ 4 <|.mov (.l 3)]
def c320 : C := .seq (.region false r320_0) (.seq (.region false r320_1) (.ret))
def F320 : F := ⟨2, [0, 1, 2, 4], [.t 4], none, c320⟩
attribute [go_sem] r320_0 r320_1 c320 F320
end Sg
namespace Sg
open _root_.Go _root_.Go.RowKit _root_.Go.Proofs _root_.Go.Shelf
set_option linter.unusedSimpArgs false
set_option linter.unusedVariables false
def renU : Shelf.Ren := ⟨fun | 197 => 153 | 260 => 174 | n => n, fun | 0 => 0 | 3 => 3 | 4 => 4 | 5 => 5 | 9 => 9 | 21 => 21 | 46 => 78 | 105 => 172 | 119 => 197 | 138 => 199 | 139 => 200 | n => n, fun | 3 => 0 | 4 => 1 | n => n⟩
set_option maxRecDepth 1000000 in
theorem lays197 : Lays.n197 Tryz.prog renU where
  mixed := by kernel_rfl
  f197 := Tryz.func153.trans (congrArg some (by kernel_rfl))
  f260 := Tryz.func174.trans (congrArg some (by kernel_rfl))
  t0 := Tryz.underlying0
  a0 := Tryz.isAgg0
  z0 := Tryz.sizeOf0
  v0 := Tryz.zeroValue0
  t3 := Tryz.underlying3
  a3 := Tryz.isAgg3
  z3 := Tryz.sizeOf3
  v3 := Tryz.zeroValue3
  t4 := Tryz.underlying4
  a4 := Tryz.isAgg4
  z4 := Tryz.sizeOf4
  v4 := Tryz.zeroValue4
  t5 := Tryz.underlying5
  a5 := Tryz.isAgg5
  z5 := Tryz.sizeOf5
  v5 := Tryz.zeroValue5
  t9 := Tryz.underlying9
  a9 := Tryz.isAgg9
  z9 := Tryz.sizeOf9
  v9 := Tryz.zeroValue9
  t21 := Tryz.underlying21
  a21 := Tryz.isAgg21
  z21 := Tryz.sizeOf21
  v21 := Tryz.zeroValue21
  t46 := Tryz.underlying78
  a46 := Tryz.isAgg78
  z46 := Tryz.sizeOf78
  v46 := Tryz.zeroValue78
  t105 := Tryz.underlying172
  a105 := Tryz.isAgg172
  z105 := Tryz.sizeOf172
  v105 := Tryz.zeroValue172
  t119 := Tryz.underlying197
  a119 := Tryz.isAgg197
  z119 := Tryz.sizeOf197
  t138 := Tryz.underlying199
  a138 := Tryz.isAgg199
  z138 := Tryz.sizeOf199
  v138 := Tryz.zeroValue199
  t139 := Tryz.underlying200
  a139 := Tryz.isAgg200
  z139 := Tryz.sizeOf200
  v139 := Tryz.zeroValue200
  g3 := by kernel_rfl
  g4 := by kernel_rfl
theorem dec_walk (s : ByteArray) (w : World) (hT : Lib.Utf8Tabs 0 1 w) :
    Calls Tryz.prog 153 #[.string s] w fun e w' => e = .returned (.tuple #[.int .i32 (Lib.decodeGo s).1, .int .i64 (Lib.decodeGo s).2]) ∧ Below w.heap.size w w' :=
  Any.utf8_DecodeRuneInString lays197 s w hT
theorem tabs_st (w w' : World) (h : Lib.Utf8Tabs 0 1 w) (hb : ∀ b, b < 2 → w'.heap[b]? = w.heap[b]?) : Lib.Utf8Tabs 0 1 w' := by
  have e : ∀ b o, b < 2 → w'.cell? ⟨b, o, none⟩ = w.cell? ⟨b, o, none⟩ := fun b o hlt => by
    simp only [World.cell?, hb b hlt]
  exact ⟨fun c hc => by rw [e _ _ (by decide)]; exact h.1 c hc, fun i hi => by rw [e _ _ (by decide), e _ _ (by decide)]; exact h.2 i hi⟩
def cxU (l : List (Nat × Nat)) : Cx where
  fm := fun n => (look l n).getD 0
  tm := fun n => n
  gn := 2
  G := Lib.Utf8Tabs 0 1
  Gst := tabs_st
set_option maxHeartbeats 4000000 in
set_option maxRecDepth 1000000 in
theorem key_walk (s : ByteArray) (w : World) (hgn : 2 ≤ w.heap.size) (hT : Lib.Utf8Tabs 0 1 w)
    (hplain : ∀ (r n : Int) (w : World), 2 ≤ w.heap.size → Lib.Utf8Tabs 0 1 w → Calls Tryz.prog 154 #[.int .i32 r, .int .i64 n] w fun e w' => e = .returned (.bool (plainR r n)) ∧ Below w.heap.size w w') :
    Calls Tryz.prog 122 #[.string s] w fun e w' => e = .returned (.bool (keyR s.data.toList)) ∧ Below w.heap.size w w' := by
  have t0 := Tryz.underlying0; have t3 := Tryz.underlying3; have t4 := Tryz.underlying4; have t9 := Tryz.underlying9; have t21 := Tryz.underlying21
  have hu0 := run_underlying t0; have hu3 := run_underlying t3; have hu4 := run_underlying t4; have hu9 := run_underlying t9; have hu21 := run_underlying t21
  have mixed : Tryz.prog.follows .mixedOrders = true := by kernel_rfl
  have a0 := Tryz.isAgg0; have z0 := Tryz.sizeOf0; have v0 := Tryz.zeroValue0
  have a3 := Tryz.isAgg3; have z3 := Tryz.sizeOf3; have v3 := Tryz.zeroValue3
  have a4 := Tryz.isAgg4; have z4 := Tryz.sizeOf4; have v4 := Tryz.zeroValue4
  have a9 := Tryz.isAgg9; have z9 := Tryz.sizeOf9; have v9 := Tryz.zeroValue9
  have a21 := Tryz.isAgg21; have z21 := Tryz.sizeOf21; have v21 := Tryz.zeroValue21
  go_enter Tryz.func122, Tryz.ntmps122
  go_wp2
  go_loopw [3] (fun _ wr => ∃ (pos fuel : Nat), wr.heap[w.heap.size]? = some (.stringIter s pos) ∧ Below w.heap.size w wr ∧ keyAll fuel (s.data.toList.drop pos) = keyAll s.size s.data.toList ∧ s.size ≤ pos + fuel) (fun _ wr => s.size - wr.iterPos w.heap.size)
  case atStart =>
    refine ⟨0, s.size, ?_, (Below.refl _ w).alloc (Nat.le_refl _) _, by simp, by omega⟩
    have := World.iter_heap w s 0
    simpa using this
  case round =>
    obtain ⟨pos, fuel, hit, hbw, hacc, hfu⟩ := hrel
    have hsz : w.heap.size < wr.heap.size := (Array.getElem?_eq_some_iff.1 hit).1
    have hbT : ∀ W : World, Below w.heap.size w W → Lib.Utf8Tabs 0 1 W := fun W h => tabs_st w W hT fun b hb => h.block b (by omega)
    by_cases hp : pos < s.size
    · have hnx : ∀ ty, (Instr.next (.pointer (some ⟨w.heap.size, 0, none⟩)) true ty).run Tryz.prog wr = _ := fun ty => Lib.run_next_any_at wr w.heap.size s pos ty hit hp
      have hbw2 := Lib.below_iterAt hbw (k := w.heap.size) (by omega) s (pos + (Utf8.decode s pos).2)
      have hit2 := Lib.iterAt_heap wr w.heap.size s pos (pos + (Utf8.decode s pos).2) hit
      have hsz2 : w.heap.size + 1 ≤ (wr.iterAt w.heap.size s (pos + (Utf8.decode s pos).2)).heap.size := by rw [Lib.iterAt_size]; omega
      have hde : ∀ n, n = s.size → Lib.decodeGo (s.extract pos n) = Utf8.decode s pos := fun n hn => decode_extract s pos n hn hp
      have hw1 := width_pos s pos
      obtain ⟨f, rfl⟩ : ∃ f, fuel = f + 1 := ⟨fuel - 1, by omega⟩
      have hnil : s.data.toList.drop pos ≠ [] := fun e => by
        exact drop_ne s pos hp e
      have hdN := decode_drop s pos
      simp only [keyAll, hnil, if_false, ← hdN] at hacc
      generalize Utf8.decode s pos = D at *
      clear hdN hnil
      obtain ⟨D1, D2⟩ := D
      simp only at hw1 hacc hbw2 hit2 hsz2 hde hnx
      have hsl := size_list s
      have hfin : ∀ W : World, plainR D1 D2 = false → keyR s.data.toList = false := fun W hpl => by
        rw [hpl, Bool.false_and] at hacc
        rw [keyR, hsl, ← hacc, Bool.false_and]
      clear hsl
      go_wp2_with (go_at_call 153; refine (dec_walk _ _ (hbT _ hbw2)).mono ?_; rintro e W1 ⟨rfl, b1⟩)
      have hb3 := hbw2.trans (b1.mono (by omega))
      have hs3 : W1.heap.size ≥ w.heap.size + 1 := Nat.le_trans hsz2 b1.size
      have hit3 : W1.heap[w.heap.size]? = some (.stringIter s (pos + D2)) := (b1.block _ (by omega)).trans hit2
      have hpl := hplain D1 D2 W1 (by omega) (hbT _ hb3)
      cases hP : plainR D1 D2 with
      | false =>
        rw [hP] at hpl
        have hke := hfin w hP
        clear hacc hfin
        go_wp2_with (go_at_call 154; refine hpl.mono ?_; rintro e W2 ⟨rfl, b2⟩)
        have hb4 := hb3.trans (b2.mono (by omega))
        go_wp2
        go_ret
        rw [hke]
        exact ⟨rfl, hb4⟩
      | true =>
        rw [hP, Bool.true_and, List.drop_drop] at hacc
        rw [hP] at hpl
        clear hfin
        obtain ⟨kk, hkk⟩ : ∃ kk, kk = keyAll s.size s.data.toList := ⟨_, rfl⟩
        go_wp2_with (go_at_call 154; refine hpl.mono ?_; rintro e W2 ⟨rfl, b2⟩)
        have hb4 := hb3.trans (b2.mono (by omega))
        have hit4 : W2.heap[w.heap.size]? = some (.stringIter s (pos + D2)) := (b2.block _ (by omega)).trans hit3
        go_wp2
        go_roundw
        case rel => exact ⟨pos + D2, f, hit4, hb4, hacc, by omega⟩
        case measure =>
          simp only [World.iterPos, hit4, hit]
          omega
    · have hnx : ∀ ty, (Instr.next (.pointer (some ⟨w.heap.size, 0, none⟩)) true ty).run Tryz.prog wr = _ := fun ty => Lib.run_next_end_at wr w.heap.size s pos ty hit hp
      have hall : keyAll s.size s.data.toList = true := by
        rw [← hacc, List.drop_eq_nil_of_le (by rw [size_list]; omega)]
        cases fuel <;> simp [keyAll]
      have hkey : keyR s.data.toList = (decide ((1 : Int) ≤ s.size) && decide ((s.size : Int) ≤ 16)) := by
        rw [keyR, size_list, hall, Bool.true_and]
        congr 1 <;> exact decide_eq_decide.2 (by omega)
      clear hacc hall
      by_cases h1 : (1 : Int) ≤ s.size
      · rw [decide_eq_true h1, Bool.true_and] at hkey
        go_wp2
        go_ret
        exact ⟨by first | rfl | (rw [hkey]; rfl), hbw⟩
      · rw [decide_eq_false h1, Bool.false_and] at hkey
        go_wp2
        go_ret
        exact ⟨by first | rfl | (rw [hkey]; rfl), hbw⟩
end Sg
namespace Sg
open Go.Proofs
open _root_.Go
def noQ : List V → Option V := fun _ => none
def engineFm : List (Nat × Nat) := [(282, 13), (278, 52), (28, 36), (239, 15), (240, 16), (279, 53), (169, 55), (242, 18), (101, 19), (238, 14), (32, 100), (283, 56), (249, 25), (284, 57), (285, 58), (286, 59), (287, 60), (171, 61), (288, 62), (289, 63), (290, 64), (291, 65), (256, 30), (258, 32), (265, 39), (270, 46), (267, 44), (266, 43), (271, 47), (273, 48), (275, 50), (261, 34), (262, 35), (187, 119), (250, 26), (252, 27), (244, 20), (301, 90), (313, 121), (67, 120), (314, 123), (186, 80), (192, 124), (82, 125), (84, 126), (15, 42), (200, 127), (88, 128), (304, 95), (312, 118), (21, 37), (206, 129), (247, 23), (303, 94), (308, 105), (302, 93), (178, 106), (309, 107), (211, 108), (311, 112), (213, 113), (91, 114), (217, 99), (195, 151), (202, 40), (86, 41), (198, 91), (78, 92), (203, 81), (81, 82), (298, 84), (299, 83), (316, 142), (76, 152), (191, 154), (319, 155), (320, 156), (97, 137), (100, 157), (26, 104), (27, 103), (220, 148), (3, 158), (221, 149), (10, 150), (12, 162), (17, 144), (188, 163), (8, 102), (7, 136), (98, 138), (315, 139), (105, 176), (106, 175), (31, 146), (225, 171), (226, 172), (22, 166), (25, 169), (29, 182), (30, 183), (170, 122), (307, 98), (190, 153), (222, 159), (102, 160), (103, 161), (317, 143), (318, 147), (23, 170), (227, 173)]
def engineTab : List (Nat × Fn) := [(282, .code F282), (278, .code F278), (28, .code F28), (239, .code F239), (240, .code F240), (279, .code F279), (169, .code F169), (242, .code F242), (101, .code F101), (238, .code F238), (32, .code F32), (283, .code F283), (249, .code F249), (284, .code F284), (285, .code F285), (286, .code F286), (287, .code F287), (171, .code F171), (288, .code F288), (289, .code F289), (290, .code F290), (291, .code F291), (256, .code F256), (258, .code F258), (265, .code F265), (270, .code F270), (267, .code F267), (266, .code F266), (271, .code F271), (273, .code F273), (275, .code F275), (261, .code F261), (262, .code F262), (187, .code F187), (250, .code F250), (252, .code F252), (244, .code F244), (301, .code F301), (313, .code F313), (67, .code F67), (314, .code F314), (186, .code F186), (192, .code F192), (82, .code F82), (84, .code F84), (15, .code F15), (200, .code F200), (88, .code F88), (304, .code F304), (312, .code F312), (21, .code F21), (206, .code F206), (247, .code F247), (303, .code F303), (308, .code F308), (302, .code F302), (178, .code F178), (309, .code F309), (211, .code F211), (311, .code F311), (213, .code F213), (91, .code F91), (217, .code F217), (195, .code F195), (202, .code F202), (86, .code F86), (198, .code F198), (78, .code F78), (203, .code F203), (81, .code F81), (298, .code F298), (299, .code F299), (316, .code F316), (76, .code F76), (191, .code F191), (319, .code F319), (320, .code F320), (97, .code F97), (100, .code F100), (26, .code F26), (27, .code F27), (220, .code F220), (3, .code F3), (221, .code F221), (10, .code F10), (12, .code F12), (17, .code F17), (188, .code F188), (8, .code F8), (7, .code F7), (98, .code F98), (315, .code F315), (105, .code F105), (106, .code F106), (31, .code F31), (225, .code F225), (226, .code F226), (22, .code F22), (25, .code F25), (29, .code F29), (30, .code F30), (170, .prim none keyQ), (307, .prim (some 0) (cloneQ 17)), (190, .prim none decQ), (222, .prim (some 1002) noQ), (102, .prim (some 0) (cloneQ 11)), (103, .prim (some 1011) noQ), (317, .prim (some 1017) noQ), (318, .prim (some 2017) noQ), (23, .prim (some 0) (cloneQ 5)), (227, .prim (some 0) (cloneQ 2))]
set_option maxRecDepth 100000
theorem okc {P : Go.Program} {cx : Cx} {tab : List (Nat × Fn)} {k : Nat} {F : F} {l : List (Nat × Fn)} (h : okF P cx (look tab) (cx.fm k) F = true) (t : okTab P cx tab l = true) : okTab P cx tab ((k, .code F) :: l) = true := by simp [okTab, h, t]
theorem okp {P : Go.Program} {cx : Cx} {tab : List (Nat × Fn)} {k : Nat} {o : Option Nat} {p} {l : List (Nat × Fn)} (t : okTab P cx tab l = true) : okTab P cx tab ((k, .prim o p) :: l) = true := t
theorem ok282 : okF Tryz.prog (cxU engineFm) (look engineTab) ((cxU engineFm).fm 282) F282 = true := by kernel_rfl
theorem ok278 : okF Tryz.prog (cxU engineFm) (look engineTab) ((cxU engineFm).fm 278) F278 = true := by kernel_rfl
theorem ok28 : okF Tryz.prog (cxU engineFm) (look engineTab) ((cxU engineFm).fm 28) F28 = true := by kernel_rfl
theorem ok239 : okF Tryz.prog (cxU engineFm) (look engineTab) ((cxU engineFm).fm 239) F239 = true := by kernel_rfl
theorem ok240 : okF Tryz.prog (cxU engineFm) (look engineTab) ((cxU engineFm).fm 240) F240 = true := by kernel_rfl
theorem ok279 : okF Tryz.prog (cxU engineFm) (look engineTab) ((cxU engineFm).fm 279) F279 = true := by kernel_rfl
theorem ok169 : okF Tryz.prog (cxU engineFm) (look engineTab) ((cxU engineFm).fm 169) F169 = true := by kernel_rfl
theorem ok242 : okF Tryz.prog (cxU engineFm) (look engineTab) ((cxU engineFm).fm 242) F242 = true := by kernel_rfl
theorem ok101 : okF Tryz.prog (cxU engineFm) (look engineTab) ((cxU engineFm).fm 101) F101 = true := by kernel_rfl
theorem ok238 : okF Tryz.prog (cxU engineFm) (look engineTab) ((cxU engineFm).fm 238) F238 = true := by kernel_rfl
theorem ok32 : okF Tryz.prog (cxU engineFm) (look engineTab) ((cxU engineFm).fm 32) F32 = true := by kernel_rfl
theorem ok283 : okF Tryz.prog (cxU engineFm) (look engineTab) ((cxU engineFm).fm 283) F283 = true := by kernel_rfl
theorem ok249 : okF Tryz.prog (cxU engineFm) (look engineTab) ((cxU engineFm).fm 249) F249 = true := by kernel_rfl
theorem ok284 : okF Tryz.prog (cxU engineFm) (look engineTab) ((cxU engineFm).fm 284) F284 = true := by kernel_rfl
theorem ok285 : okF Tryz.prog (cxU engineFm) (look engineTab) ((cxU engineFm).fm 285) F285 = true := by kernel_rfl
theorem ok286 : okF Tryz.prog (cxU engineFm) (look engineTab) ((cxU engineFm).fm 286) F286 = true := by kernel_rfl
theorem ok287 : okF Tryz.prog (cxU engineFm) (look engineTab) ((cxU engineFm).fm 287) F287 = true := by kernel_rfl
theorem ok171 : okF Tryz.prog (cxU engineFm) (look engineTab) ((cxU engineFm).fm 171) F171 = true := by kernel_rfl
theorem ok288 : okF Tryz.prog (cxU engineFm) (look engineTab) ((cxU engineFm).fm 288) F288 = true := by kernel_rfl
theorem ok289 : okF Tryz.prog (cxU engineFm) (look engineTab) ((cxU engineFm).fm 289) F289 = true := by kernel_rfl
theorem ok290 : okF Tryz.prog (cxU engineFm) (look engineTab) ((cxU engineFm).fm 290) F290 = true := by kernel_rfl
theorem ok291 : okF Tryz.prog (cxU engineFm) (look engineTab) ((cxU engineFm).fm 291) F291 = true := by kernel_rfl
theorem ok256 : okF Tryz.prog (cxU engineFm) (look engineTab) ((cxU engineFm).fm 256) F256 = true := by kernel_rfl
theorem ok258 : okF Tryz.prog (cxU engineFm) (look engineTab) ((cxU engineFm).fm 258) F258 = true := by kernel_rfl
theorem ok265 : okF Tryz.prog (cxU engineFm) (look engineTab) ((cxU engineFm).fm 265) F265 = true := by kernel_rfl
theorem ok270 : okF Tryz.prog (cxU engineFm) (look engineTab) ((cxU engineFm).fm 270) F270 = true := by kernel_rfl
theorem ok267 : okF Tryz.prog (cxU engineFm) (look engineTab) ((cxU engineFm).fm 267) F267 = true := by kernel_rfl
theorem ok266 : okF Tryz.prog (cxU engineFm) (look engineTab) ((cxU engineFm).fm 266) F266 = true := by kernel_rfl
theorem ok271 : okF Tryz.prog (cxU engineFm) (look engineTab) ((cxU engineFm).fm 271) F271 = true := by kernel_rfl
theorem ok273 : okF Tryz.prog (cxU engineFm) (look engineTab) ((cxU engineFm).fm 273) F273 = true := by kernel_rfl
theorem ok275 : okF Tryz.prog (cxU engineFm) (look engineTab) ((cxU engineFm).fm 275) F275 = true := by kernel_rfl
theorem ok261 : okF Tryz.prog (cxU engineFm) (look engineTab) ((cxU engineFm).fm 261) F261 = true := by kernel_rfl
theorem ok262 : okF Tryz.prog (cxU engineFm) (look engineTab) ((cxU engineFm).fm 262) F262 = true := by kernel_rfl
theorem ok187 : okF Tryz.prog (cxU engineFm) (look engineTab) ((cxU engineFm).fm 187) F187 = true := by kernel_rfl
theorem ok250 : okF Tryz.prog (cxU engineFm) (look engineTab) ((cxU engineFm).fm 250) F250 = true := by kernel_rfl
theorem ok252 : okF Tryz.prog (cxU engineFm) (look engineTab) ((cxU engineFm).fm 252) F252 = true := by kernel_rfl
theorem ok244 : okF Tryz.prog (cxU engineFm) (look engineTab) ((cxU engineFm).fm 244) F244 = true := by kernel_rfl
theorem ok301 : okF Tryz.prog (cxU engineFm) (look engineTab) ((cxU engineFm).fm 301) F301 = true := by kernel_rfl
theorem ok313 : okF Tryz.prog (cxU engineFm) (look engineTab) ((cxU engineFm).fm 313) F313 = true := by kernel_rfl
theorem ok67 : okF Tryz.prog (cxU engineFm) (look engineTab) ((cxU engineFm).fm 67) F67 = true := by kernel_rfl
theorem ok314 : okF Tryz.prog (cxU engineFm) (look engineTab) ((cxU engineFm).fm 314) F314 = true := by kernel_rfl
theorem ok186 : okF Tryz.prog (cxU engineFm) (look engineTab) ((cxU engineFm).fm 186) F186 = true := by kernel_rfl
theorem ok192 : okF Tryz.prog (cxU engineFm) (look engineTab) ((cxU engineFm).fm 192) F192 = true := by kernel_rfl
theorem ok82 : okF Tryz.prog (cxU engineFm) (look engineTab) ((cxU engineFm).fm 82) F82 = true := by kernel_rfl
theorem ok84 : okF Tryz.prog (cxU engineFm) (look engineTab) ((cxU engineFm).fm 84) F84 = true := by kernel_rfl
theorem ok15 : okF Tryz.prog (cxU engineFm) (look engineTab) ((cxU engineFm).fm 15) F15 = true := by kernel_rfl
theorem ok200 : okF Tryz.prog (cxU engineFm) (look engineTab) ((cxU engineFm).fm 200) F200 = true := by kernel_rfl
theorem ok88 : okF Tryz.prog (cxU engineFm) (look engineTab) ((cxU engineFm).fm 88) F88 = true := by kernel_rfl
theorem ok304 : okF Tryz.prog (cxU engineFm) (look engineTab) ((cxU engineFm).fm 304) F304 = true := by kernel_rfl
theorem ok312 : okF Tryz.prog (cxU engineFm) (look engineTab) ((cxU engineFm).fm 312) F312 = true := by kernel_rfl
theorem ok21 : okF Tryz.prog (cxU engineFm) (look engineTab) ((cxU engineFm).fm 21) F21 = true := by kernel_rfl
theorem ok206 : okF Tryz.prog (cxU engineFm) (look engineTab) ((cxU engineFm).fm 206) F206 = true := by kernel_rfl
theorem ok247 : okF Tryz.prog (cxU engineFm) (look engineTab) ((cxU engineFm).fm 247) F247 = true := by kernel_rfl
theorem ok303 : okF Tryz.prog (cxU engineFm) (look engineTab) ((cxU engineFm).fm 303) F303 = true := by kernel_rfl
theorem ok308 : okF Tryz.prog (cxU engineFm) (look engineTab) ((cxU engineFm).fm 308) F308 = true := by kernel_rfl
theorem ok302 : okF Tryz.prog (cxU engineFm) (look engineTab) ((cxU engineFm).fm 302) F302 = true := by kernel_rfl
theorem ok178 : okF Tryz.prog (cxU engineFm) (look engineTab) ((cxU engineFm).fm 178) F178 = true := by kernel_rfl
theorem ok309 : okF Tryz.prog (cxU engineFm) (look engineTab) ((cxU engineFm).fm 309) F309 = true := by kernel_rfl
theorem ok211 : okF Tryz.prog (cxU engineFm) (look engineTab) ((cxU engineFm).fm 211) F211 = true := by kernel_rfl
theorem ok311 : okF Tryz.prog (cxU engineFm) (look engineTab) ((cxU engineFm).fm 311) F311 = true := by kernel_rfl
theorem ok213 : okF Tryz.prog (cxU engineFm) (look engineTab) ((cxU engineFm).fm 213) F213 = true := by kernel_rfl
theorem ok91 : okF Tryz.prog (cxU engineFm) (look engineTab) ((cxU engineFm).fm 91) F91 = true := by kernel_rfl
theorem ok217 : okF Tryz.prog (cxU engineFm) (look engineTab) ((cxU engineFm).fm 217) F217 = true := by kernel_rfl
theorem ok195 : okF Tryz.prog (cxU engineFm) (look engineTab) ((cxU engineFm).fm 195) F195 = true := by kernel_rfl
theorem ok202 : okF Tryz.prog (cxU engineFm) (look engineTab) ((cxU engineFm).fm 202) F202 = true := by kernel_rfl
theorem ok86 : okF Tryz.prog (cxU engineFm) (look engineTab) ((cxU engineFm).fm 86) F86 = true := by kernel_rfl
theorem ok198 : okF Tryz.prog (cxU engineFm) (look engineTab) ((cxU engineFm).fm 198) F198 = true := by kernel_rfl
theorem ok78 : okF Tryz.prog (cxU engineFm) (look engineTab) ((cxU engineFm).fm 78) F78 = true := by kernel_rfl
theorem ok203 : okF Tryz.prog (cxU engineFm) (look engineTab) ((cxU engineFm).fm 203) F203 = true := by kernel_rfl
theorem ok81 : okF Tryz.prog (cxU engineFm) (look engineTab) ((cxU engineFm).fm 81) F81 = true := by kernel_rfl
theorem ok298 : okF Tryz.prog (cxU engineFm) (look engineTab) ((cxU engineFm).fm 298) F298 = true := by kernel_rfl
theorem ok299 : okF Tryz.prog (cxU engineFm) (look engineTab) ((cxU engineFm).fm 299) F299 = true := by kernel_rfl
theorem ok316 : okF Tryz.prog (cxU engineFm) (look engineTab) ((cxU engineFm).fm 316) F316 = true := by kernel_rfl
theorem ok76 : okF Tryz.prog (cxU engineFm) (look engineTab) ((cxU engineFm).fm 76) F76 = true := by kernel_rfl
theorem ok191 : okF Tryz.prog (cxU engineFm) (look engineTab) ((cxU engineFm).fm 191) F191 = true := by kernel_rfl
theorem ok319 : okF Tryz.prog (cxU engineFm) (look engineTab) ((cxU engineFm).fm 319) F319 = true := by kernel_rfl
theorem ok320 : okF Tryz.prog (cxU engineFm) (look engineTab) ((cxU engineFm).fm 320) F320 = true := by kernel_rfl
theorem ok97 : okF Tryz.prog (cxU engineFm) (look engineTab) ((cxU engineFm).fm 97) F97 = true := by kernel_rfl
theorem ok100 : okF Tryz.prog (cxU engineFm) (look engineTab) ((cxU engineFm).fm 100) F100 = true := by kernel_rfl
theorem ok26 : okF Tryz.prog (cxU engineFm) (look engineTab) ((cxU engineFm).fm 26) F26 = true := by kernel_rfl
theorem ok27 : okF Tryz.prog (cxU engineFm) (look engineTab) ((cxU engineFm).fm 27) F27 = true := by kernel_rfl
theorem ok220 : okF Tryz.prog (cxU engineFm) (look engineTab) ((cxU engineFm).fm 220) F220 = true := by kernel_rfl
theorem ok3 : okF Tryz.prog (cxU engineFm) (look engineTab) ((cxU engineFm).fm 3) F3 = true := by kernel_rfl
theorem ok221 : okF Tryz.prog (cxU engineFm) (look engineTab) ((cxU engineFm).fm 221) F221 = true := by kernel_rfl
theorem ok10 : okF Tryz.prog (cxU engineFm) (look engineTab) ((cxU engineFm).fm 10) F10 = true := by kernel_rfl
theorem ok12 : okF Tryz.prog (cxU engineFm) (look engineTab) ((cxU engineFm).fm 12) F12 = true := by kernel_rfl
theorem ok17 : okF Tryz.prog (cxU engineFm) (look engineTab) ((cxU engineFm).fm 17) F17 = true := by kernel_rfl
theorem ok188 : okF Tryz.prog (cxU engineFm) (look engineTab) ((cxU engineFm).fm 188) F188 = true := by kernel_rfl
theorem ok8 : okF Tryz.prog (cxU engineFm) (look engineTab) ((cxU engineFm).fm 8) F8 = true := by kernel_rfl
theorem ok7 : okF Tryz.prog (cxU engineFm) (look engineTab) ((cxU engineFm).fm 7) F7 = true := by kernel_rfl
theorem ok98 : okF Tryz.prog (cxU engineFm) (look engineTab) ((cxU engineFm).fm 98) F98 = true := by kernel_rfl
theorem ok315 : okF Tryz.prog (cxU engineFm) (look engineTab) ((cxU engineFm).fm 315) F315 = true := by kernel_rfl
theorem ok105 : okF Tryz.prog (cxU engineFm) (look engineTab) ((cxU engineFm).fm 105) F105 = true := by kernel_rfl
theorem ok106 : okF Tryz.prog (cxU engineFm) (look engineTab) ((cxU engineFm).fm 106) F106 = true := by kernel_rfl
theorem ok31 : okF Tryz.prog (cxU engineFm) (look engineTab) ((cxU engineFm).fm 31) F31 = true := by kernel_rfl
theorem ok225 : okF Tryz.prog (cxU engineFm) (look engineTab) ((cxU engineFm).fm 225) F225 = true := by kernel_rfl
theorem ok226 : okF Tryz.prog (cxU engineFm) (look engineTab) ((cxU engineFm).fm 226) F226 = true := by kernel_rfl
theorem ok22 : okF Tryz.prog (cxU engineFm) (look engineTab) ((cxU engineFm).fm 22) F22 = true := by kernel_rfl
theorem ok25 : okF Tryz.prog (cxU engineFm) (look engineTab) ((cxU engineFm).fm 25) F25 = true := by kernel_rfl
theorem ok29 : okF Tryz.prog (cxU engineFm) (look engineTab) ((cxU engineFm).fm 29) F29 = true := by kernel_rfl
theorem ok30 : okF Tryz.prog (cxU engineFm) (look engineTab) ((cxU engineFm).fm 30) F30 = true := by kernel_rfl
theorem okAll : okTab Tryz.prog (cxU engineFm) engineTab engineTab = true := okc ok282 (okc ok278 (okc ok28 (okc ok239 (okc ok240 (okc ok279 (okc ok169 (okc ok242 (okc ok101 (okc ok238 (okc ok32 (okc ok283 (okc ok249 (okc ok284 (okc ok285 (okc ok286 (okc ok287 (okc ok171 (okc ok288 (okc ok289 (okc ok290 (okc ok291 (okc ok256 (okc ok258 (okc ok265 (okc ok270 (okc ok267 (okc ok266 (okc ok271 (okc ok273 (okc ok275 (okc ok261 (okc ok262 (okc ok187 (okc ok250 (okc ok252 (okc ok244 (okc ok301 (okc ok313 (okc ok67 (okc ok314 (okc ok186 (okc ok192 (okc ok82 (okc ok84 (okc ok15 (okc ok200 (okc ok88 (okc ok304 (okc ok312 (okc ok21 (okc ok206 (okc ok247 (okc ok303 (okc ok308 (okc ok302 (okc ok178 (okc ok309 (okc ok211 (okc ok311 (okc ok213 (okc ok91 (okc ok217 (okc ok195 (okc ok202 (okc ok86 (okc ok198 (okc ok78 (okc ok203 (okc ok81 (okc ok298 (okc ok299 (okc ok316 (okc ok76 (okc ok191 (okc ok319 (okc ok320 (okc ok97 (okc ok100 (okc ok26 (okc ok27 (okc ok220 (okc ok3 (okc ok221 (okc ok10 (okc ok12 (okc ok17 (okc ok188 (okc ok8 (okc ok7 (okc ok98 (okc ok315 (okc ok105 (okc ok106 (okc ok31 (okc ok225 (okc ok226 (okc ok22 (okc ok25 (okc ok29 (okc ok30 (okp (okp (okp (okp (okp (okp (okp (okp (okp (okp (rfl)))))))))))))))))))))))))))))))))))))))))))))))))))))))))))))))))))))))))))))))))))))))))))))))))))))))))))))))
theorem okClone307 : okF Tryz.prog (cxU engineFm) (onePg 307 (cloneF 17 [.int .i64 0, .int .i64 0, .str [], .str [], .int .i64 0, .slice 2 [], .int .i64 0, .int .i64 0, .int .i64 0, .int .i64 0, .int .i64 0, .int .i64 0, .slice 11 [], .int .i64 0, .int .i64 0, .int .i64 0, .int .i64 0])) 98 (cloneF 17 [.int .i64 0, .int .i64 0, .str [], .str [], .int .i64 0, .slice 2 [], .int .i64 0, .int .i64 0, .int .i64 0, .int .i64 0, .int .i64 0, .int .i64 0, .slice 11 [], .int .i64 0, .int .i64 0, .int .i64 0, .int .i64 0]) = true := by kernel_rfl
theorem okClone102 : okF Tryz.prog (cxU engineFm) (onePg 102 (cloneF 11 [.int .i64 0, .int .i64 0, .int .i64 0, .int .i64 0, .int .i64 0, .int .i64 0, .bool false, .str [], .slice 2 [], .str [], .bool false])) 160 (cloneF 11 [.int .i64 0, .int .i64 0, .int .i64 0, .int .i64 0, .int .i64 0, .int .i64 0, .bool false, .str [], .slice 2 [], .str [], .bool false]) = true := by kernel_rfl
theorem okClone23 : okF Tryz.prog (cxU engineFm) (onePg 23 (cloneF 5 [.int .i64 0, .int .i64 0, .int .i64 0, .bool false, .str []])) 170 (cloneF 5 [.int .i64 0, .int .i64 0, .int .i64 0, .bool false, .str []]) = true := by kernel_rfl
theorem okClone227 : okF Tryz.prog (cxU engineFm) (onePg 227 (cloneF 2 [.str [], .slice 5 []])) 173 (cloneF 2 [.str [], .slice 5 []]) = true := by kernel_rfl
#print axioms okAll
end Sg
