/- AtlasTurns, at every input: proved over a checked abstract run of the translated code; no condition. Part 3 of 4. -/
import Derived.Shelf.Unicode.DecodeAny
import Derived.Lib.OthersKept
import Derived.Test.YtoklilggickleaaDoorChecked
import Derived.Lib.LaidU8
import Derived.Laws.RangeAny
import Derived.WalkKit
import Derived.BigCall
import Derived.DataReads
import Derived.WideShapes
import Derived.ChangeSlices
import Derived.ChangeSame
import Derived.JoinedOf
import Derived.JoinedAt
import Derived.Carry
import Derived.Test.YtoklilggickleaaDoorAtlasTurnsA2
namespace Sg
open _root_.Go (IntKind BinOp UnOp)
def r158_0 : List Op := [
  ⟨some 10, true, .mov (.c (.bool false)), none⟩]
def r158_1 : List Op := [
  ⟨some 23, false, .mov (.g 0), none⟩,
  ⟨some 24, false, .len false (.l 0), none⟩,
  ⟨some 25, true, .bin .gtr (.l 1) (.c (.int .i64 40)), none⟩]
def r158_2 : List Op := [
  ⟨some 26, false, .call (.k 143) .no none [], none⟩,
  ⟨some 10, true, .mov (.l 0), none⟩]
def r158_3 : List Op := [
  ⟨some 28, false, .mov (.g 0), none⟩,
  ⟨some 29, false, .mov (.g 1), none⟩,
  ⟨some 30, false, .mov (.g 2), none⟩,
  ⟨some 31, false, .mov (.g 4), none⟩,
  ⟨some 32, false, .call (.k 159) .no none [.l 0, .l 1, .l 2, .l 3], none⟩,
  ⟨some 27, false, .mov (.l 4), none⟩,
  ⟨some 33, false, .ext (.l 5) 0, none⟩,
  ⟨some 34, false, .ext (.l 5) 1, none⟩,
  ⟨some 11, true, .mov (.l 6), none⟩,
  ⟨some 12, true, .mov (.l 7), none⟩]
def r158_4 : List Op := [
  ⟨some 36, false, .mov (.g 0), none⟩,
  ⟨some 37, false, .mov (.g 1), none⟩,
  ⟨some 38, false, .mov (.g 3), none⟩,
  ⟨some 39, false, .mov (.g 2), none⟩,
  ⟨some 40, false, .mov (.g 4), none⟩,
  ⟨some 41, false, .call (.k 156) .no none [.l 0, .l 1, .l 2, .l 3, .l 4], none⟩,
  ⟨some 35, false, .mov (.l 5), none⟩,
  ⟨some 42, false, .ext (.l 6) 0, none⟩,
  ⟨some 43, false, .ext (.l 6) 1, none⟩,
  ⟨some 13, true, .mov (.l 7), none⟩,
  ⟨some 14, true, .mov (.l 8), none⟩]
def r158_5 : List Op := [
  ⟨some 45, false, .mov (.g 0), none⟩,
  ⟨some 46, false, .mov (.g 1), none⟩,
  ⟨some 47, false, .mov (.g 2), none⟩,
  ⟨some 48, false, .mov (.g 4), none⟩,
  ⟨some 49, false, .call (.k 157) .no none [.l 0, .l 1, .l 2, .l 3], none⟩,
  ⟨some 44, false, .mov (.l 4), none⟩,
  ⟨some 50, false, .ext (.l 5) 0, none⟩,
  ⟨some 51, false, .ext (.l 5) 1, none⟩,
  ⟨some 15, true, .mov (.l 6), none⟩,
  ⟨some 16, true, .mov (.l 7), none⟩]
def r158_6 : List Op := [
  ⟨some 53, false, .mov (.g 0), none⟩,
  ⟨some 54, false, .mov (.g 1), none⟩,
  ⟨some 55, false, .mov (.g 2), none⟩,
  ⟨some 56, false, .mov (.g 3), none⟩,
  ⟨some 57, false, .mov (.g 4), none⟩,
  ⟨some 58, false, .call (.k 160) .no none [.l 0, .c (.int .i64 0), .l 1, .l 2, .l 3, .l 4], none⟩,
  ⟨some 52, false, .mov (.l 5), none⟩,
  ⟨some 59, false, .ext (.l 6) 0, none⟩,
  ⟨some 60, false, .ext (.l 6) 1, none⟩,
  ⟨some 17, true, .mov (.l 7), none⟩,
  ⟨some 18, true, .mov (.l 8), none⟩]
def r158_7 : List Op := [
  ⟨some 62, false, .mov (.g 0), none⟩,
  ⟨some 63, false, .mov (.g 1), none⟩,
  ⟨some 64, false, .mov (.g 2), none⟩,
  ⟨some 65, false, .mov (.g 3), none⟩,
  ⟨some 66, false, .mov (.g 4), none⟩,
  ⟨some 67, false, .call (.k 160) .no none [.l 0, .c (.int .i64 1), .l 1, .l 2, .l 3, .l 4], none⟩,
  ⟨some 61, false, .mov (.l 5), none⟩,
  ⟨some 68, false, .ext (.l 6) 0, none⟩,
  ⟨some 69, false, .ext (.l 6) 1, none⟩,
  ⟨some 19, true, .mov (.l 7), none⟩,
  ⟨some 20, true, .mov (.l 8), none⟩]
def r158_8 : List Op := [
  ⟨some 71, false, .mov (.g 0), none⟩,
  ⟨some 72, false, .mov (.g 1), none⟩,
  ⟨some 73, false, .mov (.g 2), none⟩,
  ⟨some 74, false, .mov (.g 3), none⟩,
  ⟨some 75, false, .mov (.g 4), none⟩,
  ⟨some 76, false, .call (.k 160) .no none [.l 0, .c (.int .i64 2), .l 1, .l 2, .l 3, .l 4], none⟩,
  ⟨some 70, false, .mov (.l 5), none⟩,
  ⟨some 77, false, .ext (.l 6) 0, none⟩,
  ⟨some 78, false, .ext (.l 6) 1, none⟩,
  ⟨some 21, true, .mov (.l 7), none⟩,
  ⟨some 22, true, .mov (.l 8), none⟩]
def r158_9 : List Op := [
  ⟨some 79, false, .mov (.g 11), none⟩,
  ⟨some 80, false, .mov (.g 17), none⟩,
  ⟨some 81, false, .call (.k 153) .no none [.l 0, .l 1], none⟩,
  ⟨some 82, false, .mov (.l 2), none⟩,
  ⟨some 83, false, .mov (.g 12), (some (3, true))⟩,
  ⟨some 84, false, .mov (.g 18), (some (3, true))⟩,
  ⟨some 85, false, .bin .eql (.l 4) (.l 5), (some (3, true))⟩,
  ⟨some 86, false, .pick (.l 3) (.l 6) (.c (.bool false)), none⟩,
  ⟨some 87, false, .mov (.l 7), none⟩,
  ⟨some 88, false, .mov (.g 13), (some (8, true))⟩,
  ⟨some 89, false, .mov (.g 19), (some (8, true))⟩,
  ⟨some 90, false, .call (.k 153) .no none [.l 9, .l 10], (some (8, true))⟩,
  ⟨some 91, false, .pick (.l 8) (.l 11) (.c (.bool false)), none⟩,
  ⟨some 92, false, .mov (.l 12), none⟩,
  ⟨some 93, false, .mov (.g 14), (some (13, true))⟩,
  ⟨some 94, false, .mov (.g 20), (some (13, true))⟩,
  ⟨some 95, false, .bin .eql (.l 14) (.l 15), (some (13, true))⟩,
  ⟨some 96, false, .pick (.l 13) (.l 16) (.c (.bool false)), none⟩,
  ⟨some 97, false, .mov (.l 17), none⟩,
  ⟨some 98, false, .mov (.g 15), (some (18, true))⟩,
  ⟨some 99, false, .mov (.g 21), (some (18, true))⟩,
  ⟨some 100, false, .call (.k 153) .no none [.l 19, .l 20], (some (18, true))⟩,
  ⟨some 101, false, .pick (.l 18) (.l 21) (.c (.bool false)), none⟩,
  ⟨some 102, false, .mov (.l 22), none⟩,
  ⟨some 103, false, .mov (.g 16), (some (23, true))⟩,
  ⟨some 104, false, .mov (.g 22), (some (23, true))⟩,
  ⟨some 105, false, .bin .eql (.l 24) (.l 25), (some (23, true))⟩,
  ⟨some 106, false, .pick (.l 23) (.l 26) (.c (.bool false)), none⟩,
  ⟨some 107, false, .mov (.l 27), none⟩,
  ⟨some 108, false, .call (.k 143) .no none [], (some (28, true))⟩,
  ⟨some 109, false, .pick (.l 28) (.l 29) (.c (.bool false)), none⟩,
  ⟨some 10, true, .mov (.l 30), none⟩]
def c158 : C := .seq (.region false r158_0) (.seq (.seq (.region false r158_1) (.cond (.g 25) (.seq (.region false r158_2) (.ret)) (.skip))) (.seq (.region false r158_3) (.seq (.region false r158_4) (.seq (.region false r158_5) (.seq (.region false r158_6) (.seq (.region false r158_7) (.seq (.region false r158_8) (.seq (.region false r158_9) (.ret)))))))))
def F158 : F := ⟨5, [0, 1, 2, 3, 4, 10, 11, 12, 13, 14, 15, 16, 17, 18, 19, 20, 21, 22, 25], [.t 10], none, c158⟩
attribute [go_sem] r158_0 r158_1 r158_2 r158_3 r158_4 r158_5 r158_6 r158_7 r158_8 r158_9 c158 F158
def r141_0 : List Op := [
  ⟨some 2, true, .mov (.c (.bool false)), none⟩]
def r141_1 : List Op := [
  ⟨some 6, false, .mov (.g 0), none⟩,
  ⟨some 7, false, .len false (.l 0), none⟩,
  ⟨some 8, true, .bin .gtr (.l 1) (.c (.int .i64 8)), none⟩]
def r141_2 : List Op := [
  ⟨some 2, true, .mov (.c (.bool false)), none⟩]
def r141_3 : List Op := [
  ⟨some 3, true, .mko 2, none⟩]
def r141_4 : List Op := [
  ⟨some 9, true, .mov (.g 0), none⟩,
  ⟨some 10, true, .len false (.l 0), none⟩,
  ⟨some 11, true, .mov (.c (.int .i64 0)), none⟩]
def r141_5 : List Op := [
  ⟨some 12, true, .bin .lss (.g 11) (.g 10), none⟩]
def r141_6 : List Op := [
  ⟨some 13, false, .mov (.g 11), none⟩,
  ⟨some 14, false, .iad 5 (.g 9) (.g 11), none⟩,
  ⟨some 15, false, .load (.c) (some 5) (.l 1), none⟩,
  ⟨some 5, true, .alloc [.str [], .str [], .int .i64 0, .int .i64 0, .int .i64 0], none⟩,
  ⟨some 4, true, .mov (.l 0), none⟩,
  ⟨none, false, .store (.v 5) 5 (.l 3) (.l 2), none⟩]
def r141_7 : List Op := [
  ⟨some 16, false, .fad (.g 5) 2, none⟩,
  ⟨some 17, false, .load (.v 5) none (.l 0), none⟩,
  ⟨some 18, false, .call (.k 162) .no none [.l 1], none⟩,
  ⟨some 19, false, .un .not (.l 2), none⟩,
  ⟨some 20, false, .mov (.l 3), none⟩,
  ⟨some 21, false, .fad (.g 5) 4, (some (4, false))⟩,
  ⟨some 22, false, .load (.v 5) none (.l 5), (some (4, false))⟩,
  ⟨some 23, false, .call (.k 162) .no none [.l 6], (some (4, false))⟩,
  ⟨some 24, false, .un .not (.l 7), (some (4, false))⟩,
  ⟨some 25, false, .pick (.l 4) (.c (.bool true)) (.l 8), none⟩,
  ⟨some 26, false, .mov (.l 9), none⟩,
  ⟨some 27, false, .fad (.g 5) 3, (some (10, false))⟩,
  ⟨some 28, false, .load (.v 5) none (.l 11), (some (10, false))⟩,
  ⟨some 29, false, .call (.k 163) .no none [.l 12], (some (10, false))⟩,
  ⟨some 30, false, .un .not (.l 13), (some (10, false))⟩,
  ⟨some 31, true, .pick (.l 10) (.c (.bool true)) (.l 14), none⟩]
def r141_8 : List Op := [
  ⟨some 2, true, .mov (.c (.bool false)), none⟩]
def r141_9 : List Op := [
  ⟨some 32, false, .mov (.g 0), none⟩,
  ⟨some 33, false, .mov (.g 4), none⟩,
  ⟨some 34, false, .sl false 5 (.l 0) none (some (.l 1)), none⟩,
  ⟨some 35, false, .fn 164 [.g 5] [5], none⟩,
  ⟨some 36, true, .call (.k 165) .no none [.l 2, .l 3], none⟩]
def r141_10 : List Op := [
  ⟨some 2, true, .mov (.c (.bool false)), none⟩]
def r141_11 : List Op := [
  ⟨some 37, false, .mov (.g 3), none⟩,
  ⟨some 38, false, .fad (.g 5) 0, none⟩,
  ⟨some 39, false, .load (.v 5) (some 2) (.l 1), none⟩,
  ⟨some 40, false, .mks 2 1 [.str [], .str []] [(0, .l 2)], none⟩,
  ⟨some 41, false, .app 3 2 (.l 0) (.l 3), none⟩,
  ⟨some 3, true, .mov (.l 4), none⟩]
def r141_12 : List Op := [
  ⟨some 42, false, .bin .add (.g 11) (.c (.int .i64 1)), none⟩,
  ⟨some 11, true, .mov (.l 0), none⟩]
def b141_0 : C := .seq (.region false r141_5) (.seq (.cond (.g 12) (.skip) (.exit 0)) (.seq (.block 1 (.seq (.region false r141_6) (.seq (.seq (.region false r141_7) (.cond (.g 31) (.seq (.region false r141_8) (.ret)) (.skip))) (.seq (.seq (.region false r141_9) (.cond (.g 36) (.seq (.region false r141_10) (.ret)) (.skip))) (.region false r141_11))))) (.region false r141_12)))
def l141_0 : C := .loop [] [] [5] [] b141_0
def r141_13 : List Op := [
  ⟨some 43, false, .mov (.g 3), none⟩,
  ⟨some 44, false, .call (.k 166) .borrow none [.l 0], none⟩,
  ⟨some 2, true, .mov (.l 1), none⟩]
def c141 : C := .seq (.region false r141_0) (.seq (.seq (.region false r141_1) (.cond (.g 8) (.seq (.region false r141_2) (.ret)) (.skip))) (.seq (.region false r141_3) (.seq (.seq (.region false r141_4) (.block 0 (l141_0))) (.seq (.region false r141_13) (.ret)))))
def F141 : F := ⟨1, [0, 2, 3, 4, 5, 8, 9, 10, 11, 12, 31, 36], [.t 2], none, c141⟩
attribute [go_sem] r141_0 r141_1 r141_2 r141_3 r141_4 r141_5 r141_6 r141_7 r141_8 r141_9 r141_10 r141_11 r141_12 b141_0 r141_13 c141 F141
def r143_0 : List Op := [
  ⟨some 0, true, .mov (.c (.bool false)), none⟩]
def r143_1 : List Op := [
  ⟨some 6, false, .call (.k 154) .no none [], none⟩,
  ⟨some 7, false, .call (.k 156) .no none [.l 0, .c (.int .i64 1), .c (.str [109]), .c (.int .i64 2), .c (.int .i64 2)], none⟩,
  ⟨some 5, false, .mov (.l 1), none⟩,
  ⟨some 8, false, .ext (.l 2) 0, none⟩,
  ⟨some 9, false, .ext (.l 2) 1, none⟩,
  ⟨some 1, true, .mov (.l 3), none⟩,
  ⟨some 2, true, .mov (.l 4), none⟩]
def r143_2 : List Op := [
  ⟨some 11, false, .mov (.g 1), none⟩,
  ⟨some 12, false, .call (.k 144) .no none [.l 0, .c (.str [122])], none⟩,
  ⟨some 10, false, .mov (.l 1), none⟩,
  ⟨some 13, false, .ext (.l 2) 0, none⟩,
  ⟨some 14, false, .ext (.l 2) 1, none⟩,
  ⟨some 3, true, .alloc [.str [], .str [], .int .i64 0, .int .i64 0, .int .i64 0], none⟩,
  ⟨none, false, .store (.v 3) 5 (.l 5) (.l 3), none⟩,
  ⟨some 4, true, .mov (.l 4), none⟩]
def r143_3 : List Op := [
  ⟨some 15, false, .mov (.g 1), none⟩,
  ⟨some 16, false, .len false (.l 0), none⟩,
  ⟨some 17, false, .bin .eql (.l 1) (.c (.int .i64 2)), none⟩,
  ⟨some 18, false, .mov (.l 2), none⟩,
  ⟨some 19, false, .mov (.g 2), (some (3, true))⟩,
  ⟨some 20, false, .bin .eql (.l 4) (.c (.int .i64 0)), (some (3, true))⟩,
  ⟨some 21, false, .pick (.l 3) (.l 5) (.c (.bool false)), none⟩,
  ⟨some 22, false, .mov (.l 6), none⟩,
  ⟨some 23, false, .mov (.g 4), (some (7, true))⟩,
  ⟨some 24, false, .pick (.l 7) (.l 8) (.c (.bool false)), none⟩,
  ⟨some 25, false, .mov (.l 9), none⟩,
  ⟨some 26, false, .fad (.g 3) 2, (some (10, true))⟩,
  ⟨some 27, false, .load (.v 3) none (.l 11), (some (10, true))⟩,
  ⟨some 28, false, .bin .eql (.l 12) (.c (.int .i64 2)), (some (10, true))⟩,
  ⟨some 29, false, .pick (.l 10) (.l 13) (.c (.bool false)), none⟩,
  ⟨some 30, false, .mov (.l 14), none⟩,
  ⟨some 31, false, .fad (.g 3) 0, (some (15, true))⟩,
  ⟨some 32, false, .load (.v 3) (some 2) (.l 16), (some (15, true))⟩,
  ⟨some 33, false, .build [.str [], .str []] [(0, 1, .c (.str [109]))], (some (15, true))⟩,
  ⟨some 34, false, .eqa false [.s, .s] (.l 17) (.l 18), (some (15, true))⟩,
  ⟨some 35, false, .pick (.l 15) (.l 19) (.c (.bool false)), none⟩,
  ⟨some 0, true, .mov (.l 20), none⟩]
def c143 : C := .seq (.region false r143_0) (.seq (.region false r143_1) (.seq (.region false r143_2) (.seq (.region false r143_3) (.ret))))
def F143 : F := ⟨0, [0, 1, 2, 3, 4], [.t 0], none, c143⟩
attribute [go_sem] r143_0 r143_1 r143_2 r143_3 c143 F143
def r144_0 : List Op := [
  ⟨some 4, true, .alloc [.str [], .str [], .int .i64 0, .int .i64 0, .int .i64 0], none⟩,
  ⟨some 5, true, .mov (.c (.bool false)), none⟩]
def r144_1 : List Op := [
  ⟨some 8, false, .mov (.g 0), none⟩,
  ⟨some 9, false, .call (.k 141) .no none [.l 0], none⟩,
  ⟨some 10, false, .un .not (.l 1), none⟩,
  ⟨some 11, false, .mov (.l 2), none⟩,
  ⟨some 12, false, .mov (.g 1), (some (3, false))⟩,
  ⟨some 13, false, .bin .neq (.l 4) (.c (.str [])), (some (3, false))⟩,
  ⟨some 14, false, .mov (.l 5), (some (3, false))⟩,
  ⟨some 15, false, .mov (.g 1), (some (6, true))⟩,
  ⟨some 16, false, .call (.k 170) .no none [.l 7], (some (6, true))⟩,
  ⟨some 17, false, .un .not (.l 8), (some (6, true))⟩,
  ⟨some 18, false, .pick (.l 6) (.l 9) (.c (.bool false)), (some (3, false))⟩,
  ⟨some 19, true, .pick (.l 3) (.c (.bool true)) (.l 10), none⟩]
def r144_2 : List Op := [
  ⟨some 20, false, .build [.str [], .str [], .int .i64 0, .int .i64 0, .int .i64 0] [], none⟩,
  ⟨none, false, .store (.v 4) 5 (.g 4) (.l 0), none⟩,
  ⟨some 5, true, .mov (.c (.bool false)), none⟩]
def r144_3 : List Op := [
  ⟨some 21, true, .mov (.g 0), none⟩,
  ⟨some 22, true, .len false (.l 0), none⟩,
  ⟨some 23, true, .mov (.c (.int .i64 0)), none⟩]
def r144_4 : List Op := [
  ⟨some 24, true, .bin .lss (.g 23) (.g 22), none⟩]
def r144_5 : List Op := [
  ⟨some 25, false, .iad 5 (.g 21) (.g 23), none⟩,
  ⟨some 26, false, .load (.c) (some 5) (.l 0), none⟩,
  ⟨some 7, true, .alloc [.str [], .str [], .int .i64 0, .int .i64 0, .int .i64 0], none⟩,
  ⟨none, false, .store (.v 7) 5 (.l 2) (.l 1), none⟩]
def r144_6 : List Op := [
  ⟨some 27, false, .mov (.g 1), none⟩,
  ⟨some 28, false, .bin .eql (.l 0) (.c (.str [])), none⟩,
  ⟨some 29, false, .mov (.l 1), none⟩,
  ⟨some 30, false, .fad (.g 7) 0, (some (2, false))⟩,
  ⟨some 31, false, .load (.v 7) (some 2) (.l 3), (some (2, false))⟩,
  ⟨some 32, false, .mov (.g 1), (some (2, false))⟩,
  ⟨some 33, false, .call (.k 171) .no none [.l 4, .l 5], (some (2, false))⟩,
  ⟨some 34, true, .pick (.l 2) (.c (.bool true)) (.l 6), none⟩]
def r144_7 : List Op := [
  ⟨some 35, false, .load (.v 7) (some 5) (.g 7), none⟩,
  ⟨none, false, .store (.v 4) 5 (.g 4) (.l 0), none⟩,
  ⟨some 5, true, .mov (.c (.bool true)), none⟩]
def r144_8 : List Op := [
  ⟨some 36, false, .bin .add (.g 23) (.c (.int .i64 1)), none⟩,
  ⟨some 23, true, .mov (.l 0), none⟩]
def b144_0 : C := .seq (.region false r144_4) (.seq (.cond (.g 24) (.skip) (.exit 0)) (.seq (.block 1 (.seq (.region false r144_5) (.seq (.region false r144_6) (.cond (.g 34) (.seq (.region false r144_7) (.ret)) (.skip))))) (.region false r144_8)))
def l144_0 : C := .loop [] [] [7] [] b144_0
def r144_9 : List Op := [
  ⟨some 37, false, .build [.str [], .str [], .int .i64 0, .int .i64 0, .int .i64 0] [], none⟩,
  ⟨none, false, .store (.v 4) 5 (.g 4) (.l 0), none⟩,
  ⟨some 5, true, .mov (.c (.bool false)), none⟩]
def c144 : C := .seq (.region false r144_0) (.seq (.seq (.region false r144_1) (.cond (.g 19) (.seq (.region false r144_2) (.ret)) (.skip))) (.seq (.seq (.region false r144_3) (.block 0 (l144_0))) (.seq (.region false r144_9) (.ret))))
def F144 : F := ⟨2, [0, 1, 4, 5, 7, 19, 21, 22, 23, 24, 34], [.cell 4 (some 5), .t 5], none, c144⟩
attribute [go_sem] r144_0 r144_1 r144_2 r144_3 r144_4 r144_5 r144_6 r144_7 r144_8 b144_0 r144_9 c144 F144
def r147_0 : List Op := [
  ⟨some 2, true, .mov (.c (.bool false)), none⟩]
def r147_1 : List Op := [
  ⟨some 6, false, .mov (.g 0), none⟩,
  ⟨some 7, false, .len false (.l 0), none⟩,
  ⟨some 8, true, .bin .gtr (.l 1) (.c (.int .i64 8)), none⟩]
def r147_2 : List Op := [
  ⟨some 2, true, .mov (.c (.bool false)), none⟩]
def r147_3 : List Op := [
  ⟨some 3, true, .mko 2, none⟩]
def r147_4 : List Op := [
  ⟨some 4, true, .mov (.c (.int .i64 0)), none⟩]
def r147_5 : List Op := [
  ⟨some 9, false, .mov (.g 4), none⟩,
  ⟨some 10, false, .mov (.g 0), none⟩,
  ⟨some 11, false, .len false (.l 1), none⟩,
  ⟨some 12, true, .bin .lss (.l 0) (.l 2), none⟩]
def r147_6 : List Op := [
  ⟨some 15, false, .mov (.g 3), none⟩,
  ⟨some 16, false, .mov (.g 0), none⟩,
  ⟨some 17, false, .mov (.g 4), none⟩,
  ⟨some 18, false, .iad 5 (.l 1) (.l 2), none⟩,
  ⟨some 19, false, .fad (.l 3) 0, none⟩,
  ⟨some 20, false, .load (.c) (some 2) (.l 4), none⟩,
  ⟨some 21, false, .mks 2 1 [.str [], .str []] [(0, .l 5)], none⟩,
  ⟨some 22, false, .app 3 2 (.l 0) (.l 6), none⟩,
  ⟨some 3, true, .mov (.l 7), none⟩]
def r147_7 : List Op := [
  ⟨some 23, false, .mov (.g 0), none⟩,
  ⟨some 24, false, .mov (.g 4), none⟩,
  ⟨some 25, false, .iad 5 (.l 0) (.l 1), none⟩,
  ⟨some 26, false, .fad (.l 2) 2, none⟩,
  ⟨some 27, false, .load (.c) none (.l 3), none⟩,
  ⟨some 28, false, .call (.k 173) .no none [.l 4], none⟩,
  ⟨some 29, false, .un .not (.l 5), none⟩,
  ⟨some 30, false, .mov (.l 6), none⟩,
  ⟨some 31, false, .mov (.g 0), (some (7, false))⟩,
  ⟨some 32, false, .mov (.g 4), (some (7, false))⟩,
  ⟨some 33, false, .iad 5 (.l 8) (.l 9), (some (7, false))⟩,
  ⟨some 34, false, .fad (.l 10) 4, (some (7, false))⟩,
  ⟨some 35, false, .load (.c) none (.l 11), (some (7, false))⟩,
  ⟨some 36, false, .call (.k 173) .no none [.l 12], (some (7, false))⟩,
  ⟨some 37, false, .un .not (.l 13), (some (7, false))⟩,
  ⟨some 38, false, .pick (.l 7) (.c (.bool true)) (.l 14), none⟩,
  ⟨some 39, false, .mov (.l 15), none⟩,
  ⟨some 40, false, .mov (.g 0), (some (16, false))⟩,
  ⟨some 41, false, .mov (.g 4), (some (16, false))⟩,
  ⟨some 42, false, .iad 5 (.l 17) (.l 18), (some (16, false))⟩,
  ⟨some 43, false, .fad (.l 19) 3, (some (16, false))⟩,
  ⟨some 44, false, .load (.c) none (.l 20), (some (16, false))⟩,
  ⟨some 45, false, .bin .lss (.l 21) (.c (.int .i64 1)), (some (16, false))⟩,
  ⟨some 46, false, .pick (.l 16) (.c (.bool true)) (.l 22), none⟩,
  ⟨some 47, false, .mov (.l 23), none⟩,
  ⟨some 48, false, .mov (.g 0), (some (24, false))⟩,
  ⟨some 49, false, .mov (.g 4), (some (24, false))⟩,
  ⟨some 50, false, .iad 5 (.l 25) (.l 26), (some (24, false))⟩,
  ⟨some 51, false, .fad (.l 27) 3, (some (24, false))⟩,
  ⟨some 52, false, .load (.c) none (.l 28), (some (24, false))⟩,
  ⟨some 53, false, .bin .gtr (.l 29) (.c (.int .i64 3)), (some (24, false))⟩,
  ⟨some 54, true, .pick (.l 24) (.c (.bool true)) (.l 30), none⟩]
def r147_8 : List Op := [
  ⟨some 2, true, .mov (.c (.bool false)), none⟩]
def r147_9 : List Op := [
  ⟨some 55, false, .mov (.g 4), none⟩,
  ⟨some 56, false, .bin .add (.l 0) (.c (.int .i64 1)), none⟩,
  ⟨some 5, true, .mov (.l 1), none⟩]
def r147_10 : List Op := [
  ⟨some 57, false, .mov (.g 5), none⟩,
  ⟨some 58, false, .mov (.g 0), none⟩,
  ⟨some 59, false, .len false (.l 1), none⟩,
  ⟨some 60, true, .bin .lss (.l 0) (.l 2), none⟩]
def r147_11 : List Op := [
  ⟨some 63, false, .mov (.g 0), none⟩,
  ⟨some 64, false, .mov (.g 5), none⟩,
  ⟨some 65, false, .iad 5 (.l 0) (.l 1), none⟩,
  ⟨some 66, false, .fad (.l 2) 2, none⟩,
  ⟨some 67, false, .load (.c) none (.l 3), none⟩,
  ⟨some 68, false, .mov (.g 0), none⟩,
  ⟨some 69, false, .mov (.g 4), none⟩,
  ⟨some 70, false, .iad 5 (.l 5) (.l 6), none⟩,
  ⟨some 71, false, .fad (.l 7) 2, none⟩,
  ⟨some 72, false, .load (.c) none (.l 8), none⟩,
  ⟨some 73, true, .bin .eql (.l 4) (.l 9), none⟩]
def r147_12 : List Op := [
  ⟨some 2, true, .mov (.c (.bool false)), none⟩]
def r147_13 : List Op := [
  ⟨some 61, false, .mov (.g 5), none⟩,
  ⟨some 62, false, .bin .add (.l 0) (.c (.int .i64 1)), none⟩,
  ⟨some 5, true, .mov (.l 1), none⟩]
def b147_1 : C := .seq (.seq (.region false r147_10) (.cond (.g 60) (.skip) (.exit 2))) (.seq (.block 3 (.seq (.region true r147_11) (.cond (.g 73) (.seq (.region false r147_12) (.ret)) (.skip)))) (.region false r147_13))
def l147_1 : C := .loop [] [] [] [] b147_1
def r147_14 : List Op := [
  ⟨some 13, false, .mov (.g 4), none⟩,
  ⟨some 14, false, .bin .add (.l 0) (.c (.int .i64 1)), none⟩,
  ⟨some 4, true, .mov (.l 1), none⟩]
def b147_0 : C := .seq (.seq (.region false r147_5) (.cond (.g 12) (.skip) (.exit 0))) (.seq (.block 1 (.seq (.region false r147_6) (.seq (.seq (.region false r147_7) (.cond (.g 54) (.seq (.region false r147_8) (.ret)) (.skip))) (.seq (.region false r147_9) (.block 2 (l147_1)))))) (.region false r147_14))
def l147_0 : C := .loop [] [] [] [] b147_0
def r147_15 : List Op := [
  ⟨some 74, false, .mov (.g 3), none⟩,
  ⟨some 75, false, .call (.k 174) .borrow none [.l 0], none⟩,
  ⟨some 2, true, .mov (.l 1), none⟩]
def c147 : C := .seq (.region false r147_0) (.seq (.seq (.region false r147_1) (.cond (.g 8) (.seq (.region false r147_2) (.ret)) (.skip))) (.seq (.region false r147_3) (.seq (.seq (.region false r147_4) (.block 0 (l147_0))) (.seq (.region false r147_15) (.ret)))))
def F147 : F := ⟨1, [0, 2, 3, 4, 5, 8, 12, 54, 60, 73], [.t 2], none, c147⟩
attribute [go_sem] r147_0 r147_1 r147_2 r147_3 r147_4 r147_5 r147_6 r147_7 r147_8 r147_9 r147_10 r147_11 r147_12 r147_13 b147_1 r147_14 b147_0 r147_15 c147 F147
def r151_0 : List Op := [
  ⟨some 4, true, .mov (.c (.int .i64 0)), none⟩]
def r151_1 : List Op := [
  ⟨some 5, true, .mov (.c (.int .i64 0)), none⟩]
def r151_2 : List Op := [
  ⟨some 6, false, .mov (.g 5), none⟩,
  ⟨some 7, false, .mov (.g 0), none⟩,
  ⟨some 8, false, .len false (.l 1), none⟩,
  ⟨some 9, true, .bin .lss (.l 0) (.l 2), none⟩]
def r151_3 : List Op := [
  ⟨some 12, false, .mov (.g 0), none⟩,
  ⟨some 13, false, .mov (.g 5), none⟩,
  ⟨some 14, false, .iad 5 (.l 0) (.l 1), none⟩,
  ⟨some 15, false, .fad (.l 2) 2, none⟩,
  ⟨some 16, false, .load (.c) none (.l 3), none⟩,
  ⟨some 17, false, .mov (.g 1), none⟩,
  ⟨some 18, true, .bin .eql (.l 4) (.l 5), none⟩]
def r151_4 : List Op := [
  ⟨some 19, false, .mov (.g 5), none⟩,
  ⟨some 4, true, .mov (.l 0), none⟩]
def r151_5 : List Op := [
  ⟨some 10, false, .mov (.g 5), none⟩,
  ⟨some 11, false, .bin .add (.l 0) (.c (.int .i64 1)), none⟩,
  ⟨some 5, true, .mov (.l 1), none⟩]
def b151_0 : C := .seq (.seq (.region false r151_2) (.cond (.g 9) (.skip) (.exit 0))) (.seq (.block 1 (.seq (.region false r151_3) (.cond (.g 18) (.seq (.region false r151_4) (.ret)) (.skip)))) (.region false r151_5))
def l151_0 : C := .loop [] [] [] [] b151_0
def r151_6 : List Op := [
  ⟨some 4, true, .mov (.c (.int .i64 (-1))), none⟩]
def c151 : C := .seq (.region false r151_0) (.seq (.seq (.region false r151_1) (.block 0 (l151_0))) (.seq (.region false r151_6) (.ret)))
def F151 : F := ⟨2, [0, 1, 4, 5, 9, 18], [.t 4], none, c151⟩
attribute [go_sem] r151_0 r151_1 r151_2 r151_3 r151_4 r151_5 b151_0 r151_6 c151 F151
def r153_0 : List Op := [
  ⟨some 4, true, .mov (.c (.bool false)), none⟩]
def r153_1 : List Op := [
  ⟨some 6, false, .mov (.g 0), none⟩,
  ⟨some 7, false, .len false (.l 0), none⟩,
  ⟨some 8, false, .mov (.g 1), none⟩,
  ⟨some 9, false, .len false (.l 2), none⟩,
  ⟨some 10, true, .bin .neq (.l 1) (.l 3), none⟩]
def r153_2 : List Op := [
  ⟨some 4, true, .mov (.c (.bool false)), none⟩]
def r153_3 : List Op := [
  ⟨some 5, true, .mov (.c (.int .i64 0)), none⟩]
def r153_4 : List Op := [
  ⟨some 11, false, .mov (.g 5), none⟩,
  ⟨some 12, false, .mov (.g 0), none⟩,
  ⟨some 13, false, .len false (.l 1), none⟩,
  ⟨some 14, true, .bin .lss (.l 0) (.l 2), none⟩]
def r153_5 : List Op := [
  ⟨some 17, false, .mov (.g 0), none⟩,
  ⟨some 18, false, .mov (.g 5), none⟩,
  ⟨some 19, false, .iad 5 (.l 0) (.l 1), none⟩,
  ⟨some 20, false, .load (.c) (some 5) (.l 2), none⟩,
  ⟨some 21, false, .mov (.g 1), none⟩,
  ⟨some 22, false, .mov (.g 5), none⟩,
  ⟨some 23, false, .iad 5 (.l 4) (.l 5), none⟩,
  ⟨some 24, false, .load (.c) (some 5) (.l 6), none⟩,
  ⟨some 25, true, .eqa true [.s, .s, .i, .i, .i] (.l 3) (.l 7), none⟩]
def r153_6 : List Op := [
  ⟨some 4, true, .mov (.c (.bool false)), none⟩]
def r153_7 : List Op := [
  ⟨some 15, false, .mov (.g 5), none⟩,
  ⟨some 16, false, .bin .add (.l 0) (.c (.int .i64 1)), none⟩,
  ⟨some 5, true, .mov (.l 1), none⟩]
def b153_0 : C := .seq (.seq (.region false r153_4) (.cond (.g 14) (.skip) (.exit 0))) (.seq (.block 1 (.seq (.region true r153_5) (.cond (.g 25) (.seq (.region false r153_6) (.ret)) (.skip)))) (.region false r153_7))
def l153_0 : C := .loop [] [] [] [] b153_0
def r153_8 : List Op := [
  ⟨some 4, true, .mov (.c (.bool true)), none⟩]
def c153 : C := .seq (.region false r153_0) (.seq (.seq (.region false r153_1) (.cond (.g 10) (.seq (.region false r153_2) (.ret)) (.skip))) (.seq (.seq (.region false r153_3) (.block 0 (l153_0))) (.seq (.region false r153_8) (.ret))))
def F153 : F := ⟨2, [0, 1, 4, 5, 10, 14, 25], [.t 4], none, c153⟩
attribute [go_sem] r153_0 r153_1 r153_2 r153_3 r153_4 r153_5 r153_6 r153_7 b153_0 r153_8 c153 F153
def r154_0 : List Op := [
  ⟨some 0, true, .mov (.c (.slice 5 [])), none⟩]
def r154_1 : List Op := [
  ⟨some 1, false, .build [.str [], .str [], .int .i64 0, .int .i64 0, .int .i64 0] [(2, 1, .c (.int .i64 1)), (3, 1, .c (.int .i64 1)), (4, 1, .c (.int .i64 1))], none⟩,
  ⟨some 2, false, .mks 5 1 [.str [], .str [], .int .i64 0, .int .i64 0, .int .i64 0] [(0, .l 0)], none⟩,
  ⟨some 0, true, .mov (.l 1), none⟩]
def c154 : C := .seq (.region false r154_0) (.seq (.region false r154_1) (.ret))
def F154 : F := ⟨0, [0], [.t 0], none, c154⟩
attribute [go_sem] r154_0 r154_1 c154 F154
def r156_0 : List Op := [
  ⟨some 10, true, .mov (.c (.slice 5 [])), none⟩,
  ⟨some 11, true, .mov (.c (.int .i64 0)), none⟩]
def r156_1 : List Op := [
  ⟨some 18, false, .mov (.g 0), none⟩,
  ⟨some 19, false, .mov (.g 1), none⟩,
  ⟨some 20, false, .mov (.g 4), none⟩,
  ⟨some 21, false, .call (.k 177) .no none [.l 0, .l 1, .l 2], none⟩,
  ⟨some 17, false, .mov (.l 3), none⟩,
  ⟨some 22, false, .ext (.l 4) 0, none⟩,
  ⟨some 23, false, .ext (.l 4) 1, none⟩,
  ⟨some 12, true, .mov (.l 5), none⟩,
  ⟨some 13, true, .mov (.l 6), none⟩]
def r156_2 : List Op := [
  ⟨some 25, false, .mov (.g 3), none⟩,
  ⟨some 26, false, .call (.k 162) .no none [.l 0], none⟩,
  ⟨some 27, false, .un .not (.l 1), none⟩,
  ⟨some 24, true, .mov (.l 2), none⟩]
def r156_3 : List Op := [
  ⟨some 10, true, .mov (.c (.slice 5 [])), none⟩,
  ⟨some 11, true, .mov (.c (.int .i64 1)), none⟩]
def r156_4 : List Op := [
  ⟨some 29, false, .mov (.g 13), none⟩,
  ⟨some 30, false, .bin .neq (.l 0) (.c (.int .i64 0)), none⟩,
  ⟨some 28, true, .mov (.l 1), none⟩]
def r156_5 : List Op := [
  ⟨some 31, false, .mov (.g 13), none⟩,
  ⟨some 10, true, .mov (.c (.slice 5 [])), none⟩,
  ⟨some 11, true, .mov (.l 0), none⟩]
def r156_6 : List Op := [
  ⟨some 33, false, .mov (.g 0), none⟩,
  ⟨some 34, false, .mov (.g 3), none⟩,
  ⟨some 35, false, .call (.k 175) .no none [.l 0, .l 1], none⟩,
  ⟨some 36, false, .bin .geq (.l 2) (.c (.int .i64 0)), none⟩,
  ⟨some 32, true, .mov (.l 3), none⟩]
def r156_7 : List Op := [
  ⟨some 10, true, .mov (.c (.slice 5 [])), none⟩,
  ⟨some 11, true, .mov (.c (.int .i64 8)), none⟩]
def r156_8 : List Op := [
  ⟨some 38, false, .mov (.g 0), none⟩,
  ⟨some 39, false, .len false (.l 0), none⟩,
  ⟨some 40, false, .bin .eql (.l 1) (.c (.int .i64 8)), none⟩,
  ⟨some 37, true, .mov (.l 2), none⟩]
def r156_9 : List Op := [
  ⟨some 10, true, .mov (.c (.slice 5 [])), none⟩,
  ⟨some 11, true, .mov (.c (.int .i64 6)), none⟩]
def r156_10 : List Op := [
  ⟨some 42, false, .mov (.g 0), none⟩,
  ⟨some 43, false, .mov (.g 12), none⟩,
  ⟨some 44, false, .iad 5 (.l 0) (.l 1), none⟩,
  ⟨some 45, false, .fad (.l 2) 0, none⟩,
  ⟨some 46, false, .load (.c) (some 2) (.l 3), none⟩,
  ⟨some 47, false, .mov (.g 2), none⟩,
  ⟨some 48, false, .call (.k 178) .no none [.l 4, .l 5], none⟩,
  ⟨some 41, false, .mov (.l 6), none⟩,
  ⟨some 49, false, .ext (.l 7) 0, none⟩,
  ⟨some 50, false, .ext (.l 7) 1, none⟩,
  ⟨some 51, false, .ext (.l 7) 2, none⟩,
  ⟨some 14, true, .alloc [.str [], .str []], none⟩,
  ⟨some 15, true, .alloc [.str [], .str []], none⟩,
  ⟨none, false, .store (.v 14) 2 (.l 11) (.l 8), none⟩,
  ⟨none, false, .store (.v 15) 2 (.l 12) (.l 9), none⟩,
  ⟨some 13, true, .mov (.l 10), none⟩]
def r156_11 : List Op := [
  ⟨some 52, false, .mov (.g 13), none⟩,
  ⟨some 53, true, .bin .neq (.l 0) (.c (.int .i64 0)), none⟩]
def r156_12 : List Op := [
  ⟨some 54, false, .mov (.g 13), none⟩,
  ⟨some 10, true, .mov (.c (.slice 5 [])), none⟩,
  ⟨some 11, true, .mov (.l 0), none⟩]
def r156_13 : List Op := [
  ⟨some 55, false, .mov (.g 0), none⟩,
  ⟨some 56, false, .call (.k 179) .no (some 0) [.l 0], none⟩,
  ⟨some 57, false, .mov (.g 12), none⟩,
  ⟨some 58, false, .bin .add (.l 2) (.c (.int .i64 1)), none⟩,
  ⟨some 59, false, .load (.v 15) (some 2) (.g 15), none⟩,
  ⟨some 60, false, .mov (.g 3), none⟩,
  ⟨some 61, false, .mov (.g 0), none⟩,
  ⟨some 62, false, .mov (.g 12), none⟩,
  ⟨some 63, false, .iad 5 (.l 6) (.l 7), none⟩,
  ⟨some 64, false, .fad (.l 8) 3, none⟩,
  ⟨some 65, false, .load (.c) none (.l 9), none⟩,
  ⟨some 66, false, .mov (.g 4), none⟩,
  ⟨some 67, false, .build [.str [], .str [], .int .i64 0, .int .i64 0, .int .i64 0] [(0, 2, .l 4), (2, 1, .l 5), (3, 1, .l 10), (4, 1, .l 11)], none⟩,
  ⟨some 68, false, .mks 5 1 [.str [], .str [], .int .i64 0, .int .i64 0, .int .i64 0] [(0, .l 12)], none⟩,
  ⟨some 69, false, .ins 180 56 5 (.l 1) (.l 3) (.l 13), none⟩,
  ⟨some 16, true, .mov (.l 14), none⟩]
def r156_14 : List Op := [
  ⟨some 70, false, .mov (.g 16), none⟩,
  ⟨some 71, false, .mov (.g 12), none⟩,
  ⟨some 72, false, .mov (.g 16), none⟩,
  ⟨some 73, false, .mov (.g 12), none⟩,
  ⟨some 74, false, .load (.v 14) (some 2) (.g 14), none⟩,
  ⟨some 75, false, .mov (.g 4), none⟩,
  ⟨some 76, false, .iad 5 (.l 0) (.l 1), none⟩,
  ⟨some 77, false, .fad (.l 6) 0, none⟩,
  ⟨none, false, .store (.e 56) 2 (.l 7) (.l 4), none⟩,
  ⟨some 78, false, .iad 5 (.l 2) (.l 3), none⟩,
  ⟨some 79, false, .fad (.l 9) 4, none⟩,
  ⟨none, false, .store (.e 56) 1 (.l 10) (.l 5), none⟩]
def r156_15 : List Op := [
  ⟨some 80, false, .mov (.g 16), none⟩,
  ⟨some 10, true, .mov (.l 0), none⟩,
  ⟨some 11, true, .mov (.c (.int .i64 0)), none⟩]
def c156 : C := .seq (.region false r156_0) (.seq (.region false r156_1) (.seq (.block 0 (.seq (.region false r156_2) (.cond (.g 24) (.seq (.region false r156_3) (.ret)) (.seq (.region false r156_4) (.cond (.g 28) (.seq (.region false r156_5) (.ret)) (.seq (.region false r156_6) (.cond (.g 32) (.seq (.region false r156_7) (.ret)) (.seq (.region false r156_8) (.cond (.g 37) (.seq (.region false r156_9) (.ret)) (.skip)))))))))) (.seq (.region false r156_10) (.seq (.seq (.region false r156_11) (.cond (.g 53) (.seq (.region false r156_12) (.ret)) (.skip))) (.seq (.region true r156_13) (.seq (.region false r156_14) (.seq (.region false r156_15) (.ret))))))))
def F156 : F := ⟨5, [0, 1, 2, 3, 4, 10, 11, 12, 13, 14, 15, 16, 24, 28, 32, 37, 53], [.t 10, .t 11], none, c156⟩
attribute [go_sem] r156_0 r156_1 r156_2 r156_3 r156_4 r156_5 r156_6 r156_7 r156_8 r156_9 r156_10 r156_11 r156_12 r156_13 r156_14 r156_15 c156 F156
def r157_0 : List Op := [
  ⟨some 8, true, .mov (.c (.slice 5 [])), none⟩,
  ⟨some 9, true, .mov (.c (.int .i64 0)), none⟩]
def r157_1 : List Op := [
  ⟨some 15, false, .mov (.g 0), none⟩,
  ⟨some 16, false, .mov (.g 1), none⟩,
  ⟨some 17, false, .mov (.g 3), none⟩,
  ⟨some 18, false, .call (.k 177) .no none [.l 0, .l 1, .l 2], none⟩,
  ⟨some 14, false, .mov (.l 3), none⟩,
  ⟨some 19, false, .ext (.l 4) 0, none⟩,
  ⟨some 20, false, .ext (.l 4) 1, none⟩,
  ⟨some 10, true, .mov (.l 5), none⟩,
  ⟨some 11, true, .mov (.l 6), none⟩]
def r157_2 : List Op := [
  ⟨some 21, false, .mov (.g 0), none⟩,
  ⟨some 22, false, .mov (.g 2), none⟩,
  ⟨some 23, false, .call (.k 175) .no none [.l 0, .l 1], none⟩,
  ⟨some 12, true, .mov (.l 2), none⟩]
def r157_3 : List Op := [
  ⟨some 25, false, .mov (.g 2), none⟩,
  ⟨some 26, false, .call (.k 162) .no none [.l 0], none⟩,
  ⟨some 27, false, .un .not (.l 1), none⟩,
  ⟨some 24, true, .mov (.l 2), none⟩]
def r157_4 : List Op := [
  ⟨some 8, true, .mov (.c (.slice 5 [])), none⟩,
  ⟨some 9, true, .mov (.c (.int .i64 1)), none⟩]
def r157_5 : List Op := [
  ⟨some 29, false, .mov (.g 11), none⟩,
  ⟨some 30, false, .bin .neq (.l 0) (.c (.int .i64 0)), none⟩,
  ⟨some 28, true, .mov (.l 1), none⟩]
def r157_6 : List Op := [
  ⟨some 31, false, .mov (.g 11), none⟩,
  ⟨some 8, true, .mov (.c (.slice 5 [])), none⟩,
  ⟨some 9, true, .mov (.l 0), none⟩]
def r157_7 : List Op := [
  ⟨some 33, false, .mov (.g 12), none⟩,
  ⟨some 34, false, .bin .lss (.l 0) (.c (.int .i64 0)), none⟩,
  ⟨some 32, true, .mov (.l 1), none⟩]
def r157_8 : List Op := [
  ⟨some 8, true, .mov (.c (.slice 5 [])), none⟩,
  ⟨some 9, true, .mov (.c (.int .i64 7)), none⟩]
def r157_9 : List Op := [
  ⟨some 36, false, .mov (.g 12), none⟩,
  ⟨some 37, false, .mov (.g 10), none⟩,
  ⟨some 38, false, .bin .add (.l 1) (.c (.int .i64 1)), none⟩,
  ⟨some 39, false, .bin .neq (.l 0) (.l 2), none⟩,
  ⟨some 40, false, .mov (.l 3), none⟩,
  ⟨some 41, false, .mov (.g 0), (some (4, false))⟩,
  ⟨some 42, false, .mov (.g 10), (some (4, false))⟩,
  ⟨some 43, false, .iad 5 (.l 5) (.l 6), (some (4, false))⟩,
  ⟨some 44, false, .fad (.l 7) 3, (some (4, false))⟩,
  ⟨some 45, false, .load (.c) none (.l 8), (some (4, false))⟩,
  ⟨some 46, false, .mov (.g 0), (some (4, false))⟩,
  ⟨some 47, false, .mov (.g 12), (some (4, false))⟩,
  ⟨some 48, false, .iad 5 (.l 10) (.l 11), (some (4, false))⟩,
  ⟨some 49, false, .fad (.l 12) 3, (some (4, false))⟩,
  ⟨some 50, false, .load (.c) none (.l 13), (some (4, false))⟩,
  ⟨some 51, false, .bin .neq (.l 9) (.l 14), (some (4, false))⟩,
  ⟨some 52, false, .pick (.l 4) (.c (.bool true)) (.l 15), none⟩,
  ⟨some 53, false, .mov (.l 16), none⟩,
  ⟨some 54, false, .mov (.g 3), (some (17, false))⟩,
  ⟨some 55, false, .mov (.g 0), (some (17, false))⟩,
  ⟨some 56, false, .mov (.g 12), (some (17, false))⟩,
  ⟨some 57, false, .iad 5 (.l 19) (.l 20), (some (17, false))⟩,
  ⟨some 58, false, .fad (.l 21) 4, (some (17, false))⟩,
  ⟨some 59, false, .load (.c) none (.l 22), (some (17, false))⟩,
  ⟨some 60, false, .bin .leq (.l 18) (.l 23), (some (17, false))⟩,
  ⟨some 61, false, .pick (.l 17) (.c (.bool true)) (.l 24), none⟩,
  ⟨some 35, true, .mov (.l 25), none⟩]
def r157_10 : List Op := [
  ⟨some 8, true, .mov (.c (.slice 5 [])), none⟩,
  ⟨some 9, true, .mov (.c (.int .i64 9)), none⟩]
def r157_11 : List Op := [
  ⟨some 62, false, .mov (.g 0), none⟩,
  ⟨some 63, false, .call (.k 179) .no (some 0) [.l 0], none⟩,
  ⟨some 64, false, .mov (.g 12), none⟩,
  ⟨some 65, false, .mov (.g 12), none⟩,
  ⟨some 66, false, .bin .add (.l 3) (.c (.int .i64 1)), none⟩,
  ⟨some 67, false, .del 181 63 5 (.l 1) (.l 2) (.l 4), none⟩,
  ⟨some 13, true, .mov (.l 5), none⟩]
def r157_12 : List Op := [
  ⟨some 68, false, .mov (.g 13), none⟩,
  ⟨some 69, false, .mov (.g 10), none⟩,
  ⟨some 70, false, .mov (.g 13), none⟩,
  ⟨some 71, false, .mov (.g 10), none⟩,
  ⟨some 72, false, .mov (.g 0), none⟩,
  ⟨some 73, false, .mov (.g 12), none⟩,
  ⟨some 74, false, .iad 5 (.l 4) (.l 5), none⟩,
  ⟨some 75, false, .fad (.l 6) 0, none⟩,
  ⟨some 76, false, .fad (.l 7) 1, none⟩,
  ⟨some 77, false, .load (.c) none (.l 8), none⟩,
  ⟨some 78, false, .mov (.g 3), none⟩,
  ⟨some 79, false, .iad 5 (.l 0) (.l 1), none⟩,
  ⟨some 80, false, .fad (.l 11) 0, none⟩,
  ⟨some 81, false, .fad (.l 12) 1, none⟩,
  ⟨none, false, .store (.e 67) 1 (.l 13) (.l 9), none⟩,
  ⟨some 82, false, .iad 5 (.l 2) (.l 3), none⟩,
  ⟨some 83, false, .fad (.l 15) 4, none⟩,
  ⟨none, false, .store (.e 67) 1 (.l 16) (.l 10), none⟩]
def r157_13 : List Op := [
  ⟨some 84, false, .mov (.g 13), none⟩,
  ⟨some 8, true, .mov (.l 0), none⟩,
  ⟨some 9, true, .mov (.c (.int .i64 0)), none⟩]
def c157 : C := .seq (.region false r157_0) (.seq (.region false r157_1) (.seq (.region false r157_2) (.seq (.block 0 (.seq (.region false r157_3) (.cond (.g 24) (.seq (.region false r157_4) (.ret)) (.seq (.region false r157_5) (.cond (.g 28) (.seq (.region false r157_6) (.ret)) (.seq (.region false r157_7) (.cond (.g 32) (.seq (.region false r157_8) (.ret)) (.seq (.region true r157_9) (.cond (.g 35) (.seq (.region false r157_10) (.ret)) (.skip)))))))))) (.seq (.region false r157_11) (.seq (.region false r157_12) (.seq (.region false r157_13) (.ret)))))))
def F157 : F := ⟨4, [0, 1, 2, 3, 8, 9, 10, 11, 12, 13, 24, 28, 32, 35], [.t 8, .t 9], none, c157⟩
attribute [go_sem] r157_0 r157_1 r157_2 r157_3 r157_4 r157_5 r157_6 r157_7 r157_8 r157_9 r157_10 r157_11 r157_12 r157_13 c157 F157
def r159_0 : List Op := [
  ⟨some 8, true, .mov (.c (.slice 5 [])), none⟩,
  ⟨some 9, true, .mov (.c (.int .i64 0)), none⟩]
def r159_1 : List Op := [
  ⟨some 14, false, .mov (.g 0), none⟩,
  ⟨some 15, false, .mov (.g 1), none⟩,
  ⟨some 16, false, .mov (.g 3), none⟩,
  ⟨some 17, false, .call (.k 177) .no none [.l 0, .l 1, .l 2], none⟩,
  ⟨some 13, false, .mov (.l 3), none⟩,
  ⟨some 18, false, .ext (.l 4) 0, none⟩,
  ⟨some 19, false, .ext (.l 4) 1, none⟩,
  ⟨some 10, true, .mov (.l 5), none⟩,
  ⟨some 11, true, .mov (.l 6), none⟩]
def r159_2 : List Op := [
  ⟨some 21, false, .mov (.g 2), none⟩,
  ⟨some 22, false, .call (.k 163) .no none [.l 0], none⟩,
  ⟨some 23, false, .un .not (.l 1), none⟩,
  ⟨some 20, true, .mov (.l 2), none⟩]
def r159_3 : List Op := [
  ⟨some 8, true, .mov (.c (.slice 5 [])), none⟩,
  ⟨some 9, true, .mov (.c (.int .i64 1)), none⟩]
def r159_4 : List Op := [
  ⟨some 25, false, .mov (.g 11), none⟩,
  ⟨some 26, false, .bin .neq (.l 0) (.c (.int .i64 0)), none⟩,
  ⟨some 24, true, .mov (.l 1), none⟩]
def r159_5 : List Op := [
  ⟨some 27, false, .mov (.g 11), none⟩,
  ⟨some 8, true, .mov (.c (.slice 5 [])), none⟩,
  ⟨some 9, true, .mov (.l 0), none⟩]
def r159_6 : List Op := [
  ⟨some 29, false, .mov (.g 0), none⟩,
  ⟨some 30, false, .mov (.g 10), none⟩,
  ⟨some 31, false, .iad 5 (.l 0) (.l 1), none⟩,
  ⟨some 32, false, .fad (.l 2) 3, none⟩,
  ⟨some 33, false, .load (.c) none (.l 3), none⟩,
  ⟨some 34, false, .mov (.g 2), none⟩,
  ⟨some 35, false, .bin .eql (.l 4) (.l 5), none⟩,
  ⟨some 28, true, .mov (.l 6), none⟩]
def r159_7 : List Op := [
  ⟨some 8, true, .mov (.c (.slice 5 [])), none⟩,
  ⟨some 9, true, .mov (.c (.int .i64 8)), none⟩]
def r159_8 : List Op := [
  ⟨some 36, false, .mov (.g 0), none⟩,
  ⟨some 37, false, .call (.k 179) .no (some 0) [.l 0], none⟩,
  ⟨some 12, true, .mov (.l 1), none⟩]
def r159_9 : List Op := [
  ⟨some 38, false, .mov (.g 12), none⟩,
  ⟨some 39, false, .mov (.g 10), none⟩,
  ⟨some 40, false, .mov (.g 12), none⟩,
  ⟨some 41, false, .mov (.g 10), none⟩,
  ⟨some 42, false, .mov (.g 2), none⟩,
  ⟨some 43, false, .mov (.g 3), none⟩,
  ⟨some 44, false, .iad 5 (.l 0) (.l 1), none⟩,
  ⟨some 45, false, .fad (.l 6) 3, none⟩,
  ⟨none, false, .store (.e 37) 1 (.l 7) (.l 4), none⟩,
  ⟨some 46, false, .iad 5 (.l 2) (.l 3), none⟩,
  ⟨some 47, false, .fad (.l 9) 4, none⟩,
  ⟨none, false, .store (.e 37) 1 (.l 10) (.l 5), none⟩]
def r159_10 : List Op := [
  ⟨some 48, false, .mov (.g 12), none⟩,
  ⟨some 8, true, .mov (.l 0), none⟩,
  ⟨some 9, true, .mov (.c (.int .i64 0)), none⟩]
def c159 : C := .seq (.region false r159_0) (.seq (.region false r159_1) (.seq (.block 0 (.seq (.region false r159_2) (.cond (.g 20) (.seq (.region false r159_3) (.ret)) (.seq (.region false r159_4) (.cond (.g 24) (.seq (.region false r159_5) (.ret)) (.seq (.region false r159_6) (.cond (.g 28) (.seq (.region false r159_7) (.ret)) (.skip)))))))) (.seq (.region false r159_8) (.seq (.region false r159_9) (.seq (.region false r159_10) (.ret))))))
def F159 : F := ⟨4, [0, 1, 2, 3, 8, 9, 10, 11, 12, 20, 24, 28], [.t 8, .t 9], none, c159⟩
attribute [go_sem] r159_0 r159_1 r159_2 r159_3 r159_4 r159_5 r159_6 r159_7 r159_8 r159_9 r159_10 c159 F159
def r160_0 : List Op := [
  ⟨some 12, true, .mov (.c (.slice 5 [])), none⟩,
  ⟨some 13, true, .mov (.c (.int .i64 0)), none⟩]
def r160_1 : List Op := [
  ⟨some 24, false, .mov (.g 0), none⟩,
  ⟨some 25, false, .call (.k 147) .no none [.l 0], none⟩,
  ⟨some 26, false, .un .not (.l 1), none⟩,
  ⟨some 27, false, .mov (.l 2), none⟩,
  ⟨some 28, false, .mov (.g 5), (some (3, false))⟩,
  ⟨some 29, false, .call (.k 173) .no none [.l 4], (some (3, false))⟩,
  ⟨some 30, false, .un .not (.l 5), (some (3, false))⟩,
  ⟨some 31, false, .pick (.l 3) (.c (.bool true)) (.l 6), none⟩,
  ⟨some 32, false, .mov (.l 7), none⟩,
  ⟨some 33, false, .mov (.g 1), (some (8, false))⟩,
  ⟨some 34, false, .bin .eql (.l 9) (.c (.int .i64 0)), (some (8, false))⟩,
  ⟨some 35, false, .mov (.l 10), (some (8, false))⟩,
  ⟨some 36, false, .mov (.g 3), (some (11, true))⟩,
  ⟨some 37, false, .bin .lss (.l 12) (.c (.int .i64 1)), (some (11, true))⟩,
  ⟨some 38, false, .mov (.l 13), (some (11, true))⟩,
  ⟨some 39, false, .mov (.g 3), (some (14, false))⟩,
  ⟨some 40, false, .bin .gtr (.l 15) (.c (.int .i64 3)), (some (14, false))⟩,
  ⟨some 41, false, .pick (.l 14) (.c (.bool true)) (.l 16), (some (11, true))⟩,
  ⟨some 42, false, .pick (.l 11) (.l 17) (.c (.bool false)), (some (8, false))⟩,
  ⟨some 43, false, .pick (.l 8) (.c (.bool true)) (.l 18), none⟩,
  ⟨some 44, false, .mov (.l 19), none⟩,
  ⟨some 45, false, .mov (.g 3), (some (20, false))⟩,
  ⟨some 46, false, .call (.k 173) .no none [.l 21], (some (20, false))⟩,
  ⟨some 47, false, .un .not (.l 22), (some (20, false))⟩,
  ⟨some 48, true, .pick (.l 20) (.c (.bool true)) (.l 23), none⟩]
def r160_2 : List Op := [
  ⟨some 12, true, .mov (.c (.slice 5 [])), none⟩,
  ⟨some 13, true, .mov (.c (.int .i64 1)), none⟩]
def r160_3 : List Op := [
  ⟨some 49, false, .mov (.g 0), none⟩,
  ⟨some 50, false, .mov (.g 2), none⟩,
  ⟨some 51, false, .call (.k 151) .no none [.l 0, .l 1], none⟩,
  ⟨some 14, true, .mov (.l 2), none⟩]
def r160_4 : List Op := [
  ⟨some 52, false, .mov (.g 14), none⟩,
  ⟨some 53, true, .bin .lss (.l 0) (.c (.int .i64 0)), none⟩]
def r160_5 : List Op := [
  ⟨some 12, true, .mov (.c (.slice 5 [])), none⟩,
  ⟨some 13, true, .mov (.c (.int .i64 7)), none⟩]
def r160_6 : List Op := [
  ⟨some 54, false, .mov (.g 0), none⟩,
  ⟨some 55, false, .mov (.g 14), none⟩,
  ⟨some 56, false, .iad 5 (.l 0) (.l 1), none⟩,
  ⟨some 57, false, .load (.c) (some 5) (.l 2), none⟩,
  ⟨some 15, true, .alloc [.str [], .str [], .int .i64 0, .int .i64 0, .int .i64 0], none⟩,
  ⟨none, false, .store (.v 15) 5 (.l 4) (.l 3), none⟩]
def r160_7 : List Op := [
  ⟨some 58, false, .mov (.g 5), none⟩,
  ⟨some 59, false, .fad (.g 15) 4, none⟩,
  ⟨some 60, false, .load (.v 15) none (.l 1), none⟩,
  ⟨some 61, true, .bin .leq (.l 0) (.l 2), none⟩]
def r160_8 : List Op := [
  ⟨some 12, true, .mov (.c (.slice 5 [])), none⟩,
  ⟨some 13, true, .mov (.c (.int .i64 9)), none⟩]
def r160_9 : List Op := [
  ⟨some 62, false, .load (.v 15) (some 5) (.g 15), none⟩,
  ⟨some 16, true, .alloc [.str [], .str [], .int .i64 0, .int .i64 0, .int .i64 0], none⟩,
  ⟨none, false, .store (.v 16) 5 (.l 1) (.l 0), none⟩]
def r160_10 : List Op := [
  ⟨some 63, false, .mov (.g 5), none⟩,
  ⟨some 64, false, .fad (.g 16) 4, none⟩,
  ⟨none, false, .store (.v 16) 1 (.l 1) (.l 0), none⟩]
def r160_11 : List Op := [
  ⟨some 65, true, .mov (.g 1), none⟩]
def r160_12 : List Op := [
  ⟨some 67, false, .bin .eql (.g 65) (.c (.int .i64 0)), none⟩,
  ⟨some 66, true, .mov (.l 0), none⟩]
def r160_13 : List Op := [
  ⟨some 68, false, .fad (.g 15) 3, none⟩,
  ⟨some 69, false, .load (.v 15) none (.l 0), none⟩,
  ⟨some 70, false, .mov (.g 3), none⟩,
  ⟨some 71, true, .bin .eql (.l 1) (.l 2), none⟩]
def r160_14 : List Op := [
  ⟨some 12, true, .mov (.c (.slice 5 [])), none⟩,
  ⟨some 13, true, .mov (.c (.int .i64 8)), none⟩]
def r160_15 : List Op := [
  ⟨some 72, false, .mov (.g 3), none⟩,
  ⟨some 73, false, .fad (.g 16) 3, none⟩,
  ⟨none, false, .store (.v 16) 1 (.l 1) (.l 0), none⟩]
def r160_16 : List Op := [
  ⟨some 74, false, .mov (.g 0), none⟩,
  ⟨some 75, false, .mov (.g 2), none⟩,
  ⟨some 76, false, .load (.v 16) (some 5) (.g 16), none⟩,
  ⟨some 77, false, .mks 5 1 [.str [], .str [], .int .i64 0, .int .i64 0, .int .i64 0] [(0, .l 2)], none⟩,
  ⟨some 78, false, .call (.k 182) .no none [.l 0, .l 1, .l 3], none⟩,
  ⟨some 12, true, .mov (.l 4), none⟩,
  ⟨some 13, true, .mov (.c (.int .i64 0)), none⟩]
def r160_17 : List Op := [
  ⟨some 80, false, .bin .eql (.g 65) (.c (.int .i64 1)), none⟩,
  ⟨some 79, true, .mov (.l 0), none⟩]
def r160_18 : List Op := [
  ⟨some 81, false, .mov (.g 0), none⟩,
  ⟨some 82, false, .mov (.g 3), none⟩,
  ⟨some 83, false, .call (.k 151) .no none [.l 0, .l 1], none⟩,
  ⟨some 84, true, .bin .geq (.l 2) (.c (.int .i64 0)), none⟩]
def r160_19 : List Op := [
  ⟨some 12, true, .mov (.c (.slice 5 [])), none⟩,
  ⟨some 13, true, .mov (.c (.int .i64 8)), none⟩]
def r160_20 : List Op := [
  ⟨some 85, false, .mov (.g 0), none⟩,
  ⟨some 86, false, .len false (.l 0), none⟩,
  ⟨some 87, true, .bin .gtr (.l 1) (.c (.int .i64 7)), none⟩]
def r160_21 : List Op := [
  ⟨some 12, true, .mov (.c (.slice 5 [])), none⟩,
  ⟨some 13, true, .mov (.c (.int .i64 6)), none⟩]
def r160_22 : List Op := [
  ⟨some 89, false, .fad (.g 15) 0, none⟩,
  ⟨some 90, false, .load (.v 15) (some 2) (.l 0), none⟩,
  ⟨some 91, false, .mov (.g 4), none⟩,
  ⟨some 92, false, .call (.k 183) .no none [.l 1, .l 2], none⟩,
  ⟨some 88, false, .mov (.l 3), none⟩,
  ⟨some 93, false, .ext (.l 4) 0, none⟩,
  ⟨some 94, false, .ext (.l 4) 1, none⟩,
  ⟨some 95, false, .ext (.l 4) 2, none⟩,
  ⟨some 17, true, .alloc [.str [], .str []], none⟩,
  ⟨some 18, true, .alloc [.str [], .str []], none⟩,
  ⟨none, false, .store (.v 17) 2 (.l 8) (.l 5), none⟩,
  ⟨none, false, .store (.v 18) 2 (.l 9) (.l 6), none⟩,
  ⟨some 19, true, .mov (.l 7), none⟩]
def r160_23 : List Op := [
  ⟨some 96, false, .mov (.g 19), none⟩,
  ⟨some 97, true, .bin .neq (.l 0) (.c (.int .i64 0)), none⟩]
def r160_24 : List Op := [
  ⟨some 98, false, .mov (.g 19), none⟩,
  ⟨some 12, true, .mov (.c (.slice 5 [])), none⟩,
  ⟨some 13, true, .mov (.l 0), none⟩]
def r160_25 : List Op := [
  ⟨some 99, false, .load (.v 16) (some 5) (.g 16), none⟩,
  ⟨some 20, true, .alloc [.str [], .str [], .int .i64 0, .int .i64 0, .int .i64 0], none⟩,
  ⟨none, false, .store (.v 20) 5 (.l 1) (.l 0), none⟩]
def r160_26 : List Op := [
  ⟨some 100, false, .load (.v 17) (some 2) (.g 17), none⟩,
  ⟨some 101, false, .load (.v 18) (some 2) (.g 18), none⟩,
  ⟨some 102, false, .mov (.g 3), none⟩,
  ⟨some 103, false, .fad (.g 16) 0, none⟩,
  ⟨none, false, .store (.v 16) 2 (.l 3) (.l 0), none⟩,
  ⟨some 104, false, .fad (.g 20) 0, none⟩,
  ⟨none, false, .store (.v 20) 2 (.l 5) (.l 1), none⟩,
  ⟨some 105, false, .fad (.g 20) 2, none⟩,
  ⟨none, false, .store (.v 20) 1 (.l 7) (.l 2), none⟩]
def r160_27 : List Op := [
  ⟨some 106, false, .mov (.g 0), none⟩,
  ⟨some 107, false, .mov (.g 2), none⟩,
  ⟨some 108, false, .load (.v 16) (some 5) (.g 16), none⟩,
  ⟨some 109, false, .load (.v 20) (some 5) (.g 20), none⟩,
  ⟨some 110, false, .mks 5 2 [.str [], .str [], .int .i64 0, .int .i64 0, .int .i64 0] [(0, .l 2), (1, .l 3)], none⟩,
  ⟨some 111, false, .call (.k 182) .no none [.l 0, .l 1, .l 4], none⟩,
  ⟨some 12, true, .mov (.l 5), none⟩,
  ⟨some 13, true, .mov (.c (.int .i64 0)), none⟩]
def r160_28 : List Op := [
  ⟨some 112, false, .mov (.g 0), none⟩,
  ⟨some 113, false, .mov (.g 3), none⟩,
  ⟨some 114, false, .call (.k 151) .no none [.l 0, .l 1], none⟩,
  ⟨some 115, true, .bin .lss (.l 2) (.c (.int .i64 0)), none⟩]
def r160_29 : List Op := [
  ⟨some 12, true, .mov (.c (.slice 5 [])), none⟩,
  ⟨some 13, true, .mov (.c (.int .i64 7)), none⟩]
def r160_30 : List Op := [
  ⟨some 116, false, .mov (.g 0), none⟩,
  ⟨some 117, false, .mov (.g 0), none⟩,
  ⟨some 118, false, .mov (.g 3), none⟩,
  ⟨some 119, false, .call (.k 151) .no none [.l 1, .l 2], none⟩,
  ⟨some 120, false, .iad 5 (.l 0) (.l 3), none⟩,
  ⟨some 121, false, .load (.c) (some 5) (.l 4), none⟩,
  ⟨some 21, true, .alloc [.str [], .str [], .int .i64 0, .int .i64 0, .int .i64 0], none⟩,
  ⟨none, false, .store (.v 21) 5 (.l 6) (.l 5), none⟩]
def r160_31 : List Op := [
  ⟨some 123, false, .fad (.g 15) 0, none⟩,
  ⟨some 124, false, .load (.v 15) (some 2) (.l 0), none⟩,
  ⟨some 125, false, .fad (.g 21) 0, none⟩,
  ⟨some 126, false, .load (.v 21) (some 2) (.l 2), none⟩,
  ⟨some 127, false, .call (.k 184) .no none [.l 1, .l 3], none⟩,
  ⟨some 122, false, .mov (.l 4), none⟩,
  ⟨some 128, false, .ext (.l 5) 0, none⟩,
  ⟨some 129, false, .ext (.l 5) 1, none⟩,
  ⟨some 22, true, .alloc [.str [], .str []], none⟩,
  ⟨none, false, .store (.v 22) 2 (.l 8) (.l 6), none⟩,
  ⟨some 23, true, .mov (.l 7), none⟩]
def r160_32 : List Op := [
  ⟨some 130, false, .mov (.g 23), none⟩,
  ⟨some 131, false, .bin .neq (.l 0) (.c (.int .i64 0)), none⟩,
  ⟨some 132, false, .mov (.l 1), none⟩,
  ⟨some 133, false, .fad (.g 15) 3, (some (2, false))⟩,
  ⟨some 134, false, .load (.v 15) none (.l 3), (some (2, false))⟩,
  ⟨some 135, false, .fad (.g 21) 3, (some (2, false))⟩,
  ⟨some 136, false, .load (.v 21) none (.l 5), (some (2, false))⟩,
  ⟨some 137, false, .bin .neq (.l 4) (.l 6), (some (2, false))⟩,
  ⟨some 138, false, .pick (.l 2) (.c (.bool true)) (.l 7), none⟩,
  ⟨some 139, false, .mov (.l 8), none⟩,
  ⟨some 140, false, .mov (.g 5), (some (9, false))⟩,
  ⟨some 141, false, .fad (.g 21) 4, (some (9, false))⟩,
  ⟨some 142, false, .load (.v 21) none (.l 11), (some (9, false))⟩,
  ⟨some 143, false, .bin .leq (.l 10) (.l 12), (some (9, false))⟩,
  ⟨some 144, true, .pick (.l 9) (.c (.bool true)) (.l 13), none⟩]
def r160_33 : List Op := [
  ⟨some 12, true, .mov (.c (.slice 5 [])), none⟩,
  ⟨some 13, true, .mov (.c (.int .i64 9)), none⟩]
def r160_34 : List Op := [
  ⟨some 145, false, .load (.v 22) (some 2) (.g 22), none⟩,
  ⟨some 146, false, .fad (.g 16) 0, none⟩,
  ⟨none, false, .store (.v 16) 2 (.l 1) (.l 0), none⟩]
def r160_35 : List Op := [
  ⟨some 147, false, .mov (.g 0), none⟩,
  ⟨some 148, false, .mov (.g 3), none⟩,
  ⟨some 149, false, .call (.k 182) .no none [.l 0, .l 1, .c (.slice 5 [])], none⟩,
  ⟨some 150, false, .mov (.g 2), none⟩,
  ⟨some 151, false, .load (.v 16) (some 5) (.g 16), none⟩,
  ⟨some 152, false, .mks 5 1 [.str [], .str [], .int .i64 0, .int .i64 0, .int .i64 0] [(0, .l 4)], none⟩,
  ⟨some 153, false, .call (.k 182) .no none [.l 2, .l 3, .l 5], none⟩,
  ⟨some 12, true, .mov (.l 6), none⟩,
  ⟨some 13, true, .mov (.c (.int .i64 0)), none⟩]
def c160 : C := .seq (.region false r160_0) (.seq (.seq (.region false r160_1) (.cond (.g 48) (.seq (.region false r160_2) (.ret)) (.skip))) (.seq (.region false r160_3) (.seq (.seq (.region false r160_4) (.cond (.g 53) (.seq (.region false r160_5) (.ret)) (.skip))) (.seq (.region false r160_6) (.seq (.seq (.region false r160_7) (.cond (.g 61) (.seq (.region false r160_8) (.ret)) (.skip))) (.seq (.region false r160_9) (.seq (.region false r160_10) (.seq (.seq (.region false r160_11) (.block 0 (.seq (.region false r160_12) (.cond (.g 66) (.seq (.seq (.region false r160_13) (.cond (.g 71) (.seq (.region false r160_14) (.ret)) (.skip))) (.seq (.region false r160_15) (.seq (.region false r160_16) (.ret)))) (.seq (.region false r160_17) (.cond (.g 79) (.seq (.seq (.region false r160_18) (.cond (.g 84) (.seq (.region false r160_19) (.ret)) (.skip))) (.seq (.seq (.region false r160_20) (.cond (.g 87) (.seq (.region false r160_21) (.ret)) (.skip))) (.seq (.region false r160_22) (.seq (.seq (.region false r160_23) (.cond (.g 97) (.seq (.region false r160_24) (.ret)) (.skip))) (.seq (.region false r160_25) (.seq (.region true r160_26) (.seq (.region false r160_27) (.ret)))))))) (.skip))))))) (.seq (.seq (.region false r160_28) (.cond (.g 115) (.seq (.region false r160_29) (.ret)) (.skip))) (.seq (.region false r160_30) (.seq (.region false r160_31) (.seq (.seq (.region false r160_32) (.cond (.g 144) (.seq (.region false r160_33) (.ret)) (.skip))) (.seq (.region false r160_34) (.seq (.region true r160_35) (.ret)))))))))))))))
def F160 : F := ⟨6, [0, 1, 2, 3, 4, 5, 12, 13, 14, 15, 16, 17, 18, 19, 20, 21, 22, 23, 48, 53, 61, 65, 66, 71, 79, 84, 87, 97, 115, 144], [.t 12, .t 13], none, c160⟩
attribute [go_sem] r160_0 r160_1 r160_2 r160_3 r160_4 r160_5 r160_6 r160_7 r160_8 r160_9 r160_10 r160_11 r160_12 r160_13 r160_14 r160_15 r160_16 r160_17 r160_18 r160_19 r160_20 r160_21 r160_22 r160_23 r160_24 r160_25 r160_26 r160_27 r160_28 r160_29 r160_30 r160_31 r160_32 r160_33 r160_34 r160_35 c160 F160
def r162_0 : List Op := [
  ⟨some 2, true, .mov (.c (.bool false)), none⟩]
def r162_1 : List Op := [
  ⟨some 3, false, .mov (.g 0), none⟩,
  ⟨some 4, false, .bin .geq (.l 0) (.c (.int .i64 1)), none⟩,
  ⟨some 5, false, .mov (.l 1), none⟩,
  ⟨some 6, false, .mov (.g 0), (some (2, true))⟩,
  ⟨some 7, false, .bin .leq (.l 3) (.c (.int .i64 1099511627776)), (some (2, true))⟩,
  ⟨some 8, false, .pick (.l 2) (.l 4) (.c (.bool false)), none⟩,
  ⟨some 2, true, .mov (.l 5), none⟩]
def c162 : C := .seq (.region false r162_0) (.seq (.region false r162_1) (.ret))
def F162 : F := ⟨1, [0, 2], [.t 2], none, c162⟩
attribute [go_sem] r162_0 r162_1 c162 F162
def r163_0 : List Op := [
  ⟨some 2, true, .mov (.c (.bool false)), none⟩]
def r163_1 : List Op := [
  ⟨some 3, false, .mov (.g 0), none⟩,
  ⟨some 4, false, .bin .geq (.l 0) (.c (.int .i64 1)), none⟩,
  ⟨some 5, false, .mov (.l 1), none⟩,
  ⟨some 6, false, .mov (.g 0), (some (2, true))⟩,
  ⟨some 7, false, .bin .leq (.l 3) (.c (.int .i64 3)), (some (2, true))⟩,
  ⟨some 8, false, .pick (.l 2) (.l 4) (.c (.bool false)), none⟩,
  ⟨some 2, true, .mov (.l 5), none⟩]
def c163 : C := .seq (.region false r163_0) (.seq (.region false r163_1) (.ret))
def F163 : F := ⟨1, [0, 2], [.t 2], none, c163⟩
attribute [go_sem] r163_0 r163_1 c163 F163
def r164_0 : List Op := [
  ⟨some 2, true, .box (.g 0), none⟩,
  ⟨some 3, true, .mov (.c (.bool false)), none⟩]
def r164_1 : List Op := [
  ⟨some 4, false, .fad (.g 2) 2, none⟩,
  ⟨some 5, false, .load (.v 2) none (.l 0), none⟩,
  ⟨some 6, false, .fad (.g 1) 2, none⟩,
  ⟨some 7, false, .load (.c) none (.l 2), none⟩,
  ⟨some 8, false, .bin .eql (.l 1) (.l 3), none⟩,
  ⟨some 3, true, .mov (.l 4), none⟩]
def c164 : C := .seq (.region false r164_0) (.seq (.region false r164_1) (.ret))
def F164 : F := ⟨2, [0, 1, 2, 3], [.t 3], none, c164⟩
attribute [go_sem] r164_0 r164_1 c164 F164
def r165_0 : List Op := [
  ⟨some 4, true, .mov (.c (.bool false)), none⟩]
def r165_1 : List Op := [
  ⟨some 5, false, .mov (.g 0), none⟩,
  ⟨some 6, false, .mov (.g 1), none⟩,
  ⟨some 7, false, .call (.k 185) .no none [.l 0, .l 1], none⟩,
  ⟨some 8, false, .bin .geq (.l 2) (.c (.int .i64 0)), none⟩,
  ⟨some 4, true, .mov (.l 3), none⟩]
def c165 : C := .seq (.region false r165_0) (.seq (.region false r165_1) (.ret))
def F165 : F := ⟨2, [0, 1, 4], [.t 4], none, c165⟩
attribute [go_sem] r165_0 r165_1 c165 F165
def r166_0 : List Op := [
  ⟨some 2, true, .mov (.c (.bool false)), none⟩]
def r166_1 : List Op := [
  ⟨some 3, true, .mov (.c (.str [])), none⟩]
def r166_2 : List Op := [
  ⟨some 6, true, .mov (.g 0), none⟩,
  ⟨some 7, true, .len false (.l 0), none⟩,
  ⟨some 8, true, .mov (.c (.int .i64 0)), none⟩]
def r166_3 : List Op := [
  ⟨some 9, true, .bin .lss (.g 8) (.g 7), none⟩]
def r166_4 : List Op := [
  ⟨some 10, false, .mov (.g 8), none⟩,
  ⟨some 11, false, .iad 2 (.g 6) (.g 8), none⟩,
  ⟨some 12, false, .load (.c) (some 2) (.l 1), none⟩,
  ⟨some 5, true, .alloc [.str [], .str []], none⟩,
  ⟨some 4, true, .mov (.l 0), none⟩,
  ⟨none, false, .store (.v 5) 2 (.l 3) (.l 2), none⟩]
def r166_5 : List Op := [
  ⟨some 13, false, .load (.v 5) (some 2) (.g 5), none⟩,
  ⟨some 14, false, .call (.k 186) .no none [.l 0], none⟩,
  ⟨some 15, false, .un .not (.l 1), none⟩,
  ⟨some 16, false, .mov (.l 2), none⟩,
  ⟨some 17, false, .fad (.g 5) 0, (some (3, false))⟩,
  ⟨some 18, false, .load (.v 5) none (.l 4), (some (3, false))⟩,
  ⟨some 19, false, .mov (.g 3), (some (3, false))⟩,
  ⟨some 20, false, .bin .neq (.l 5) (.l 6), (some (3, false))⟩,
  ⟨some 21, false, .pick (.l 3) (.c (.bool true)) (.l 7), none⟩,
  ⟨some 22, false, .mov (.l 8), none⟩,
  ⟨some 23, false, .mov (.g 4), (some (9, false))⟩,
  ⟨some 24, false, .bin .gtr (.l 10) (.c (.int .i64 0)), (some (9, false))⟩,
  ⟨some 25, false, .mov (.l 11), (some (9, false))⟩,
  ⟨some 26, false, .mov (.g 3), (some (12, true))⟩,
  ⟨some 27, false, .bin .eql (.l 13) (.c (.str [])), (some (12, true))⟩,
  ⟨some 28, false, .pick (.l 12) (.l 14) (.c (.bool false)), (some (9, false))⟩,
  ⟨some 29, true, .pick (.l 9) (.c (.bool true)) (.l 15), none⟩]
def r166_6 : List Op := [
  ⟨some 2, true, .mov (.c (.bool false)), none⟩]
def r166_7 : List Op := [
  ⟨some 30, false, .fad (.g 5) 1, none⟩,
  ⟨some 31, false, .load (.v 5) none (.l 0), none⟩,
  ⟨some 3, true, .mov (.l 1), none⟩]
def r166_8 : List Op := [
  ⟨some 32, false, .bin .add (.g 8) (.c (.int .i64 1)), none⟩,
  ⟨some 8, true, .mov (.l 0), none⟩]
def b166_0 : C := .seq (.region false r166_3) (.seq (.cond (.g 9) (.skip) (.exit 0)) (.seq (.block 1 (.seq (.region false r166_4) (.seq (.seq (.region false r166_5) (.cond (.g 29) (.seq (.region false r166_6) (.ret)) (.skip))) (.region false r166_7)))) (.region false r166_8)))
def l166_0 : C := .loop [] [] [5] [] b166_0
def r166_9 : List Op := [
  ⟨some 33, false, .mov (.g 0), none⟩,
  ⟨some 34, false, .len false (.l 0), none⟩,
  ⟨some 35, false, .bin .gtr (.l 1) (.c (.int .i64 0)), none⟩,
  ⟨some 36, false, .mov (.l 2), none⟩,
  ⟨some 37, false, .mov (.g 3), (some (3, true))⟩,
  ⟨some 38, false, .bin .eql (.l 4) (.c (.str [])), (some (3, true))⟩,
  ⟨some 39, false, .pick (.l 3) (.l 5) (.c (.bool false)), none⟩,
  ⟨some 2, true, .mov (.l 6), none⟩]
def c166 : C := .seq (.region false r166_0) (.seq (.region false r166_1) (.seq (.seq (.region false r166_2) (.block 0 (l166_0))) (.seq (.region false r166_9) (.ret))))
def F166 : F := ⟨1, [0, 2, 3, 4, 5, 6, 7, 8, 9, 29], [.t 2], none, c166⟩
attribute [go_sem] r166_0 r166_1 r166_2 r166_3 r166_4 r166_5 r166_6 r166_7 r166_8 b166_0 r166_9 c166 F166
def r167_0 : List Op := [
  ⟨some 1, true, .box (.g 0), none⟩,
  ⟨some 2, true, .mov (.c (.bool false)), none⟩]
def r167_1 : List Op := [
  ⟨some 3, false, .fad (.g 1) 0, none⟩,
  ⟨some 4, false, .load (.v 1) none (.l 0), none⟩,
  ⟨some 5, false, .len true (.l 1), none⟩,
  ⟨some 6, false, .bin .gtr (.l 2) (.c (.int .i64 0)), none⟩,
  ⟨some 7, false, .mov (.l 3), none⟩,
  ⟨some 8, false, .fad (.g 1) 0, (some (4, true))⟩,
  ⟨some 9, false, .load (.v 1) none (.l 5), (some (4, true))⟩,
  ⟨some 10, false, .call (.k 168) .no none [.l 6], (some (4, true))⟩,
  ⟨some 11, false, .un .not (.l 7), (some (4, true))⟩,
  ⟨some 12, true, .pick (.l 4) (.l 8) (.c (.bool false)), none⟩]
def r167_2 : List Op := [
  ⟨some 2, true, .mov (.c (.bool false)), none⟩]
def r167_3 : List Op := [
  ⟨some 13, false, .fad (.g 1) 1, none⟩,
  ⟨some 14, false, .load (.v 1) none (.l 0), none⟩,
  ⟨some 15, false, .len true (.l 1), none⟩,
  ⟨some 16, true, .bin .eql (.l 2) (.c (.int .i64 0)), none⟩]
def r167_4 : List Op := [
  ⟨some 2, true, .mov (.c (.bool true)), none⟩]
def r167_5 : List Op := [
  ⟨some 17, false, .fad (.g 1) 1, none⟩,
  ⟨some 18, false, .load (.v 1) none (.l 0), none⟩,
  ⟨some 19, false, .call (.k 168) .no none [.l 1], none⟩,
  ⟨some 20, false, .mov (.l 2), none⟩,
  ⟨some 21, false, .fad (.g 1) 0, (some (3, true))⟩,
  ⟨some 22, false, .load (.v 1) none (.l 4), (some (3, true))⟩,
  ⟨some 23, false, .fad (.g 1) 1, (some (3, true))⟩,
  ⟨some 24, false, .load (.v 1) none (.l 6), (some (3, true))⟩,
  ⟨some 25, false, .call (.k 187) .no none [.l 5, .l 7], (some (3, true))⟩,
  ⟨some 26, false, .bin .eql (.l 8) (.c (.int .i64 (-1))), (some (3, true))⟩,
  ⟨some 27, false, .pick (.l 3) (.l 9) (.c (.bool false)), none⟩,
  ⟨some 2, true, .mov (.l 10), none⟩]
def c167 : C := .seq (.region false r167_0) (.seq (.seq (.region false r167_1) (.cond (.g 12) (.seq (.region false r167_2) (.ret)) (.skip))) (.seq (.seq (.region false r167_3) (.cond (.g 16) (.seq (.region false r167_4) (.ret)) (.skip))) (.seq (.region false r167_5) (.ret))))
def F167 : F := ⟨1, [0, 1, 2, 12, 16], [.t 2], none, c167⟩
attribute [go_sem] r167_0 r167_1 r167_2 r167_3 r167_4 r167_5 c167 F167
def r168_0 : List Op := [
  ⟨some 2, true, .mov (.c (.bool false)), none⟩]
def r168_1 : List Op := [
  ⟨some 5, false, .mov (.g 0), none⟩,
  ⟨some 6, false, .len true (.l 0), none⟩,
  ⟨some 7, false, .bin .eql (.l 1) (.c (.int .i64 0)), none⟩,
  ⟨some 8, false, .mov (.l 2), none⟩,
  ⟨some 9, false, .mov (.g 0), (some (3, false))⟩,
  ⟨some 10, false, .len true (.l 4), (some (3, false))⟩,
  ⟨some 11, false, .bin .gtr (.l 5) (.c (.int .i64 16)), (some (3, false))⟩,
  ⟨some 12, true, .pick (.l 3) (.c (.bool true)) (.l 6), none⟩]
def r168_2 : List Op := [
  ⟨some 2, true, .mov (.c (.bool false)), none⟩]
def r168_3 : List Op := [
  ⟨some 13, false, .mov (.g 0), none⟩,
  ⟨some 14, false, .len true (.l 0), none⟩,
  ⟨some 15, true, .bin .gtr (.l 1) (.c (.int .i64 0)), none⟩]
def r168_4 : List Op := [
  ⟨some 17, false, .mov (.g 0), none⟩,
  ⟨some 18, false, .call (.k 188) .no none [.l 0], none⟩,
  ⟨some 16, false, .mov (.l 1), none⟩,
  ⟨some 19, false, .ext (.l 2) 0, none⟩,
  ⟨some 20, false, .ext (.l 2) 1, none⟩,
  ⟨some 3, true, .mov (.l 3), none⟩,
  ⟨some 4, true, .mov (.l 4), none⟩]
def r168_5 : List Op := [
  ⟨some 21, false, .mov (.g 3), none⟩,
  ⟨some 22, false, .call (.k 189) .no none [.l 0], none⟩,
  ⟨some 23, true, .un .not (.l 1), none⟩]
def r168_6 : List Op := [
  ⟨some 2, true, .mov (.c (.bool false)), none⟩]
def r168_7 : List Op := [
  ⟨some 24, false, .mov (.g 0), none⟩,
  ⟨some 25, false, .mov (.g 4), none⟩,
  ⟨some 26, false, .sl true 0 (.l 0) (some (.l 1)) none, none⟩,
  ⟨some 0, true, .mov (.l 2), none⟩]
def b168_0 : C := .seq (.seq (.region false r168_3) (.cond (.g 15) (.skip) (.exit 0))) (.block 1 (.seq (.region false r168_4) (.seq (.seq (.region false r168_5) (.cond (.g 23) (.seq (.region false r168_6) (.ret)) (.skip))) (.region false r168_7))))
def l168_0 : C := .loop [] [] [] [] b168_0
def r168_8 : List Op := [
  ⟨some 2, true, .mov (.c (.bool true)), none⟩]
def c168 : C := .seq (.region false r168_0) (.seq (.seq (.region false r168_1) (.cond (.g 12) (.seq (.region false r168_2) (.ret)) (.skip))) (.seq (.block 0 (l168_0)) (.seq (.region false r168_8) (.ret))))
def F168 : F := ⟨1, [0, 2, 3, 4, 12, 15, 23], [.t 2], none, c168⟩
attribute [go_sem] r168_0 r168_1 r168_2 r168_3 r168_4 r168_5 r168_6 r168_7 b168_0 r168_8 c168 F168
def r171_0 : List Op := [
  ⟨some 2, true, .box (.g 0), none⟩,
  ⟨some 4, true, .mov (.c (.bool false)), none⟩]
def r171_1 : List Op := [
  ⟨some 5, false, .load (.v 2) (some 2) (.g 2), none⟩,
  ⟨some 6, false, .call (.k 186) .no none [.l 0], none⟩,
  ⟨some 7, false, .mov (.l 1), none⟩,
  ⟨some 8, false, .mov (.g 1), (some (2, true))⟩,
  ⟨some 9, false, .call (.k 170) .no none [.l 3], (some (2, true))⟩,
  ⟨some 10, false, .pick (.l 2) (.l 4) (.c (.bool false)), none⟩,
  ⟨some 11, false, .mov (.l 5), none⟩,
  ⟨some 12, false, .fad (.g 2) 0, (some (6, true))⟩,
  ⟨some 13, false, .load (.v 2) none (.l 7), (some (6, true))⟩,
  ⟨some 14, false, .mov (.g 1), (some (6, true))⟩,
  ⟨some 15, false, .call (.k 192) .no none [.l 8, .l 9], (some (6, true))⟩,
  ⟨some 16, false, .bin .leq (.l 10) (.c (.int .i64 0)), (some (6, true))⟩,
  ⟨some 17, false, .pick (.l 6) (.l 11) (.c (.bool false)), none⟩,
  ⟨some 18, false, .mov (.l 12), none⟩,
  ⟨some 19, false, .fad (.g 2) 1, (some (13, true))⟩,
  ⟨some 20, false, .load (.v 2) none (.l 14), (some (13, true))⟩,
  ⟨some 21, false, .bin .eql (.l 15) (.c (.str [])), (some (13, true))⟩,
  ⟨some 22, false, .mov (.l 16), (some (13, true))⟩,
  ⟨some 23, false, .mov (.g 1), (some (17, false))⟩,
  ⟨some 24, false, .fad (.g 2) 1, (some (17, false))⟩,
  ⟨some 25, false, .load (.v 2) none (.l 19), (some (17, false))⟩,
  ⟨some 26, false, .call (.k 192) .no none [.l 18, .l 20], (some (17, false))⟩,
  ⟨some 27, false, .bin .lss (.l 21) (.c (.int .i64 0)), (some (17, false))⟩,
  ⟨some 28, false, .pick (.l 17) (.c (.bool true)) (.l 22), (some (13, true))⟩,
  ⟨some 29, false, .pick (.l 13) (.l 23) (.c (.bool false)), none⟩,
  ⟨some 4, true, .mov (.l 24), none⟩]
def c171 : C := .seq (.region false r171_0) (.seq (.region false r171_1) (.ret))
def F171 : F := ⟨2, [0, 1, 2, 4], [.t 4], none, c171⟩
attribute [go_sem] r171_0 r171_1 c171 F171
def r173_0 : List Op := [
  ⟨some 2, true, .mov (.c (.bool false)), none⟩]
def r173_1 : List Op := [
  ⟨some 3, false, .mov (.g 0), none⟩,
  ⟨some 4, false, .bin .gtr (.l 0) (.c (.int .i64 0)), none⟩,
  ⟨some 5, false, .mov (.l 1), none⟩,
  ⟨some 6, false, .mov (.g 0), (some (2, true))⟩,
  ⟨some 7, false, .bin .leq (.l 3) (.c (.int .i64 1099511627776)), (some (2, true))⟩,
  ⟨some 8, false, .pick (.l 2) (.l 4) (.c (.bool false)), none⟩,
  ⟨some 2, true, .mov (.l 5), none⟩]
def c173 : C := .seq (.region false r173_0) (.seq (.region false r173_1) (.ret))
def F173 : F := ⟨1, [0, 2], [.t 2], none, c173⟩
attribute [go_sem] r173_0 r173_1 c173 F173
def r174_0 : List Op := [
  ⟨some 2, true, .mov (.c (.bool false)), none⟩]
def r174_1 : List Op := [
  ⟨some 7, false, .mov (.g 0), none⟩,
  ⟨some 8, false, .len false (.l 0), none⟩,
  ⟨some 9, false, .bin .eql (.l 1) (.c (.int .i64 0)), none⟩,
  ⟨some 10, false, .mov (.l 2), none⟩,
  ⟨some 11, false, .mov (.g 0), (some (3, false))⟩,
  ⟨some 12, false, .iad 2 (.l 4) (.c (.int .i64 0)), (some (3, false))⟩,
  ⟨some 13, false, .load (.c) (some 2) (.l 5), (some (3, false))⟩,
  ⟨some 14, false, .call (.k 167) .no none [.l 6], (some (3, false))⟩,
  ⟨some 15, false, .un .not (.l 7), (some (3, false))⟩,
  ⟨some 16, true, .pick (.l 3) (.c (.bool true)) (.l 8), none⟩]
def r174_2 : List Op := [
  ⟨some 2, true, .mov (.c (.bool false)), none⟩]
def r174_3 : List Op := [
  ⟨some 17, false, .mov (.g 0), none⟩,
  ⟨some 18, false, .iad 2 (.l 0) (.c (.int .i64 0)), none⟩,
  ⟨some 19, false, .load (.c) (some 2) (.l 1), none⟩,
  ⟨some 3, true, .alloc [.str [], .str []], none⟩,
  ⟨none, false, .store (.v 3) 2 (.l 3) (.l 2), none⟩]
def r174_4 : List Op := [
  ⟨some 4, true, .mov (.c (.int .i64 1)), none⟩]
def r174_5 : List Op := [
  ⟨some 20, false, .mov (.g 4), none⟩,
  ⟨some 21, false, .mov (.g 0), none⟩,
  ⟨some 22, false, .len false (.l 1), none⟩,
  ⟨some 23, true, .bin .lss (.l 0) (.l 2), none⟩]
def r174_6 : List Op := [
  ⟨some 27, false, .load (.v 3) (some 2) (.g 3), none⟩,
  ⟨some 28, false, .mov (.g 0), none⟩,
  ⟨some 29, false, .mov (.g 4), none⟩,
  ⟨some 30, false, .iad 2 (.l 1) (.l 2), none⟩,
  ⟨some 31, false, .load (.c) (some 2) (.l 3), none⟩,
  ⟨some 32, false, .call (.k 184) .no none [.l 0, .l 4], none⟩,
  ⟨some 26, false, .mov (.l 5), none⟩,
  ⟨some 33, false, .ext (.l 6) 0, none⟩,
  ⟨some 34, false, .ext (.l 6) 1, none⟩,
  ⟨some 5, true, .alloc [.str [], .str []], none⟩,
  ⟨none, false, .store (.v 5) 2 (.l 9) (.l 7), none⟩,
  ⟨some 6, true, .mov (.l 8), none⟩]
def r174_7 : List Op := [
  ⟨some 35, false, .mov (.g 6), none⟩,
  ⟨some 36, true, .bin .neq (.l 0) (.c (.int .i64 0)), none⟩]
def r174_8 : List Op := [
  ⟨some 2, true, .mov (.c (.bool false)), none⟩]
def r174_9 : List Op := [
  ⟨some 37, false, .load (.v 5) (some 2) (.g 5), none⟩,
  ⟨none, false, .store (.v 3) 2 (.g 3) (.l 0), none⟩]
def r174_10 : List Op := [
  ⟨some 24, false, .mov (.g 4), none⟩,
  ⟨some 25, false, .bin .add (.l 0) (.c (.int .i64 1)), none⟩,
  ⟨some 4, true, .mov (.l 1), none⟩]
def b174_0 : C := .seq (.seq (.region false r174_5) (.cond (.g 23) (.skip) (.exit 0))) (.seq (.block 1 (.seq (.region true r174_6) (.seq (.seq (.region false r174_7) (.cond (.g 36) (.seq (.region false r174_8) (.ret)) (.skip))) (.region false r174_9)))) (.region false r174_10))
def l174_0 : C := .loop [] [] [5] [] b174_0
def r174_11 : List Op := [
  ⟨some 38, false, .load (.v 3) (some 2) (.g 3), none⟩,
  ⟨some 39, false, .build [.str [], .str []] [], none⟩,
  ⟨some 40, false, .eqa false [.s, .s] (.l 0) (.l 1), none⟩,
  ⟨some 2, true, .mov (.l 2), none⟩]
def c174 : C := .seq (.region false r174_0) (.seq (.seq (.region false r174_1) (.cond (.g 16) (.seq (.region false r174_2) (.ret)) (.skip))) (.seq (.region false r174_3) (.seq (.seq (.region false r174_4) (.block 0 (l174_0))) (.seq (.region false r174_11) (.ret)))))
def F174 : F := ⟨1, [0, 2, 3, 4, 5, 6, 16, 23, 36], [.t 2], none, c174⟩
attribute [go_sem] r174_0 r174_1 r174_2 r174_3 r174_4 r174_5 r174_6 r174_7 r174_8 r174_9 r174_10 b174_0 r174_11 c174 F174
def r175_0 : List Op := [
  ⟨some 3, true, .box (.g 1), none⟩,
  ⟨some 4, true, .mov (.c (.int .i64 0)), none⟩]
def r175_1 : List Op := [
  ⟨some 5, false, .mov (.g 0), none⟩,
  ⟨some 6, false, .fn 194 [.g 3] [3], none⟩,
  ⟨some 7, false, .call (.k 185) .no none [.l 0, .l 1], none⟩,
  ⟨some 4, true, .mov (.l 2), none⟩]
def c175 : C := .seq (.region false r175_0) (.seq (.region false r175_1) (.ret))
def F175 : F := ⟨2, [0, 1, 3, 4], [.t 4], none, c175⟩
attribute [go_sem] r175_0 r175_1 c175 F175
def r177_0 : List Op := [
  ⟨some 6, true, .mov (.c (.int .i64 0)), none⟩,
  ⟨some 7, true, .mov (.c (.int .i64 0)), none⟩]
def r177_1 : List Op := [
  ⟨some 9, false, .mov (.g 0), none⟩,
  ⟨some 10, false, .mov (.g 1), none⟩,
  ⟨some 11, false, .call (.k 175) .no none [.l 0, .l 1], none⟩,
  ⟨some 8, true, .mov (.l 2), none⟩]
def r177_2 : List Op := [
  ⟨some 13, false, .mov (.g 0), none⟩,
  ⟨some 14, false, .call (.k 141) .no none [.l 0], none⟩,
  ⟨some 15, false, .un .not (.l 1), none⟩,
  ⟨some 16, false, .mov (.l 2), none⟩,
  ⟨some 17, false, .mov (.g 2), (some (3, false))⟩,
  ⟨some 18, false, .call (.k 162) .no none [.l 4], (some (3, false))⟩,
  ⟨some 19, false, .un .not (.l 5), (some (3, false))⟩,
  ⟨some 20, false, .pick (.l 3) (.c (.bool true)) (.l 6), none⟩,
  ⟨some 12, true, .mov (.l 7), none⟩]
def r177_3 : List Op := [
  ⟨some 6, true, .mov (.c (.int .i64 0)), none⟩,
  ⟨some 7, true, .mov (.c (.int .i64 1)), none⟩]
def r177_4 : List Op := [
  ⟨some 22, false, .mov (.g 8), none⟩,
  ⟨some 23, false, .bin .lss (.l 0) (.c (.int .i64 0)), none⟩,
  ⟨some 21, true, .mov (.l 1), none⟩]
def r177_5 : List Op := [
  ⟨some 6, true, .mov (.c (.int .i64 0)), none⟩,
  ⟨some 7, true, .mov (.c (.int .i64 7)), none⟩]
def r177_6 : List Op := [
  ⟨some 25, false, .mov (.g 2), none⟩,
  ⟨some 26, false, .mov (.g 0), none⟩,
  ⟨some 27, false, .mov (.g 8), none⟩,
  ⟨some 28, false, .iad 5 (.l 1) (.l 2), none⟩,
  ⟨some 29, false, .fad (.l 3) 4, none⟩,
  ⟨some 30, false, .load (.c) none (.l 4), none⟩,
  ⟨some 31, false, .bin .leq (.l 0) (.l 5), none⟩,
  ⟨some 24, true, .mov (.l 6), none⟩]
def r177_7 : List Op := [
  ⟨some 6, true, .mov (.c (.int .i64 0)), none⟩,
  ⟨some 7, true, .mov (.c (.int .i64 9)), none⟩]
def r177_8 : List Op := [
  ⟨some 32, false, .mov (.g 8), none⟩,
  ⟨some 6, true, .mov (.l 0), none⟩,
  ⟨some 7, true, .mov (.c (.int .i64 0)), none⟩]
def c177 : C := .seq (.region false r177_0) (.seq (.region false r177_1) (.seq (.block 0 (.seq (.region false r177_2) (.cond (.g 12) (.seq (.region false r177_3) (.ret)) (.seq (.region false r177_4) (.cond (.g 21) (.seq (.region false r177_5) (.ret)) (.seq (.region false r177_6) (.cond (.g 24) (.seq (.region false r177_7) (.ret)) (.skip)))))))) (.seq (.region false r177_8) (.ret))))
def F177 : F := ⟨3, [0, 1, 2, 6, 7, 8, 12, 21, 24], [.t 6, .t 7], none, c177⟩
attribute [go_sem] r177_0 r177_1 r177_2 r177_3 r177_4 r177_5 r177_6 r177_7 r177_8 c177 F177
def r178_0 : List Op := [
  ⟨some 2, true, .box (.g 0), none⟩,
  ⟨some 4, true, .alloc [.str [], .str []], none⟩,
  ⟨some 5, true, .alloc [.str [], .str []], none⟩,
  ⟨some 6, true, .mov (.c (.int .i64 0)), none⟩]
def r178_1 : List Op := [
  ⟨some 8, false, .load (.v 2) (some 2) (.g 2), none⟩,
  ⟨some 9, false, .call (.k 186) .no none [.l 0], none⟩,
  ⟨some 10, false, .un .not (.l 1), none⟩,
  ⟨some 11, false, .mov (.l 2), none⟩,
  ⟨some 12, false, .mov (.g 1), (some (3, false))⟩,
  ⟨some 13, false, .call (.k 170) .no none [.l 4], (some (3, false))⟩,
  ⟨some 14, false, .un .not (.l 5), (some (3, false))⟩,
  ⟨some 15, false, .pick (.l 3) (.c (.bool true)) (.l 6), none⟩,
  ⟨some 7, true, .mov (.l 7), none⟩]
def r178_2 : List Op := [
  ⟨some 16, false, .build [.str [], .str []] [], none⟩,
  ⟨some 17, false, .build [.str [], .str []] [], none⟩,
  ⟨none, false, .store (.v 4) 2 (.g 4) (.l 0), none⟩,
  ⟨none, false, .store (.v 5) 2 (.g 5) (.l 1), none⟩,
  ⟨some 6, true, .mov (.c (.int .i64 1)), none⟩]
def r178_3 : List Op := [
  ⟨some 19, false, .mov (.g 1), none⟩,
  ⟨some 20, false, .fad (.g 2) 0, none⟩,
  ⟨some 21, false, .load (.v 2) none (.l 1), none⟩,
  ⟨some 22, false, .bin .eql (.l 0) (.l 2), none⟩,
  ⟨some 23, false, .mov (.l 3), none⟩,
  ⟨some 24, false, .load (.v 2) (some 2) (.g 2), (some (4, false))⟩,
  ⟨some 25, false, .mov (.g 1), (some (4, false))⟩,
  ⟨some 26, false, .call (.k 171) .no none [.l 5, .l 6], (some (4, false))⟩,
  ⟨some 27, false, .un .not (.l 7), (some (4, false))⟩,
  ⟨some 28, false, .pick (.l 4) (.c (.bool true)) (.l 8), none⟩,
  ⟨some 18, true, .mov (.l 9), none⟩]
def r178_4 : List Op := [
  ⟨some 29, false, .build [.str [], .str []] [], none⟩,
  ⟨some 30, false, .build [.str [], .str []] [], none⟩,
  ⟨none, false, .store (.v 4) 2 (.g 4) (.l 0), none⟩,
  ⟨none, false, .store (.v 5) 2 (.g 5) (.l 1), none⟩,
  ⟨some 6, true, .mov (.c (.int .i64 9)), none⟩]
def r178_5 : List Op := [
  ⟨some 31, false, .fad (.g 2) 0, none⟩,
  ⟨some 32, false, .load (.v 2) none (.l 0), none⟩,
  ⟨some 33, false, .mov (.g 1), none⟩,
  ⟨some 34, false, .build [.str [], .str []] [(0, 1, .l 1), (1, 1, .l 2)], none⟩,
  ⟨some 35, false, .mov (.g 1), none⟩,
  ⟨some 36, false, .fad (.g 2) 1, none⟩,
  ⟨some 37, false, .load (.v 2) none (.l 5), none⟩,
  ⟨some 38, false, .build [.str [], .str []] [(0, 1, .l 4), (1, 1, .l 6)], none⟩,
  ⟨none, false, .store (.v 4) 2 (.g 4) (.l 3), none⟩,
  ⟨none, false, .store (.v 5) 2 (.g 5) (.l 7), none⟩,
  ⟨some 6, true, .mov (.c (.int .i64 0)), none⟩]
def c178 : C := .seq (.region false r178_0) (.seq (.block 0 (.seq (.region false r178_1) (.cond (.g 7) (.seq (.region false r178_2) (.ret)) (.seq (.region false r178_3) (.cond (.g 18) (.seq (.region false r178_4) (.ret)) (.skip)))))) (.seq (.region true r178_5) (.ret)))
def F178 : F := ⟨2, [0, 1, 2, 4, 5, 6, 7, 18], [.cell 4 (some 2), .cell 5 (some 2), .t 6], none, c178⟩
attribute [go_sem] r178_0 r178_1 r178_2 r178_3 r178_4 r178_5 c178 F178
def r182_0 : List Op := [
  ⟨some 6, true, .mov (.c (.slice 5 [])), none⟩]
def r182_1 : List Op := [
  ⟨some 7, true, .mko 5, none⟩]
def r182_2 : List Op := [
  ⟨some 8, true, .mov (.c (.int .i64 0)), none⟩]
def r182_3 : List Op := [
  ⟨some 9, false, .mov (.g 8), none⟩,
  ⟨some 10, false, .mov (.g 0), none⟩,
  ⟨some 11, false, .len false (.l 1), none⟩,
  ⟨some 12, true, .bin .lss (.l 0) (.l 2), none⟩]
def r182_4 : List Op := [
  ⟨some 15, false, .mov (.g 0), none⟩,
  ⟨some 16, false, .mov (.g 8), none⟩,
  ⟨some 17, false, .iad 5 (.l 0) (.l 1), none⟩,
  ⟨some 18, false, .fad (.l 2) 2, none⟩,
  ⟨some 19, false, .load (.c) none (.l 3), none⟩,
  ⟨some 20, false, .mov (.g 1), none⟩,
  ⟨some 21, true, .bin .eql (.l 4) (.l 5), none⟩]
def r182_5 : List Op := [
  ⟨some 22, false, .mov (.g 7), none⟩,
  ⟨some 23, false, .mov (.g 2), none⟩,
  ⟨some 24, false, .app 7 5 (.l 0) (.l 1), none⟩,
  ⟨some 7, true, .mov (.l 2), none⟩]
def r182_6 : List Op := [
  ⟨some 25, false, .mov (.g 7), none⟩,
  ⟨some 26, false, .mov (.g 0), none⟩,
  ⟨some 27, false, .mov (.g 8), none⟩,
  ⟨some 28, false, .iad 5 (.l 1) (.l 2), none⟩,
  ⟨some 29, false, .load (.c) (some 5) (.l 3), none⟩,
  ⟨some 30, false, .mks 5 1 [.str [], .str [], .int .i64 0, .int .i64 0, .int .i64 0] [(0, .l 4)], none⟩,
  ⟨some 31, false, .app 7 5 (.l 0) (.l 5), none⟩,
  ⟨some 7, true, .mov (.l 6), none⟩]
def r182_7 : List Op := [
  ⟨some 13, false, .mov (.g 8), none⟩,
  ⟨some 14, false, .bin .add (.l 0) (.c (.int .i64 1)), none⟩,
  ⟨some 8, true, .mov (.l 1), none⟩]
def b182_0 : C := .seq (.seq (.region false r182_3) (.cond (.g 12) (.skip) (.exit 0))) (.seq (.block 1 (.seq (.region false r182_4) (.cond (.g 21) (.region false r182_5) (.region false r182_6)))) (.region false r182_7))
def l182_0 : C := .loop [] [] [] [] b182_0
def r182_8 : List Op := [
  ⟨some 32, false, .mov (.g 7), none⟩,
  ⟨some 6, true, .mov (.l 0), none⟩]
def c182 : C := .seq (.region false r182_0) (.seq (.region false r182_1) (.seq (.seq (.region false r182_2) (.block 0 (l182_0))) (.seq (.region false r182_8) (.ret))))
def F182 : F := ⟨3, [0, 1, 2, 6, 7, 8, 12, 21], [.t 6], none, c182⟩
attribute [go_sem] r182_0 r182_1 r182_2 r182_3 r182_4 r182_5 r182_6 r182_7 b182_0 r182_8 c182 F182
def r183_0 : List Op := [
  ⟨some 2, true, .box (.g 0), none⟩,
  ⟨some 4, true, .alloc [.str [], .str []], none⟩,
  ⟨some 5, true, .alloc [.str [], .str []], none⟩,
  ⟨some 6, true, .mov (.c (.int .i64 0)), none⟩]
def r183_1 : List Op := [
  ⟨some 9, false, .load (.v 2) (some 2) (.g 2), none⟩,
  ⟨some 10, false, .call (.k 167) .no none [.l 0], none⟩,
  ⟨some 11, false, .un .not (.l 1), none⟩,
  ⟨some 12, false, .mov (.l 2), none⟩,
  ⟨some 13, false, .mov (.g 1), (some (3, false))⟩,
  ⟨some 14, false, .call (.k 168) .no none [.l 4], (some (3, false))⟩,
  ⟨some 15, false, .un .not (.l 5), (some (3, false))⟩,
  ⟨some 16, true, .pick (.l 3) (.c (.bool true)) (.l 6), none⟩]
def r183_2 : List Op := [
  ⟨some 17, false, .build [.str [], .str []] [], none⟩,
  ⟨some 18, false, .build [.str [], .str []] [], none⟩,
  ⟨none, false, .store (.v 4) 2 (.g 4) (.l 0), none⟩,
  ⟨none, false, .store (.v 5) 2 (.g 5) (.l 1), none⟩,
  ⟨some 6, true, .mov (.c (.int .i64 1)), none⟩]
def r183_3 : List Op := [
  ⟨some 19, false, .fad (.g 2) 0, none⟩,
  ⟨some 20, false, .load (.v 2) none (.l 0), none⟩,
  ⟨some 21, false, .mov (.g 1), none⟩,
  ⟨some 22, false, .build [.str [], .str []] [(0, 1, .l 1), (1, 1, .l 2)], none⟩,
  ⟨some 23, false, .mov (.g 1), none⟩,
  ⟨some 24, false, .fad (.g 2) 1, none⟩,
  ⟨some 25, false, .load (.v 2) none (.l 5), none⟩,
  ⟨some 26, false, .build [.str [], .str []] [(0, 1, .l 4), (1, 1, .l 6)], none⟩,
  ⟨some 7, true, .alloc [.str [], .str []], none⟩,
  ⟨some 8, true, .alloc [.str [], .str []], none⟩,
  ⟨none, false, .store (.v 7) 2 (.l 8) (.l 3), none⟩,
  ⟨none, false, .store (.v 8) 2 (.l 9) (.l 7), none⟩]
def r183_4 : List Op := [
  ⟨some 27, false, .load (.v 7) (some 2) (.g 7), none⟩,
  ⟨some 28, false, .call (.k 167) .no none [.l 0], none⟩,
  ⟨some 29, false, .un .not (.l 1), none⟩,
  ⟨some 30, false, .mov (.l 2), none⟩,
  ⟨some 31, false, .load (.v 8) (some 2) (.g 8), (some (3, false))⟩,
  ⟨some 32, false, .call (.k 167) .no none [.l 4], (some (3, false))⟩,
  ⟨some 33, false, .un .not (.l 5), (some (3, false))⟩,
  ⟨some 34, true, .pick (.l 3) (.c (.bool true)) (.l 6), none⟩]
def r183_5 : List Op := [
  ⟨some 35, false, .build [.str [], .str []] [], none⟩,
  ⟨some 36, false, .build [.str [], .str []] [], none⟩,
  ⟨none, false, .store (.v 4) 2 (.g 4) (.l 0), none⟩,
  ⟨none, false, .store (.v 5) 2 (.g 5) (.l 1), none⟩,
  ⟨some 6, true, .mov (.c (.int .i64 9)), none⟩]
def r183_6 : List Op := [
  ⟨some 37, false, .load (.v 7) (some 2) (.g 7), none⟩,
  ⟨some 38, false, .load (.v 8) (some 2) (.g 8), none⟩,
  ⟨none, false, .store (.v 4) 2 (.g 4) (.l 0), none⟩,
  ⟨none, false, .store (.v 5) 2 (.g 5) (.l 1), none⟩,
  ⟨some 6, true, .mov (.c (.int .i64 0)), none⟩]
def c183 : C := .seq (.region false r183_0) (.seq (.seq (.region false r183_1) (.cond (.g 16) (.seq (.region false r183_2) (.ret)) (.skip))) (.seq (.region true r183_3) (.seq (.seq (.region false r183_4) (.cond (.g 34) (.seq (.region false r183_5) (.ret)) (.skip))) (.seq (.region true r183_6) (.ret)))))
def F183 : F := ⟨2, [0, 1, 2, 4, 5, 6, 7, 8, 16, 34], [.cell 4 (some 2), .cell 5 (some 2), .t 6], none, c183⟩
attribute [go_sem] r183_0 r183_1 r183_2 r183_3 r183_4 r183_5 r183_6 c183 F183
def r184_0 : List Op := [
  ⟨some 2, true, .box (.g 0), none⟩,
  ⟨some 3, true, .box (.g 1), none⟩,
  ⟨some 4, true, .alloc [.str [], .str []], none⟩,
  ⟨some 5, true, .mov (.c (.int .i64 0)), none⟩]
def r184_1 : List Op := [
  ⟨some 6, false, .load (.v 2) (some 2) (.g 2), none⟩,
  ⟨some 7, false, .call (.k 167) .no none [.l 0], none⟩,
  ⟨some 8, false, .un .not (.l 1), none⟩,
  ⟨some 9, false, .mov (.l 2), none⟩,
  ⟨some 10, false, .load (.v 3) (some 2) (.g 3), (some (3, false))⟩,
  ⟨some 11, false, .call (.k 167) .no none [.l 4], (some (3, false))⟩,
  ⟨some 12, false, .un .not (.l 5), (some (3, false))⟩,
  ⟨some 13, true, .pick (.l 3) (.c (.bool true)) (.l 6), none⟩]
def r184_2 : List Op := [
  ⟨some 14, false, .build [.str [], .str []] [], none⟩,
  ⟨none, false, .store (.v 4) 2 (.g 4) (.l 0), none⟩,
  ⟨some 5, true, .mov (.c (.int .i64 1)), none⟩]
def r184_3 : List Op := [
  ⟨some 15, false, .fad (.g 2) 1, none⟩,
  ⟨some 16, false, .load (.v 2) none (.l 0), none⟩,
  ⟨some 17, false, .len true (.l 1), none⟩,
  ⟨some 18, false, .bin .eql (.l 2) (.c (.int .i64 0)), none⟩,
  ⟨some 19, false, .mov (.l 3), none⟩,
  ⟨some 20, false, .fad (.g 2) 1, (some (4, false))⟩,
  ⟨some 21, false, .load (.v 2) none (.l 5), (some (4, false))⟩,
  ⟨some 22, false, .fad (.g 3) 0, (some (4, false))⟩,
  ⟨some 23, false, .load (.v 3) none (.l 7), (some (4, false))⟩,
  ⟨some 24, false, .bin .neq (.l 6) (.l 8), (some (4, false))⟩,
  ⟨some 25, true, .pick (.l 4) (.c (.bool true)) (.l 9), none⟩]
def r184_4 : List Op := [
  ⟨some 26, false, .build [.str [], .str []] [], none⟩,
  ⟨none, false, .store (.v 4) 2 (.g 4) (.l 0), none⟩,
  ⟨some 5, true, .mov (.c (.int .i64 9)), none⟩]
def r184_5 : List Op := [
  ⟨some 27, false, .fad (.g 2) 0, none⟩,
  ⟨some 28, false, .load (.v 2) none (.l 0), none⟩,
  ⟨some 29, false, .fad (.g 3) 1, none⟩,
  ⟨some 30, false, .load (.v 3) none (.l 2), none⟩,
  ⟨some 31, false, .build [.str [], .str []] [(0, 1, .l 1), (1, 1, .l 3)], none⟩,
  ⟨none, false, .store (.v 4) 2 (.g 4) (.l 4), none⟩,
  ⟨some 5, true, .mov (.c (.int .i64 0)), none⟩]
def c184 : C := .seq (.region false r184_0) (.seq (.seq (.region false r184_1) (.cond (.g 13) (.seq (.region false r184_2) (.ret)) (.skip))) (.seq (.seq (.region false r184_3) (.cond (.g 25) (.seq (.region false r184_4) (.ret)) (.skip))) (.seq (.region false r184_5) (.ret))))
def F184 : F := ⟨2, [0, 1, 2, 3, 4, 5, 13, 25], [.cell 4 (some 2), .t 5], none, c184⟩
attribute [go_sem] r184_0 r184_1 r184_2 r184_3 r184_4 r184_5 c184 F184
def r185_0 : List Op := [
  ⟨some 4, true, .mov (.c (.int .i64 0)), none⟩]
def r185_1 : List Op := [
  ⟨some 6, false, .mov (.g 0), none⟩,
  ⟨some 7, true, .len false (.l 0), none⟩,
  ⟨some 8, true, .mov (.c (.int .i64 0)), none⟩]
def r185_2 : List Op := [
  ⟨some 9, true, .bin .lss (.g 8) (.g 7), none⟩]
def r185_3 : List Op := [
  ⟨some 10, false, .mov (.g 8), none⟩,
  ⟨some 5, true, .mov (.l 0), none⟩]
def r185_4 : List Op := [
  ⟨some 11, false, .mov (.g 1), none⟩,
  ⟨some 12, false, .mov (.g 0), none⟩,
  ⟨some 13, false, .mov (.g 5), none⟩,
  ⟨some 14, false, .iad 5 (.l 1) (.l 2), none⟩,
  ⟨some 15, false, .load (.c) (some 5) (.l 3), none⟩,
  ⟨some 16, true, .call (.v (.l 0)) .no none [.l 4], none⟩]
def r185_5 : List Op := [
  ⟨some 17, false, .mov (.g 5), none⟩,
  ⟨some 4, true, .mov (.l 0), none⟩]
def r185_6 : List Op := [
  ⟨some 18, false, .bin .add (.g 8) (.c (.int .i64 1)), none⟩,
  ⟨some 8, true, .mov (.l 0), none⟩]
def b185_0 : C := .seq (.region false r185_2) (.seq (.cond (.g 9) (.skip) (.exit 0)) (.seq (.block 1 (.seq (.region false r185_3) (.seq (.region false r185_4) (.cond (.g 16) (.seq (.region false r185_5) (.ret)) (.skip))))) (.region false r185_6)))
def l185_0 : C := .loop [] [] [] [] b185_0
def r185_7 : List Op := [
  ⟨some 4, true, .mov (.c (.int .i64 (-1))), none⟩]
def c185 : C := .seq (.region false r185_0) (.seq (.seq (.region false r185_1) (.block 0 (l185_0))) (.seq (.region false r185_7) (.ret)))
def F185 : F := ⟨2, [0, 1, 4, 5, 7, 8, 9, 16], [.t 4], none, c185⟩
attribute [go_sem] r185_0 r185_1 r185_2 r185_3 r185_4 r185_5 r185_6 b185_0 r185_7 c185 F185
def r186_0 : List Op := [
  ⟨some 1, true, .box (.g 0), none⟩,
  ⟨some 2, true, .mov (.c (.bool false)), none⟩]
def r186_1 : List Op := [
  ⟨some 3, false, .fad (.g 1) 0, none⟩,
  ⟨some 4, false, .load (.v 1) none (.l 0), none⟩,
  ⟨some 5, false, .bin .neq (.l 1) (.c (.str [])), none⟩,
  ⟨some 6, false, .mov (.l 2), none⟩,
  ⟨some 7, false, .fad (.g 1) 0, (some (3, true))⟩,
  ⟨some 8, false, .load (.v 1) none (.l 4), (some (3, true))⟩,
  ⟨some 9, false, .call (.k 170) .no none [.l 5], (some (3, true))⟩,
  ⟨some 10, false, .un .not (.l 6), (some (3, true))⟩,
  ⟨some 11, true, .pick (.l 3) (.l 7) (.c (.bool false)), none⟩]
def r186_2 : List Op := [
  ⟨some 2, true, .mov (.c (.bool false)), none⟩]
def r186_3 : List Op := [
  ⟨some 12, false, .fad (.g 1) 1, none⟩,
  ⟨some 13, false, .load (.v 1) none (.l 0), none⟩,
  ⟨some 14, false, .bin .eql (.l 1) (.c (.str [])), none⟩,
  ⟨some 15, false, .mov (.l 2), none⟩,
  ⟨some 16, false, .fad (.g 1) 1, (some (3, false))⟩,
  ⟨some 17, false, .load (.v 1) none (.l 4), (some (3, false))⟩,
  ⟨some 18, false, .call (.k 170) .no none [.l 5], (some (3, false))⟩,
  ⟨some 19, false, .mov (.l 6), (some (3, false))⟩,
  ⟨some 20, false, .fad (.g 1) 0, (some (7, true))⟩,
  ⟨some 21, false, .load (.v 1) none (.l 8), (some (7, true))⟩,
  ⟨some 22, false, .fad (.g 1) 1, (some (7, true))⟩,
  ⟨some 23, false, .load (.v 1) none (.l 10), (some (7, true))⟩,
  ⟨some 24, false, .call (.k 192) .no none [.l 9, .l 11], (some (7, true))⟩,
  ⟨some 25, false, .bin .lss (.l 12) (.c (.int .i64 0)), (some (7, true))⟩,
  ⟨some 26, false, .pick (.l 7) (.l 13) (.c (.bool false)), (some (3, false))⟩,
  ⟨some 27, false, .pick (.l 3) (.c (.bool true)) (.l 14), none⟩,
  ⟨some 2, true, .mov (.l 15), none⟩]
def c186 : C := .seq (.region false r186_0) (.seq (.seq (.region false r186_1) (.cond (.g 11) (.seq (.region false r186_2) (.ret)) (.skip))) (.seq (.region false r186_3) (.ret)))
def F186 : F := ⟨1, [0, 1, 2, 11], [.t 2], none, c186⟩
attribute [go_sem] r186_0 r186_1 r186_2 r186_3 c186 F186
def r187_0 : List Op := [
  ⟨some 4, true, .mov (.c (.int .i64 0)), none⟩]
def r187_1 : List Op := [
  ⟨some 8, false, .mov (.g 0), none⟩,
  ⟨some 9, false, .call (.k 195) .no none [.l 0], none⟩,
  ⟨some 10, false, .mov (.g 1), none⟩,
  ⟨some 11, false, .call (.k 195) .no none [.l 2], none⟩,
  ⟨some 5, true, .mov (.l 1), none⟩,
  ⟨some 6, true, .mov (.l 3), none⟩]
def r187_2 : List Op := [
  ⟨some 7, true, .mov (.c (.int .i64 0)), none⟩]
def r187_3 : List Op := [
  ⟨some 12, false, .mov (.g 7), none⟩,
  ⟨some 13, false, .mov (.g 5), none⟩,
  ⟨some 14, false, .len false (.l 1), none⟩,
  ⟨some 15, false, .bin .lss (.l 0) (.l 2), none⟩,
  ⟨some 16, false, .mov (.l 3), none⟩,
  ⟨some 17, false, .mov (.g 7), (some (4, true))⟩,
  ⟨some 18, false, .mov (.g 6), (some (4, true))⟩,
  ⟨some 19, false, .len false (.l 6), (some (4, true))⟩,
  ⟨some 20, false, .bin .lss (.l 5) (.l 7), (some (4, true))⟩,
  ⟨some 21, true, .pick (.l 4) (.l 8) (.c (.bool false)), none⟩]
def r187_4 : List Op := [
  ⟨some 24, false, .mov (.g 5), none⟩,
  ⟨some 25, false, .mov (.g 7), none⟩,
  ⟨some 26, false, .iad 1 (.l 0) (.l 1), none⟩,
  ⟨some 27, false, .load (.c) none (.l 2), none⟩,
  ⟨some 28, false, .mov (.g 6), none⟩,
  ⟨some 29, false, .mov (.g 7), none⟩,
  ⟨some 30, false, .iad 1 (.l 4) (.l 5), none⟩,
  ⟨some 31, false, .load (.c) none (.l 6), none⟩,
  ⟨some 32, true, .bin .lss (.l 3) (.l 7), none⟩]
def r187_5 : List Op := [
  ⟨some 4, true, .mov (.c (.int .i64 (-1))), none⟩]
def r187_6 : List Op := [
  ⟨some 33, false, .mov (.g 5), none⟩,
  ⟨some 34, false, .mov (.g 7), none⟩,
  ⟨some 35, false, .iad 1 (.l 0) (.l 1), none⟩,
  ⟨some 36, false, .load (.c) none (.l 2), none⟩,
  ⟨some 37, false, .mov (.g 6), none⟩,
  ⟨some 38, false, .mov (.g 7), none⟩,
  ⟨some 39, false, .iad 1 (.l 4) (.l 5), none⟩,
  ⟨some 40, false, .load (.c) none (.l 6), none⟩,
  ⟨some 41, true, .bin .gtr (.l 3) (.l 7), none⟩]
def r187_7 : List Op := [
  ⟨some 4, true, .mov (.c (.int .i64 1)), none⟩]
def r187_8 : List Op := [
  ⟨some 22, false, .mov (.g 7), none⟩,
  ⟨some 23, false, .bin .add (.l 0) (.c (.int .i64 1)), none⟩,
  ⟨some 7, true, .mov (.l 1), none⟩]
def b187_0 : C := .seq (.seq (.region false r187_3) (.cond (.g 21) (.skip) (.exit 0))) (.seq (.block 1 (.seq (.seq (.region true r187_4) (.cond (.g 32) (.seq (.region false r187_5) (.ret)) (.skip))) (.seq (.region true r187_6) (.cond (.g 41) (.seq (.region false r187_7) (.ret)) (.skip))))) (.region false r187_8))
def l187_0 : C := .loop [] [] [] [] b187_0
def r187_9 : List Op := [
  ⟨some 42, false, .mov (.g 5), none⟩,
  ⟨some 43, false, .len false (.l 0), none⟩,
  ⟨some 44, false, .mov (.g 6), none⟩,
  ⟨some 45, false, .len false (.l 2), none⟩,
  ⟨some 46, true, .bin .lss (.l 1) (.l 3), none⟩]
def r187_10 : List Op := [
  ⟨some 4, true, .mov (.c (.int .i64 (-1))), none⟩]
def r187_11 : List Op := [
  ⟨some 47, false, .mov (.g 5), none⟩,
  ⟨some 48, false, .len false (.l 0), none⟩,
  ⟨some 49, false, .mov (.g 6), none⟩,
  ⟨some 50, false, .len false (.l 2), none⟩,
  ⟨some 51, true, .bin .gtr (.l 1) (.l 3), none⟩]
def r187_12 : List Op := [
  ⟨some 4, true, .mov (.c (.int .i64 1)), none⟩]
def r187_13 : List Op := [
  ⟨some 4, true, .mov (.c (.int .i64 0)), none⟩]
def c187 : C := .seq (.region false r187_0) (.seq (.region false r187_1) (.seq (.seq (.region false r187_2) (.block 0 (l187_0))) (.seq (.seq (.region false r187_9) (.cond (.g 46) (.seq (.region false r187_10) (.ret)) (.skip))) (.seq (.seq (.region false r187_11) (.cond (.g 51) (.seq (.region false r187_12) (.ret)) (.skip))) (.seq (.region false r187_13) (.ret))))))
def F187 : F := ⟨2, [0, 1, 4, 5, 6, 7, 21, 32, 41, 46, 51], [.t 4], none, c187⟩
attribute [go_sem] r187_0 r187_1 r187_2 r187_3 r187_4 r187_5 r187_6 r187_7 r187_8 b187_0 r187_9 r187_10 r187_11 r187_12 r187_13 c187 F187
def r188_0 : List Op := [
  ⟨some 2, true, .mov (.c (.int .i64 0)), none⟩,
  ⟨some 3, true, .mov (.c (.int .i64 0)), none⟩]
def r188_1 : List Op := [
  ⟨some 8, false, .mov (.g 0), none⟩,
  ⟨some 9, false, .idx (.l 0) (.c (.int .i64 0)), none⟩,
  ⟨some 10, false, .conv (.int .i64) (.l 1), none⟩,
  ⟨some 4, true, .mov (.l 2), none⟩]
def r188_2 : List Op := [
  ⟨some 11, false, .mov (.g 4), none⟩,
  ⟨some 12, true, .bin .lss (.l 0) (.c (.int .i64 128)), none⟩]
def r188_3 : List Op := [
  ⟨some 13, false, .mov (.g 4), none⟩,
  ⟨some 2, true, .mov (.l 0), none⟩,
  ⟨some 3, true, .mov (.c (.int .i64 1)), none⟩]
def r188_4 : List Op := [
  ⟨some 5, true, .mov (.c (.int .i64 0)), none⟩,
  ⟨some 6, true, .mov (.c (.int .i64 0)), none⟩]
def r188_5 : List Op := [
  ⟨some 14, false, .mov (.g 4), none⟩,
  ⟨some 15, false, .bin .geq (.l 0) (.c (.int .i64 194)), none⟩,
  ⟨some 16, false, .mov (.l 1), none⟩,
  ⟨some 17, false, .mov (.g 4), (some (2, true))⟩,
  ⟨some 18, false, .bin .lss (.l 3) (.c (.int .i64 224)), (some (2, true))⟩,
  ⟨some 19, true, .pick (.l 2) (.l 4) (.c (.bool false)), none⟩]
def r188_6 : List Op := [
  ⟨some 20, false, .mov (.g 4), none⟩,
  ⟨some 21, false, .bin .sub (.l 0) (.c (.int .i64 192)), none⟩,
  ⟨some 5, true, .mov (.c (.int .i64 2)), none⟩,
  ⟨some 6, true, .mov (.c (.int .i64 128)), none⟩,
  ⟨some 4, true, .mov (.l 1), none⟩]
def r188_7 : List Op := [
  ⟨some 22, false, .mov (.g 4), none⟩,
  ⟨some 23, false, .bin .geq (.l 0) (.c (.int .i64 224)), none⟩,
  ⟨some 24, false, .mov (.l 1), none⟩,
  ⟨some 25, false, .mov (.g 4), (some (2, true))⟩,
  ⟨some 26, false, .bin .lss (.l 3) (.c (.int .i64 240)), (some (2, true))⟩,
  ⟨some 27, true, .pick (.l 2) (.l 4) (.c (.bool false)), none⟩]
def r188_8 : List Op := [
  ⟨some 28, false, .mov (.g 4), none⟩,
  ⟨some 29, false, .bin .sub (.l 0) (.c (.int .i64 224)), none⟩,
  ⟨some 5, true, .mov (.c (.int .i64 3)), none⟩,
  ⟨some 6, true, .mov (.c (.int .i64 2048)), none⟩,
  ⟨some 4, true, .mov (.l 1), none⟩]
def r188_9 : List Op := [
  ⟨some 30, false, .mov (.g 4), none⟩,
  ⟨some 31, false, .bin .geq (.l 0) (.c (.int .i64 240)), none⟩,
  ⟨some 32, false, .mov (.l 1), none⟩,
  ⟨some 33, false, .mov (.g 4), (some (2, true))⟩,
  ⟨some 34, false, .bin .lss (.l 3) (.c (.int .i64 245)), (some (2, true))⟩,
  ⟨some 35, true, .pick (.l 2) (.l 4) (.c (.bool false)), none⟩]
def r188_10 : List Op := [
  ⟨some 36, false, .mov (.g 4), none⟩,
  ⟨some 37, false, .bin .sub (.l 0) (.c (.int .i64 240)), none⟩,
  ⟨some 5, true, .mov (.c (.int .i64 4)), none⟩,
  ⟨some 6, true, .mov (.c (.int .i64 65536)), none⟩,
  ⟨some 4, true, .mov (.l 1), none⟩]
def r188_11 : List Op := [
  ⟨some 38, false, .mov (.g 5), none⟩,
  ⟨some 39, false, .bin .eql (.l 0) (.c (.int .i64 0)), none⟩,
  ⟨some 40, false, .mov (.l 1), none⟩,
  ⟨some 41, false, .mov (.g 0), (some (2, false))⟩,
  ⟨some 42, false, .len true (.l 3), (some (2, false))⟩,
  ⟨some 43, false, .mov (.g 5), (some (2, false))⟩,
  ⟨some 44, false, .bin .lss (.l 4) (.l 5), (some (2, false))⟩,
  ⟨some 45, true, .pick (.l 2) (.c (.bool true)) (.l 6), none⟩]
def r188_12 : List Op := [
  ⟨some 2, true, .mov (.c (.int .i64 (-1))), none⟩,
  ⟨some 3, true, .mov (.c (.int .i64 1)), none⟩]
def r188_13 : List Op := [
  ⟨some 7, true, .mov (.c (.int .i64 1)), none⟩]
def r188_14 : List Op := [
  ⟨some 46, false, .mov (.g 7), none⟩,
  ⟨some 47, false, .mov (.g 5), none⟩,
  ⟨some 48, true, .bin .lss (.l 0) (.l 1), none⟩]
def r188_15 : List Op := [
  ⟨some 51, false, .mov (.g 0), none⟩,
  ⟨some 52, false, .mov (.g 7), none⟩,
  ⟨some 53, false, .idx (.l 0) (.l 1), none⟩,
  ⟨some 54, false, .bin .lss (.l 2) (.c (.int .u8 128)), none⟩,
  ⟨some 55, false, .mov (.l 3), none⟩,
  ⟨some 56, false, .mov (.g 0), (some (4, false))⟩,
  ⟨some 57, false, .mov (.g 7), (some (4, false))⟩,
  ⟨some 58, false, .idx (.l 5) (.l 6), (some (4, false))⟩,
  ⟨some 59, false, .bin .gtr (.l 7) (.c (.int .u8 191)), (some (4, false))⟩,
  ⟨some 60, true, .pick (.l 4) (.c (.bool true)) (.l 8), none⟩]
def r188_16 : List Op := [
  ⟨some 2, true, .mov (.c (.int .i64 (-1))), none⟩,
  ⟨some 3, true, .mov (.c (.int .i64 1)), none⟩]
def r188_17 : List Op := [
  ⟨some 61, false, .mov (.g 4), none⟩,
  ⟨some 62, false, .bin .mul (.c (.int .i64 64)) (.l 0), none⟩,
  ⟨some 63, false, .mov (.g 0), none⟩,
  ⟨some 64, false, .mov (.g 7), none⟩,
  ⟨some 65, false, .idx (.l 2) (.l 3), none⟩,
  ⟨some 66, false, .conv (.int .i64) (.l 4), none⟩,
  ⟨some 67, false, .bin .add (.l 1) (.l 5), none⟩,
  ⟨some 68, false, .bin .sub (.l 6) (.c (.int .i64 128)), none⟩,
  ⟨some 4, true, .mov (.l 7), none⟩]
def r188_18 : List Op := [
  ⟨some 49, false, .mov (.g 7), none⟩,
  ⟨some 50, false, .bin .add (.l 0) (.c (.int .i64 1)), none⟩,
  ⟨some 7, true, .mov (.l 1), none⟩]
def b188_0 : C := .seq (.seq (.region false r188_14) (.cond (.g 48) (.skip) (.exit 0))) (.seq (.block 1 (.seq (.seq (.region false r188_15) (.cond (.g 60) (.seq (.region false r188_16) (.ret)) (.skip))) (.region false r188_17))) (.region false r188_18))
def l188_0 : C := .loop [] [] [] [] b188_0
def r188_19 : List Op := [
  ⟨some 69, false, .mov (.g 4), none⟩,
  ⟨some 70, false, .mov (.g 6), none⟩,
  ⟨some 71, false, .bin .lss (.l 0) (.l 1), none⟩,
  ⟨some 72, false, .mov (.l 2), none⟩,
  ⟨some 73, false, .mov (.g 4), (some (3, false))⟩,
  ⟨some 74, false, .bin .gtr (.l 4) (.c (.int .i64 1114111)), (some (3, false))⟩,
  ⟨some 75, false, .pick (.l 3) (.c (.bool true)) (.l 5), none⟩,
  ⟨some 76, false, .mov (.l 6), none⟩,
  ⟨some 77, false, .mov (.g 4), (some (7, false))⟩,
  ⟨some 78, false, .bin .geq (.l 8) (.c (.int .i64 55296)), (some (7, false))⟩,
  ⟨some 79, false, .mov (.l 9), (some (7, false))⟩,
  ⟨some 80, false, .mov (.g 4), (some (10, true))⟩,
  ⟨some 81, false, .bin .lss (.l 11) (.c (.int .i64 57344)), (some (10, true))⟩,
  ⟨some 82, false, .pick (.l 10) (.l 12) (.c (.bool false)), (some (7, false))⟩,
  ⟨some 83, true, .pick (.l 7) (.c (.bool true)) (.l 13), none⟩]
def r188_20 : List Op := [
  ⟨some 2, true, .mov (.c (.int .i64 (-1))), none⟩,
  ⟨some 3, true, .mov (.c (.int .i64 1)), none⟩]
def r188_21 : List Op := [
  ⟨some 84, false, .mov (.g 4), none⟩,
  ⟨some 85, false, .mov (.g 5), none⟩,
  ⟨some 2, true, .mov (.l 0), none⟩,
  ⟨some 3, true, .mov (.l 1), none⟩]
def c188 : C := .seq (.region false r188_0) (.seq (.region false r188_1) (.seq (.seq (.region false r188_2) (.cond (.g 12) (.seq (.region false r188_3) (.ret)) (.skip))) (.seq (.region false r188_4) (.seq (.seq (.region false r188_5) (.cond (.g 19) (.region false r188_6) (.seq (.region false r188_7) (.cond (.g 27) (.region false r188_8) (.seq (.region false r188_9) (.cond (.g 35) (.region false r188_10) (.skip))))))) (.seq (.seq (.region false r188_11) (.cond (.g 45) (.seq (.region false r188_12) (.ret)) (.skip))) (.seq (.seq (.region false r188_13) (.block 0 (l188_0))) (.seq (.seq (.region false r188_19) (.cond (.g 83) (.seq (.region false r188_20) (.ret)) (.skip))) (.seq (.region false r188_21) (.ret)))))))))
def F188 : F := ⟨1, [0, 2, 3, 4, 5, 6, 7, 12, 19, 27, 35, 45, 48, 60, 83], [.t 2, .t 3], none, c188⟩
attribute [go_sem] r188_0 r188_1 r188_2 r188_3 r188_4 r188_5 r188_6 r188_7 r188_8 r188_9 r188_10 r188_11 r188_12 r188_13 r188_14 r188_15 r188_16 r188_17 r188_18 b188_0 r188_19 r188_20 r188_21 c188 F188
def r189_0 : List Op := [
  ⟨some 2, true, .mov (.c (.bool false)), none⟩]
def r189_1 : List Op := [
  ⟨some 3, false, .mov (.g 0), none⟩,
  ⟨some 4, false, .bin .gtr (.l 0) (.c (.int .i64 32)), none⟩,
  ⟨some 5, false, .mov (.l 1), none⟩,
  ⟨some 6, false, .mov (.g 0), (some (2, true))⟩,
  ⟨some 7, false, .bin .neq (.l 3) (.c (.int .i64 127)), (some (2, true))⟩,
  ⟨some 8, false, .pick (.l 2) (.l 4) (.c (.bool false)), none⟩,
  ⟨some 9, false, .mov (.l 5), none⟩,
  ⟨some 10, false, .mov (.g 0), (some (6, true))⟩,
  ⟨some 11, false, .bin .lss (.l 7) (.c (.int .i64 128)), (some (6, true))⟩,
  ⟨some 12, false, .mov (.l 8), (some (6, true))⟩,
  ⟨some 13, false, .mov (.g 0), (some (9, false))⟩,
  ⟨some 14, false, .bin .gtr (.l 10) (.c (.int .i64 159)), (some (9, false))⟩,
  ⟨some 15, false, .pick (.l 9) (.c (.bool true)) (.l 11), (some (6, true))⟩,
  ⟨some 16, false, .pick (.l 6) (.l 12) (.c (.bool false)), none⟩,
  ⟨some 2, true, .mov (.l 13), none⟩]
def c189 : C := .seq (.region false r189_0) (.seq (.region false r189_1) (.ret))
def F189 : F := ⟨1, [0, 2], [.t 2], none, c189⟩
attribute [go_sem] r189_0 r189_1 c189 F189
def r191_0 : List Op := [
  ⟨some 4, true, .mov (.c (.bool false)), none⟩]
def r191_1 : List Op := [
  ⟨some 5, false, .mov (.g 0), none⟩,
  ⟨some 6, false, .bin .geq (.l 0) (.c (.int .i32 33)), none⟩,
  ⟨some 7, false, .mov (.l 1), none⟩,
  ⟨some 8, false, .mov (.g 0), (some (2, true))⟩,
  ⟨some 9, false, .bin .lss (.l 3) (.c (.int .i32 127)), (some (2, true))⟩,
  ⟨some 10, false, .mov (.l 4), (some (2, true))⟩,
  ⟨some 11, false, .mov (.g 0), (some (5, false))⟩,
  ⟨some 12, false, .bin .gtr (.l 6) (.c (.int .i32 159)), (some (5, false))⟩,
  ⟨some 13, false, .pick (.l 5) (.c (.bool true)) (.l 7), (some (2, true))⟩,
  ⟨some 14, false, .pick (.l 2) (.l 8) (.c (.bool false)), none⟩,
  ⟨some 15, false, .mov (.l 9), none⟩,
  ⟨some 16, false, .mov (.g 0), (some (10, true))⟩,
  ⟨some 17, false, .bin .neq (.l 11) (.c (.int .i32 65533)), (some (10, true))⟩,
  ⟨some 18, false, .mov (.l 12), (some (10, true))⟩,
  ⟨some 19, false, .mov (.g 1), (some (13, false))⟩,
  ⟨some 20, false, .bin .eql (.l 14) (.c (.int .i64 3)), (some (13, false))⟩,
  ⟨some 21, false, .pick (.l 13) (.c (.bool true)) (.l 15), (some (10, true))⟩,
  ⟨some 22, false, .pick (.l 10) (.l 16) (.c (.bool false)), none⟩,
  ⟨some 4, true, .mov (.l 17), none⟩]
def c191 : C := .seq (.region false r191_0) (.seq (.region false r191_1) (.ret))
def F191 : F := ⟨2, [0, 1, 4], [.t 4], none, c191⟩
attribute [go_sem] r191_0 r191_1 c191 F191
def r192_0 : List Op := [
  ⟨some 4, true, .mov (.c (.int .i64 0)), none⟩]
def r192_1 : List Op := [
  ⟨some 9, false, .mov (.g 0), none⟩,
  ⟨some 10, false, .bin .neq (.l 0) (.c (.str [])), none⟩,
  ⟨some 11, false, .mov (.l 1), none⟩,
  ⟨some 12, false, .mov (.g 1), (some (2, true))⟩,
  ⟨some 13, false, .bin .neq (.l 3) (.c (.str [])), (some (2, true))⟩,
  ⟨some 14, true, .pick (.l 2) (.l 4) (.c (.bool false)), none⟩]
def r192_2 : List Op := [
  ⟨some 16, false, .mov (.g 0), none⟩,
  ⟨some 17, false, .call (.k 190) .no none [.l 0], none⟩,
  ⟨some 15, false, .mov (.l 1), none⟩,
  ⟨some 18, false, .ext (.l 2) 0, none⟩,
  ⟨some 19, false, .ext (.l 2) 1, none⟩,
  ⟨some 5, true, .mov (.l 3), none⟩,
  ⟨some 6, true, .mov (.l 4), none⟩]
def r192_3 : List Op := [
  ⟨some 21, false, .mov (.g 1), none⟩,
  ⟨some 22, false, .call (.k 190) .no none [.l 0], none⟩,
  ⟨some 20, false, .mov (.l 1), none⟩,
  ⟨some 23, false, .ext (.l 2) 0, none⟩,
  ⟨some 24, false, .ext (.l 2) 1, none⟩,
  ⟨some 7, true, .mov (.l 3), none⟩,
  ⟨some 8, true, .mov (.l 4), none⟩]
def r192_4 : List Op := [
  ⟨some 26, false, .mov (.g 5), none⟩,
  ⟨some 27, false, .mov (.g 7), none⟩,
  ⟨some 28, false, .bin .lss (.l 0) (.l 1), none⟩,
  ⟨some 25, true, .mov (.l 2), none⟩]
def r192_5 : List Op := [
  ⟨some 4, true, .mov (.c (.int .i64 (-1))), none⟩]
def r192_6 : List Op := [
  ⟨some 30, false, .mov (.g 5), none⟩,
  ⟨some 31, false, .mov (.g 7), none⟩,
  ⟨some 32, false, .bin .gtr (.l 0) (.l 1), none⟩,
  ⟨some 29, true, .mov (.l 2), none⟩]
def r192_7 : List Op := [
  ⟨some 4, true, .mov (.c (.int .i64 1)), none⟩]
def r192_8 : List Op := [
  ⟨some 33, false, .mov (.g 0), none⟩,
  ⟨some 34, false, .mov (.g 6), none⟩,
  ⟨some 35, false, .sl true 0 (.l 0) (some (.l 1)) none, none⟩,
  ⟨some 36, false, .mov (.g 1), none⟩,
  ⟨some 37, false, .mov (.g 8), none⟩,
  ⟨some 38, false, .sl true 0 (.l 3) (some (.l 4)) none, none⟩,
  ⟨some 0, true, .mov (.l 2), none⟩,
  ⟨some 1, true, .mov (.l 5), none⟩]
def b192_0 : C := .seq (.seq (.region false r192_1) (.cond (.g 14) (.skip) (.exit 0))) (.block 1 (.seq (.region false r192_2) (.seq (.region false r192_3) (.seq (.block 2 (.seq (.region false r192_4) (.cond (.g 25) (.seq (.region false r192_5) (.ret)) (.seq (.region false r192_6) (.cond (.g 29) (.seq (.region false r192_7) (.ret)) (.skip)))))) (.region true r192_8)))))
def l192_0 : C := .loop [] [] [] [] b192_0
def r192_9 : List Op := [
  ⟨some 40, false, .mov (.g 0), none⟩,
  ⟨some 41, false, .bin .neq (.l 0) (.c (.str [])), none⟩,
  ⟨some 39, true, .mov (.l 1), none⟩]
def r192_10 : List Op := [
  ⟨some 4, true, .mov (.c (.int .i64 1)), none⟩]
def r192_11 : List Op := [
  ⟨some 43, false, .mov (.g 1), none⟩,
  ⟨some 44, false, .bin .neq (.l 0) (.c (.str [])), none⟩,
  ⟨some 42, true, .mov (.l 1), none⟩]
def r192_12 : List Op := [
  ⟨some 4, true, .mov (.c (.int .i64 (-1))), none⟩]
def r192_13 : List Op := [
  ⟨some 4, true, .mov (.c (.int .i64 0)), none⟩]
def c192 : C := .seq (.region false r192_0) (.seq (.block 0 (l192_0)) (.seq (.block 3 (.seq (.region false r192_9) (.cond (.g 39) (.seq (.region false r192_10) (.ret)) (.seq (.region false r192_11) (.cond (.g 42) (.seq (.region false r192_12) (.ret)) (.skip)))))) (.seq (.region false r192_13) (.ret))))
def F192 : F := ⟨2, [0, 1, 4, 5, 6, 7, 8, 14, 25, 29, 39, 42], [.t 4], none, c192⟩
attribute [go_sem] r192_0 r192_1 r192_2 r192_3 r192_4 r192_5 r192_6 r192_7 r192_8 b192_0 r192_9 r192_10 r192_11 r192_12 r192_13 c192 F192
def r194_0 : List Op := [
  ⟨some 2, true, .box (.g 0), none⟩,
  ⟨some 3, true, .mov (.c (.bool false)), none⟩]
def r194_1 : List Op := [
  ⟨some 4, false, .fad (.g 2) 2, none⟩,
  ⟨some 5, false, .load (.v 2) none (.l 0), none⟩,
  ⟨some 6, false, .load (.c) none (.g 1), none⟩,
  ⟨some 7, false, .bin .eql (.l 1) (.l 2), none⟩,
  ⟨some 3, true, .mov (.l 3), none⟩]
def c194 : C := .seq (.region false r194_0) (.seq (.region false r194_1) (.ret))
def F194 : F := ⟨2, [0, 1, 2, 3], [.t 3], none, c194⟩
attribute [go_sem] r194_0 r194_1 c194 F194
def r195_0 : List Op := [
  ⟨some 2, true, .mov (.c (.slice 1 [])), none⟩]
def r195_1 : List Op := [
  ⟨some 3, true, .mko 1, none⟩]
def r195_2 : List Op := [
  ⟨some 6, false, .mov (.g 0), none⟩,
  ⟨some 7, false, .len true (.l 0), none⟩,
  ⟨some 8, true, .bin .gtr (.l 1) (.c (.int .i64 0)), none⟩]
def r195_3 : List Op := [
  ⟨some 10, false, .mov (.g 0), none⟩,
  ⟨some 11, false, .call (.k 188) .no none [.l 0], none⟩,
  ⟨some 9, false, .mov (.l 1), none⟩,
  ⟨some 12, false, .ext (.l 2) 0, none⟩,
  ⟨some 13, false, .ext (.l 2) 1, none⟩,
  ⟨some 4, true, .mov (.l 3), none⟩,
  ⟨some 5, true, .mov (.l 4), none⟩]
def r195_4 : List Op := [
  ⟨some 14, false, .mov (.g 4), none⟩,
  ⟨some 15, true, .bin .lss (.l 0) (.c (.int .i64 0)), none⟩]
def r195_5 : List Op := [
  ⟨some 4, true, .mov (.c (.int .i64 65533)), none⟩]
def r195_6 : List Op := [
  ⟨some 16, false, .mov (.g 3), none⟩,
  ⟨some 17, false, .mov (.g 4), none⟩,
  ⟨some 18, false, .mks 1 1 [.int .i64 0] [(0, .l 1)], none⟩,
  ⟨some 19, false, .app 3 1 (.l 0) (.l 2), none⟩,
  ⟨some 3, true, .mov (.l 3), none⟩]
def r195_7 : List Op := [
  ⟨some 20, false, .mov (.g 0), none⟩,
  ⟨some 21, false, .mov (.g 5), none⟩,
  ⟨some 22, false, .sl true 0 (.l 0) (some (.l 1)) none, none⟩,
  ⟨some 0, true, .mov (.l 2), none⟩]
def b195_0 : C := .seq (.seq (.region false r195_2) (.cond (.g 8) (.skip) (.exit 0))) (.block 1 (.seq (.region false r195_3) (.seq (.seq (.region false r195_4) (.cond (.g 15) (.region false r195_5) (.skip))) (.seq (.region false r195_6) (.region false r195_7)))))
def l195_0 : C := .loop [] [] [] [] b195_0
def r195_8 : List Op := [
  ⟨some 23, false, .mov (.g 3), none⟩,
  ⟨some 2, true, .mov (.l 0), none⟩]
def c195 : C := .seq (.region false r195_0) (.seq (.region false r195_1) (.seq (.block 0 (l195_0)) (.seq (.region false r195_8) (.ret))))
def F195 : F := ⟨1, [0, 2, 3, 4, 5, 8, 15], [.t 2], none, c195⟩
attribute [go_sem] r195_0 r195_1 r195_2 r195_3 r195_4 r195_5 r195_6 r195_7 b195_0 r195_8 c195 F195
end Sg
namespace Sg
open _root_.Go
set_option linter.unusedSimpArgs false
set_option linter.unusedVariables false
def cloneF (z : Nat) (zero : List V) : F where
  np := 1
  gl := [0, 2, 4]
  res := [.t 2]
  own := some 0
  body := .seq (.region false [⟨some 2, true, .mov (.c (.slice z [])), none⟩])
    (.seq (.seq (.region false [⟨some 3, false, .mov (.g 0), none⟩, ⟨some 4, true, .nilq (.l 0), none⟩])
      (.cond (.g 4) (.seq (.region false [⟨some 2, true, .mko z, none⟩]) .ret) .skip))
    (.seq (.region false [⟨some 5, false, .mkb z 0 zero [], none⟩, ⟨some 6, false, .mov (.g 0), none⟩, ⟨some 7, false, .app 5 z (.l 0) (.l 1), none⟩, ⟨some 2, true, .mov (.l 2), none⟩]) .ret))
def onePg (id : Nat) (F : F) : Nat → Option Fn := fun k => if k = id then some (.code F) else none
theorem outo {A v} : outV A (some 0) 0 v = match v with
    | .own s z n => match A s with
      | some (z', rows, .live) => if z' = z ∧ rows.length = n then some (.slice z rows) else none
      | _ => none
    | _ => none := by simp only [outV, if_true]; rfl
theorem clone_nil (id z : Nat) (zero : List V) : K' (onePg id (cloneF z zero)) id [.nslice z] = some (.slice z []) := by
  refine K'_code (F := cloneF z zero) (by simp [onePg]) rfl ?_
  simp [go_sem, cloneF, outo, mkA, V.rowsOf]
theorem clone_not (id z : Nat) (zero : List V) (rows : List (List V)) (h : rows.length ≤ lim) : K' (onePg id (cloneF z zero)) id [.xslice z rows] = some (.slice z rows) := by
  refine K'_code (F := cloneF z zero) (by simp [onePg]) rfl ?_
  simp [go_sem, cloneF, outo, mkA, V.rowsOf, h]
theorem clone_ctr {P : Program} {cx : Cx} {id z : Nat} {zero : List V} (hm : P.follows .mixedOrders = true) (hok : okF P cx (onePg id (cloneF z zero)) (cx.fm id) (cloneF z zero) = true) :
    ∀ args r, cloneQ z args = some r → Ctr P cx (some 0) id args r := by
  intro args r h
  unfold cloneQ at h
  split at h <;> try (simp at h; done)
  rename_i z1 rows
  split at h <;> simp only [Option.some.injEq, reduceCtorEq] at h
  rename_i hl
  obtain ⟨hl, rfl⟩ := hl
  subst h
  have own : ownOf (onePg id (cloneF z1 zero)) id = some 0 := by simp [ownOf, onePg, cloneF]
  have all : ∀ args r, K' (onePg id (cloneF z1 zero)) id args = some r → Ctr P cx (some 0) id args r := fun args r hk => by
    obtain ⟨n, hn⟩ := K'_iff.1 hk
    have := callN_sound (P := P) (cx := cx) (Pg := onePg id (cloneF z1 zero)) hm (fun f F hF => by
      unfold onePg at hF
      split at hF <;> simp only [Option.some.injEq, Fn.code.injEq, reduceCtorEq] at hF
      rename_i e; subst e; subst hF; exact hok) (fun f own p hp => by
      unfold onePg at hp
      split at hp <;> simp at hp) (fun f z p _ hp => by
      unfold onePg at hp
      split at hp <;> simp at hp) (fun f z p hp => by
      unfold onePg at hp
      split at hp <;> simp at hp) n id args r hn
    rwa [own] at this
  have c1 := all _ _ (clone_nil id z1 zero)
  have c2 := all _ _ (clone_not id z1 zero rows hl)
  refine ⟨c1.1, fun w X vs hX hgn hG hsz hrel => ?_⟩
  obtain ⟨u, hu, hr⟩ := hrel 0 (by simp)
  have one : ∀ x, RelD cx w X u x → ∀ i, i < [x].length → ∃ u, vs[i]? = some u ∧ RelD cx w X u (gv [x] i) := fun x hx i hi => by
    have : i = 0 := by simp at hi; exact hi
    subst this
    exact ⟨u, hu, hx⟩
  have hr0 : RelD cx w X u (.slice z1 rows) := hr
  have conc : (u = .slice none 0 0 ∧ rows = []) ∨ ∃ a n c, u = .slice (some a) n c := by
    rcases slice_inv hr0 with ⟨⟨a, rfl⟩, rfl⟩ | ⟨b, o, cap, c, e, fr, rfl, -⟩
    · cases a with
      | none => exact .inl ⟨rfl, rfl⟩
      | some a => exact .inr ⟨_, _, _, rfl⟩
    · exact .inr ⟨_, _, _, rfl⟩
  rcases conc with ⟨rfl, rfl⟩ | ⟨a, n, c, rfl⟩
  · exact c1.2 w X vs hX hgn hG (by simpa using hsz) (one _ (.nslice z1))
  · exact c2.2 w X vs hX hgn hG (by simpa using hsz) (one _ (.xslice a n c z1 rows hr0))
end Sg
namespace Sg
open _root_.Go _root_.Go.RowKit _root_.Go.Proofs
set_option linter.unusedSimpArgs false
set_option linter.unusedVariables false
def dN (l : List UInt8) : Nat × Nat := Lib.decodeN l.length (l.getD 0 0).toNat (l.getD 1 0).toNat (l.getD 2 0).toNat (l.getD 3 0).toNat
def decL (l : List UInt8) : Nat × Nat := if l = [] then (65533, 0) else dN l
theorem get!_list (s : ByteArray) (i : Nat) : s.get! i = s.data.toList.getD i 0 := by
  show s.data[i]! = _
  by_cases h : i < s.data.size
  · rw [getElem!_pos s.data i h, List.getD_eq_getElem?_getD, Array.getElem?_toList, Array.getElem?_eq_getElem h]
    rfl
  · rw [getElem!_neg s.data i h, List.getD_eq_getElem?_getD, List.getElem?_eq_none (by simpa using h)]
    rfl
theorem decode_drop (s : ByteArray) (i : Nat) : Utf8.decode s i = dN (s.data.toList.drop i) := by
  rw [Lib.decode_at]
  have hs : s.size - i = (s.data.toList.drop i).length := by
    rw [List.length_drop, Array.length_toList]; rfl
  have e : ∀ k, s.get! (i + k) = (s.data.toList.drop i).getD k 0 := fun k => by
    rw [get!_list, List.getD_eq_getElem?_getD, List.getD_eq_getElem?_getD, List.getElem?_drop]
  simp only [dN, hs, ← e, Nat.add_zero]
theorem decodeGo_list (s : ByteArray) : Lib.decodeGo s = decL s.data.toList := by
  have hs : s.size = s.data.toList.length := by rw [Array.length_toList]; rfl
  unfold Lib.decodeGo decL
  by_cases h : s.data.toList = []
  · rw [if_pos h, if_pos (by rw [hs, h]; rfl)]
  · rw [if_neg h, if_neg (by rw [hs]; intro e; exact h (List.eq_nil_of_length_eq_zero e)), decode_drop]
    simp
theorem width_pos (s : ByteArray) (pos : Nat) : 1 ≤ (Utf8.decode s pos).2 := by
  rw [Lib.decode_at]
  unfold Lib.decodeN
  repeat' split
  all_goals simp
theorem extract_list (s : ByteArray) (pos n : Nat) (hn : n = s.size) : (s.extract pos n).data.toList = s.data.toList.drop pos := by
  have hs : s.size = s.data.toList.length := by rw [Array.length_toList]; rfl
  rw [ByteArray.data_extract, Array.toList_extract, List.extract_eq_take_drop, List.take_of_length_le]
  rw [List.length_drop]; omega
theorem decode_extract (s : ByteArray) (pos n : Nat) (hn : n = s.size) (hp : pos < s.size) : Lib.decodeGo (s.extract pos n) = Utf8.decode s pos := by
  have hs : s.size = s.data.toList.length := by rw [Array.length_toList]; rfl
  rw [decodeGo_list, extract_list s pos n hn, decode_drop, decL, if_neg]
  intro e
  have := congrArg List.length e
  rw [List.length_drop] at this
  simp only [List.length_nil] at this
  omega
theorem drop_ne (s : ByteArray) (pos : Nat) (hp : pos < s.size) : s.data.toList.drop pos ≠ [] := fun e => by
  have hs : s.size = s.data.toList.length := by rw [Array.length_toList]; rfl
  have := congrArg List.length e
  rw [List.length_drop] at this
  simp only [List.length_nil] at this
  omega
theorem size_list (s : ByteArray) : s.data.toList.length = s.size := by rw [Array.length_toList]; rfl
def decQ : List V → Option V
  | [.str s] => some (.tuple [.int .i32 (decL s).1, .int .i64 (decL s).2])
  | _ => none
section
variable {P : Program} {cx : Cx}
theorem str_inv {w : World} {X : Nat → Prop} {u : Value} {l : List UInt8} (h : RelD cx w X u (.str l)) : ∃ s : ByteArray, u = .string s ∧ s.data.toList = l := by
  cases h; exact ⟨_, rfl, rfl⟩
theorem args1 {vs : Array Value} (h : vs.size = 1) {u : Value} (h0 : vs[0]? = some u) : vs = #[u] := by
  apply Array.ext_getElem?
  intro i
  rcases Nat.lt_or_ge i 1 with hi | hi
  · have : i = 0 := by omega
    subst this; simpa using h0
  · rw [Array.getElem?_eq_none (by omega), Array.getElem?_eq_none (by simpa using hi)]
theorem tuple2 {w : World} {X : Nat → Prop} {a b : Value} {x y : V} (h1 : RelD cx w X a x) (h2 : RelD cx w X b y) : RelD cx w X (.tuple #[a, b]) (.tuple [x, y]) :=
  .tuple _ _ (fun i => if i = 0 then a else b) rfl (fun i hi => by
    match i, hi with
    | 0, _ => rfl
    | 1, _ => rfl
    | n + 2, hi => exact absurd hi (by simp)) (fun i hi => by
    match i, hi with
    | 0, _ => simpa [gv] using h1
    | 1, _ => simpa [gv] using h2
    | n + 2, hi => exact absurd hi (by simp))
theorem dec_ctr {id : Nat} (hE : Ent P (cx.fm id)) (hC : ∀ (s : ByteArray) (w : World), cx.G w → Calls P (cx.fm id) #[.string s] w fun e w' => e = .returned (.tuple #[.int .i32 (Lib.decodeGo s).1, .int .i64 (Lib.decodeGo s).2]) ∧ Below w.heap.size w w') :
    ∀ args r, decQ args = some r → Ctr P cx none id args r := by
  intro args r h
  unfold decQ at h
  split at h <;> simp only [Option.some.injEq, reduceCtorEq] at h
  rename_i l
  subst h
  refine ⟨hE, fun w X vs hX hgn hG hsz hrel => ?_⟩
  obtain ⟨u, hu, hr⟩ := hrel 0 (by simp)
  obtain ⟨s, rfl, rfl⟩ := str_inv (l := l) hr
  rw [args1 (by simpa using hsz) hu]
  refine (hC s w hG).mono fun e w' ⟨he, hb⟩ => ?_
  subst he
  rw [decodeGo_list]
  exact ⟨_, rfl, hb, tuple2 (.int _ _) (.int _ _)⟩
def plainR (r n : Int) : Bool := decide (33 ≤ r) && (decide (r < 127) || decide (159 < r)) && (!decide (r = 65533) || decide (n = 3))
def keyAll : Nat → List UInt8 → Bool
  | 0, _ => true
  | f + 1, l => if l = [] then true else plainR (dN l).1 (dN l).2 && keyAll f (l.drop (dN l).2)
def keyR (l : List UInt8) : Bool := keyAll l.length l && (decide (1 ≤ l.length) && decide (l.length ≤ 16))
def keyQ : List V → Option V
  | [.str s] => some (.bool (keyR s))
  | _ => none
theorem key_ctr {id : Nat} (hE : Ent P (cx.fm id)) (hC : ∀ (s : ByteArray) (w : World), cx.gn ≤ w.heap.size → cx.G w → Calls P (cx.fm id) #[.string s] w fun e w' => e = .returned (.bool (keyR s.data.toList)) ∧ Below w.heap.size w w') :
    ∀ args r, keyQ args = some r → Ctr P cx none id args r := by
  intro args r h
  unfold keyQ at h
  split at h <;> simp only [Option.some.injEq, reduceCtorEq] at h
  rename_i l
  subst h
  refine ⟨hE, fun w X vs hX hgn hG hsz hrel => ?_⟩
  obtain ⟨u, hu, hr⟩ := hrel 0 (by simp)
  obtain ⟨s, rfl, rfl⟩ := str_inv (l := l) hr
  rw [args1 (by simpa using hsz) hu]
  refine (hC s w hgn hG).mono fun e w' ⟨he, hb⟩ => ?_
  subst he
  exact ⟨_, rfl, hb, .bool _⟩
end
end Sg
namespace Sg
open _root_.Go _root_.Go.RowKit _root_.Go.Proofs _root_.Go.Shelf
set_option linter.unusedSimpArgs false
set_option linter.unusedVariables false
def renU : Shelf.Ren := ⟨fun | 197 => 53 | 260 => 61 | n => n, fun | 0 => 0 | 3 => 3 | 4 => 4 | 5 => 5 | 9 => 9 | 21 => 21 | 46 => 51 | 105 => 77 | 119 => 84 | 138 => 86 | 139 => 87 | n => n, fun | 3 => 0 | 4 => 1 | n => n⟩
set_option maxRecDepth 1000000 in
theorem lays197 : Lays.n197 Tryd.prog renU where
  mixed := by kernel_rfl
  f197 := Tryd.func53.trans (congrArg some (by kernel_rfl))
  f260 := Tryd.func61.trans (congrArg some (by kernel_rfl))
  t0 := Tryd.underlying0
  a0 := Tryd.isAgg0
  z0 := Tryd.sizeOf0
  v0 := Tryd.zeroValue0
  t3 := Tryd.underlying3
  a3 := Tryd.isAgg3
  z3 := Tryd.sizeOf3
  v3 := Tryd.zeroValue3
  t4 := Tryd.underlying4
  a4 := Tryd.isAgg4
  z4 := Tryd.sizeOf4
  v4 := Tryd.zeroValue4
  t5 := Tryd.underlying5
  a5 := Tryd.isAgg5
  z5 := Tryd.sizeOf5
  v5 := Tryd.zeroValue5
  t9 := Tryd.underlying9
  a9 := Tryd.isAgg9
  z9 := Tryd.sizeOf9
  v9 := Tryd.zeroValue9
  t21 := Tryd.underlying21
  a21 := Tryd.isAgg21
  z21 := Tryd.sizeOf21
  v21 := Tryd.zeroValue21
  t46 := Tryd.underlying51
  a46 := Tryd.isAgg51
  z46 := Tryd.sizeOf51
  v46 := Tryd.zeroValue51
  t105 := Tryd.underlying77
  a105 := Tryd.isAgg77
  z105 := Tryd.sizeOf77
  v105 := Tryd.zeroValue77
  t119 := Tryd.underlying84
  a119 := Tryd.isAgg84
  z119 := Tryd.sizeOf84
  t138 := Tryd.underlying86
  a138 := Tryd.isAgg86
  z138 := Tryd.sizeOf86
  v138 := Tryd.zeroValue86
  t139 := Tryd.underlying87
  a139 := Tryd.isAgg87
  z139 := Tryd.sizeOf87
  v139 := Tryd.zeroValue87
  g3 := by kernel_rfl
  g4 := by kernel_rfl
theorem dec_walk (s : ByteArray) (w : World) (hT : Lib.Utf8Tabs 0 1 w) :
    Calls Tryd.prog 53 #[.string s] w fun e w' => e = .returned (.tuple #[.int .i32 (Lib.decodeGo s).1, .int .i64 (Lib.decodeGo s).2]) ∧ Below w.heap.size w w' :=
  Any.utf8_DecodeRuneInString lays197 s w hT
theorem tabs_st (w w' : World) (h : Lib.Utf8Tabs 0 1 w) (hb : ∀ b, b < 2 → w'.heap[b]? = w.heap[b]?) : Lib.Utf8Tabs 0 1 w' := by
  have e : ∀ b o, b < 2 → w'.cell? ⟨b, o, none⟩ = w.cell? ⟨b, o, none⟩ := fun b o hlt => by
    simp only [World.cell?, hb b hlt]
  exact ⟨fun c hc => by rw [e _ _ (by decide)]; exact h.1 c hc, fun i hi => by rw [e _ _ (by decide), e _ _ (by decide)]; exact h.2 i hi⟩
def cxU (l : List (Nat × Nat)) : Cx where
  fm := fun n => (look l n).getD 0
  tm := fun n => n
  gn := 2
  G := Lib.Utf8Tabs 0 1
  Gst := tabs_st
set_option maxHeartbeats 4000000 in
set_option maxRecDepth 1000000 in
theorem key_walk (s : ByteArray) (w : World) (hgn : 2 ≤ w.heap.size) (hT : Lib.Utf8Tabs 0 1 w)
    (hplain : ∀ (r n : Int) (w : World), 2 ≤ w.heap.size → Lib.Utf8Tabs 0 1 w → Calls Tryd.prog 54 #[.int .i32 r, .int .i64 n] w fun e w' => e = .returned (.bool (plainR r n)) ∧ Below w.heap.size w w') :
    Calls Tryd.prog 33 #[.string s] w fun e w' => e = .returned (.bool (keyR s.data.toList)) ∧ Below w.heap.size w w' := by
  have t0 := Tryd.underlying0; have t3 := Tryd.underlying3; have t4 := Tryd.underlying4; have t9 := Tryd.underlying9; have t21 := Tryd.underlying21
  have hu0 := run_underlying t0; have hu3 := run_underlying t3; have hu4 := run_underlying t4; have hu9 := run_underlying t9; have hu21 := run_underlying t21
  have mixed : Tryd.prog.follows .mixedOrders = true := by kernel_rfl
  have a0 := Tryd.isAgg0; have z0 := Tryd.sizeOf0; have v0 := Tryd.zeroValue0
  have a3 := Tryd.isAgg3; have z3 := Tryd.sizeOf3; have v3 := Tryd.zeroValue3
  have a4 := Tryd.isAgg4; have z4 := Tryd.sizeOf4; have v4 := Tryd.zeroValue4
  have a9 := Tryd.isAgg9; have z9 := Tryd.sizeOf9; have v9 := Tryd.zeroValue9
  have a21 := Tryd.isAgg21; have z21 := Tryd.sizeOf21; have v21 := Tryd.zeroValue21
  go_enter Tryd.func33, Tryd.ntmps33
  go_wp2
  go_loopw [3] (fun _ wr => ∃ (pos fuel : Nat), wr.heap[w.heap.size]? = some (.stringIter s pos) ∧ Below w.heap.size w wr ∧ keyAll fuel (s.data.toList.drop pos) = keyAll s.size s.data.toList ∧ s.size ≤ pos + fuel) (fun _ wr => s.size - wr.iterPos w.heap.size)
  case atStart =>
    refine ⟨0, s.size, ?_, (Below.refl _ w).alloc (Nat.le_refl _) _, by simp, by omega⟩
    have := World.iter_heap w s 0
    simpa using this
  case round =>
    obtain ⟨pos, fuel, hit, hbw, hacc, hfu⟩ := hrel
    have hsz : w.heap.size < wr.heap.size := (Array.getElem?_eq_some_iff.1 hit).1
    have hbT : ∀ W : World, Below w.heap.size w W → Lib.Utf8Tabs 0 1 W := fun W h => tabs_st w W hT fun b hb => h.block b (by omega)
    by_cases hp : pos < s.size
    · have hnx : ∀ ty, (Instr.next (.pointer (some ⟨w.heap.size, 0, none⟩)) true ty).run Tryd.prog wr = _ := fun ty => Lib.run_next_any_at wr w.heap.size s pos ty hit hp
      have hbw2 := Lib.below_iterAt hbw (k := w.heap.size) (by omega) s (pos + (Utf8.decode s pos).2)
      have hit2 := Lib.iterAt_heap wr w.heap.size s pos (pos + (Utf8.decode s pos).2) hit
      have hsz2 : w.heap.size + 1 ≤ (wr.iterAt w.heap.size s (pos + (Utf8.decode s pos).2)).heap.size := by rw [Lib.iterAt_size]; omega
      have hde : ∀ n, n = s.size → Lib.decodeGo (s.extract pos n) = Utf8.decode s pos := fun n hn => decode_extract s pos n hn hp
      have hw1 := width_pos s pos
      obtain ⟨f, rfl⟩ : ∃ f, fuel = f + 1 := ⟨fuel - 1, by omega⟩
      have hnil : s.data.toList.drop pos ≠ [] := fun e => by
        exact drop_ne s pos hp e
      have hdN := decode_drop s pos
      simp only [keyAll, hnil, if_false, ← hdN] at hacc
      generalize Utf8.decode s pos = D at *
      clear hdN hnil
      obtain ⟨D1, D2⟩ := D
      simp only at hw1 hacc hbw2 hit2 hsz2 hde hnx
      have hsl := size_list s
      have hfin : ∀ W : World, plainR D1 D2 = false → keyR s.data.toList = false := fun W hpl => by
        rw [hpl, Bool.false_and] at hacc
        rw [keyR, hsl, ← hacc, Bool.false_and]
      clear hsl
      go_wp2_with (go_at_call 53; refine (dec_walk _ _ (hbT _ hbw2)).mono ?_; rintro e W1 ⟨rfl, b1⟩)
      have hb3 := hbw2.trans (b1.mono (by omega))
      have hs3 : W1.heap.size ≥ w.heap.size + 1 := Nat.le_trans hsz2 b1.size
      have hit3 : W1.heap[w.heap.size]? = some (.stringIter s (pos + D2)) := (b1.block _ (by omega)).trans hit2
      have hpl := hplain D1 D2 W1 (by omega) (hbT _ hb3)
      cases hP : plainR D1 D2 with
      | false =>
        rw [hP] at hpl
        have hke := hfin w hP
        clear hacc hfin
        go_wp2_with (go_at_call 54; refine hpl.mono ?_; rintro e W2 ⟨rfl, b2⟩)
        have hb4 := hb3.trans (b2.mono (by omega))
        go_wp2
        go_ret
        rw [hke]
        exact ⟨rfl, hb4⟩
      | true =>
        rw [hP, Bool.true_and, List.drop_drop] at hacc
        rw [hP] at hpl
        clear hfin
        obtain ⟨kk, hkk⟩ : ∃ kk, kk = keyAll s.size s.data.toList := ⟨_, rfl⟩
        go_wp2_with (go_at_call 54; refine hpl.mono ?_; rintro e W2 ⟨rfl, b2⟩)
        have hb4 := hb3.trans (b2.mono (by omega))
        have hit4 : W2.heap[w.heap.size]? = some (.stringIter s (pos + D2)) := (b2.block _ (by omega)).trans hit3
        go_wp2
        go_roundw
        case rel => exact ⟨pos + D2, f, hit4, hb4, hacc, by omega⟩
        case measure =>
          simp only [World.iterPos, hit4, hit]
          omega
    · have hnx : ∀ ty, (Instr.next (.pointer (some ⟨w.heap.size, 0, none⟩)) true ty).run Tryd.prog wr = _ := fun ty => Lib.run_next_end_at wr w.heap.size s pos ty hit hp
      have hall : keyAll s.size s.data.toList = true := by
        rw [← hacc, List.drop_eq_nil_of_le (by rw [size_list]; omega)]
        cases fuel <;> simp [keyAll]
      have hkey : keyR s.data.toList = (decide ((1 : Int) ≤ s.size) && decide ((s.size : Int) ≤ 16)) := by
        rw [keyR, size_list, hall, Bool.true_and]
        congr 1 <;> exact decide_eq_decide.2 (by omega)
      clear hacc hall
      by_cases h1 : (1 : Int) ≤ s.size
      · rw [decide_eq_true h1, Bool.true_and] at hkey
        go_wp2
        go_ret
        exact ⟨by first | rfl | (rw [hkey]; rfl), hbw⟩
      · rw [decide_eq_false h1, Bool.false_and] at hkey
        go_wp2
        go_ret
        exact ⟨by first | rfl | (rw [hkey]; rfl), hbw⟩
end Sg
namespace Sg
open Go.Proofs
open _root_.Go
def noQ : List V → Option V := fun _ => none
def atlasFm : List (Nat × Nat) := [(158, 6), (143, 10), (159, 23), (156, 21), (157, 22), (160, 24), (153, 18), (154, 20), (144, 11), (177, 40), (163, 26), (162, 25), (175, 38), (178, 41), (147, 13), (173, 36), (151, 17), (182, 45), (183, 46), (184, 47), (141, 8), (171, 34), (194, 57), (185, 48), (186, 49), (174, 37), (167, 30), (168, 31), (164, 28), (165, 27), (166, 29), (191, 54), (192, 55), (187, 50), (188, 51), (189, 52), (195, 60), (179, 43), (180, 42), (181, 44), (170, 33), (190, 53)]
def atlasTab : List (Nat × Fn) := [(158, .code F158), (143, .code F143), (159, .code F159), (156, .code F156), (157, .code F157), (160, .code F160), (153, .code F153), (154, .code F154), (144, .code F144), (177, .code F177), (163, .code F163), (162, .code F162), (175, .code F175), (178, .code F178), (147, .code F147), (173, .code F173), (151, .code F151), (182, .code F182), (183, .code F183), (184, .code F184), (141, .code F141), (171, .code F171), (194, .code F194), (185, .code F185), (186, .code F186), (174, .code F174), (167, .code F167), (168, .code F168), (164, .code F164), (165, .code F165), (166, .code F166), (191, .code F191), (192, .code F192), (187, .code F187), (188, .code F188), (189, .code F189), (195, .code F195), (179, .prim (some 0) (cloneQ 5)), (180, .prim (some 1005) noQ), (181, .prim (some 2005) noQ), (170, .prim none keyQ), (190, .prim none decQ)]
set_option maxRecDepth 100000
theorem okc {P : Go.Program} {cx : Cx} {tab : List (Nat × Fn)} {k : Nat} {F : F} {l : List (Nat × Fn)} (h : okF P cx (look tab) (cx.fm k) F = true) (t : okTab P cx tab l = true) : okTab P cx tab ((k, .code F) :: l) = true := by simp [okTab, h, t]
theorem okp {P : Go.Program} {cx : Cx} {tab : List (Nat × Fn)} {k : Nat} {o : Option Nat} {p} {l : List (Nat × Fn)} (t : okTab P cx tab l = true) : okTab P cx tab ((k, .prim o p) :: l) = true := t
theorem ok158 : okF Tryd.prog (cxU atlasFm) (look atlasTab) ((cxU atlasFm).fm 158) F158 = true := by kernel_rfl
theorem ok143 : okF Tryd.prog (cxU atlasFm) (look atlasTab) ((cxU atlasFm).fm 143) F143 = true := by kernel_rfl
theorem ok159 : okF Tryd.prog (cxU atlasFm) (look atlasTab) ((cxU atlasFm).fm 159) F159 = true := by kernel_rfl
theorem ok156 : okF Tryd.prog (cxU atlasFm) (look atlasTab) ((cxU atlasFm).fm 156) F156 = true := by kernel_rfl
theorem ok157 : okF Tryd.prog (cxU atlasFm) (look atlasTab) ((cxU atlasFm).fm 157) F157 = true := by kernel_rfl
theorem ok160 : okF Tryd.prog (cxU atlasFm) (look atlasTab) ((cxU atlasFm).fm 160) F160 = true := by kernel_rfl
theorem ok153 : okF Tryd.prog (cxU atlasFm) (look atlasTab) ((cxU atlasFm).fm 153) F153 = true := by kernel_rfl
theorem ok154 : okF Tryd.prog (cxU atlasFm) (look atlasTab) ((cxU atlasFm).fm 154) F154 = true := by kernel_rfl
theorem ok144 : okF Tryd.prog (cxU atlasFm) (look atlasTab) ((cxU atlasFm).fm 144) F144 = true := by kernel_rfl
theorem ok177 : okF Tryd.prog (cxU atlasFm) (look atlasTab) ((cxU atlasFm).fm 177) F177 = true := by kernel_rfl
theorem ok163 : okF Tryd.prog (cxU atlasFm) (look atlasTab) ((cxU atlasFm).fm 163) F163 = true := by kernel_rfl
theorem ok162 : okF Tryd.prog (cxU atlasFm) (look atlasTab) ((cxU atlasFm).fm 162) F162 = true := by kernel_rfl
theorem ok175 : okF Tryd.prog (cxU atlasFm) (look atlasTab) ((cxU atlasFm).fm 175) F175 = true := by kernel_rfl
theorem ok178 : okF Tryd.prog (cxU atlasFm) (look atlasTab) ((cxU atlasFm).fm 178) F178 = true := by kernel_rfl
theorem ok147 : okF Tryd.prog (cxU atlasFm) (look atlasTab) ((cxU atlasFm).fm 147) F147 = true := by kernel_rfl
theorem ok173 : okF Tryd.prog (cxU atlasFm) (look atlasTab) ((cxU atlasFm).fm 173) F173 = true := by kernel_rfl
theorem ok151 : okF Tryd.prog (cxU atlasFm) (look atlasTab) ((cxU atlasFm).fm 151) F151 = true := by kernel_rfl
theorem ok182 : okF Tryd.prog (cxU atlasFm) (look atlasTab) ((cxU atlasFm).fm 182) F182 = true := by kernel_rfl
theorem ok183 : okF Tryd.prog (cxU atlasFm) (look atlasTab) ((cxU atlasFm).fm 183) F183 = true := by kernel_rfl
theorem ok184 : okF Tryd.prog (cxU atlasFm) (look atlasTab) ((cxU atlasFm).fm 184) F184 = true := by kernel_rfl
theorem ok141 : okF Tryd.prog (cxU atlasFm) (look atlasTab) ((cxU atlasFm).fm 141) F141 = true := by kernel_rfl
theorem ok171 : okF Tryd.prog (cxU atlasFm) (look atlasTab) ((cxU atlasFm).fm 171) F171 = true := by kernel_rfl
theorem ok194 : okF Tryd.prog (cxU atlasFm) (look atlasTab) ((cxU atlasFm).fm 194) F194 = true := by kernel_rfl
theorem ok185 : okF Tryd.prog (cxU atlasFm) (look atlasTab) ((cxU atlasFm).fm 185) F185 = true := by kernel_rfl
theorem ok186 : okF Tryd.prog (cxU atlasFm) (look atlasTab) ((cxU atlasFm).fm 186) F186 = true := by kernel_rfl
theorem ok174 : okF Tryd.prog (cxU atlasFm) (look atlasTab) ((cxU atlasFm).fm 174) F174 = true := by kernel_rfl
theorem ok167 : okF Tryd.prog (cxU atlasFm) (look atlasTab) ((cxU atlasFm).fm 167) F167 = true := by kernel_rfl
theorem ok168 : okF Tryd.prog (cxU atlasFm) (look atlasTab) ((cxU atlasFm).fm 168) F168 = true := by kernel_rfl
theorem ok164 : okF Tryd.prog (cxU atlasFm) (look atlasTab) ((cxU atlasFm).fm 164) F164 = true := by kernel_rfl
theorem ok165 : okF Tryd.prog (cxU atlasFm) (look atlasTab) ((cxU atlasFm).fm 165) F165 = true := by kernel_rfl
theorem ok166 : okF Tryd.prog (cxU atlasFm) (look atlasTab) ((cxU atlasFm).fm 166) F166 = true := by kernel_rfl
theorem ok191 : okF Tryd.prog (cxU atlasFm) (look atlasTab) ((cxU atlasFm).fm 191) F191 = true := by kernel_rfl
theorem ok192 : okF Tryd.prog (cxU atlasFm) (look atlasTab) ((cxU atlasFm).fm 192) F192 = true := by kernel_rfl
theorem ok187 : okF Tryd.prog (cxU atlasFm) (look atlasTab) ((cxU atlasFm).fm 187) F187 = true := by kernel_rfl
theorem ok188 : okF Tryd.prog (cxU atlasFm) (look atlasTab) ((cxU atlasFm).fm 188) F188 = true := by kernel_rfl
theorem ok189 : okF Tryd.prog (cxU atlasFm) (look atlasTab) ((cxU atlasFm).fm 189) F189 = true := by kernel_rfl
theorem ok195 : okF Tryd.prog (cxU atlasFm) (look atlasTab) ((cxU atlasFm).fm 195) F195 = true := by kernel_rfl
theorem okAll : okTab Tryd.prog (cxU atlasFm) atlasTab atlasTab = true := okc ok158 (okc ok143 (okc ok159 (okc ok156 (okc ok157 (okc ok160 (okc ok153 (okc ok154 (okc ok144 (okc ok177 (okc ok163 (okc ok162 (okc ok175 (okc ok178 (okc ok147 (okc ok173 (okc ok151 (okc ok182 (okc ok183 (okc ok184 (okc ok141 (okc ok171 (okc ok194 (okc ok185 (okc ok186 (okc ok174 (okc ok167 (okc ok168 (okc ok164 (okc ok165 (okc ok166 (okc ok191 (okc ok192 (okc ok187 (okc ok188 (okc ok189 (okc ok195 (okp (okp (okp (okp (okp (rfl))))))))))))))))))))))))))))))))))))))))))
theorem okClone179 : okF Tryd.prog (cxU atlasFm) (onePg 179 (cloneF 5 [.str [], .str [], .int .i64 0, .int .i64 0, .int .i64 0])) 43 (cloneF 5 [.str [], .str [], .int .i64 0, .int .i64 0, .int .i64 0]) = true := by kernel_rfl
#print axioms okAll
end Sg
namespace Sg
open Go Go.RowKit Go.Lib Go.Proofs
set_option linter.unusedVariables false
set_option linter.unusedSimpArgs false
set_option maxHeartbeats 4000000 in
set_option maxRecDepth 100000 in
theorem ins42_shift (b off n c i vb voff m vc : Nat) (cs vs : List Value) (w : World) (hi : i < n) (hm : 0 < m) (hroom : n + m ≤ c) (hlim : n + m ≤ 1073741824) (hvb : vb ≠ b)
    (hcl : cs.length = n * 5) (hvl : vs.length = m * 5)
    (hcs : ∀ j v, cs[j]? = some v → w.cell? ⟨b, off + j, none⟩ = some v) (hsp : ∀ j, j < (n + m) * 5 → (w.cell? ⟨b, off + j, none⟩).isSome = true) (hfz : ∀ j, w.frozen? ⟨b, j, none⟩ = false)
    (hvs : ∀ j v, vs[j]? = some v → w.cell? ⟨vb, voff + j, none⟩ = some v) (h1c : ∀ v ∈ cs, v.oneCell' = true) (h1v : ∀ v ∈ vs, v.oneCell' = true)
    (tA tB : TypeId) (kA kB : Nat) (hsa : w.shape? vb = some (tA, kA)) (hsb : w.shape? b = some (tB, kB)) (hkA : kA ≠ 0) :
    Calls Tryd.prog 42 #[.slice (some ⟨b, off, none⟩) n c, .int .i64 i, .slice (some ⟨vb, voff, none⟩) m vc] w fun e w' =>
      e = .returned (.slice (some ⟨b, off, none⟩) (n + m) c) ∧ w' = (w.drew.setCells b (off + (i + m) * 5) (cs.drop (i * 5))).setCells b (off + i * 5) vs := by
  have t0 := Tryd.underlying0; have t3 := Tryd.underlying3; have t4 := Tryd.underlying4; have t9 := Tryd.underlying29; have t24 := Tryd.underlying22
  have a0 := Tryd.isAgg0; have a3 := Tryd.isAgg3; have a4 := Tryd.isAgg4; have a9 := Tryd.isAgg29; have a24 := Tryd.isAgg22
  have z0 := Tryd.sizeOf0; have z3 := Tryd.sizeOf3; have z4 := Tryd.sizeOf4; have z9 := Tryd.sizeOf29; have z24 := Tryd.sizeOf22
  have v0 := Tryd.zeroValue0; have v3 := Tryd.zeroValue3; have v4 := Tryd.zeroValue4; have v24 := Tryd.zeroValue22
  have u0 := run_underlying t0; have u3 := run_underlying t3; have u4 := run_underlying t4; have u24 := run_underlying t24
  have hz1 : ¬ ((m : Int) = 0) := by omega
  have hz2 : ¬ ((i : Int) = (n : Int)) := by omega
  have hsz : (Tryd.prog.info? 29).map (·.size) = some 5 := by kernel_rfl
  have hov : ∀ lb cb, (callFunc 58 #[.slice (some ⟨vb, voff, none⟩) m vc, .slice (some ⟨b, off + (i + m) * 5, none⟩) lb cb]).run Tryd.prog w = .ok (.value (.bool false)) w := fun lb cb => by
    rw [run_callFunc_extern Tryd.func58 (by kernel_rfl) (by kernel_rfl) (by kernel_rfl) (e := Extern.SlicesOverlaps.overlaps #[22, 22] #[4]) (by kernel_rfl),
      run_overlaps_k w 22 4 29 t24 5 z9 ⟨vb, voff, none⟩ ⟨b, off + (i + m) * 5, none⟩ m vc lb cb hvb tA tB kA kB hsa hsb hkA (hfz _) (hfz _)]
    rfl
  have hdl : (cs.drop (i * 5)).length = (n - i) * 5 := by rw [List.length_drop, hcl]; omega
  have mixed : Tryd.prog.follows .mixedOrders = true := by kernel_rfl
  have hw1 : IntKind.i64.wrap ((i : Int) + (m : Int)) = (i : Int) + (m : Int) := by rw [IntKind.wrap_i64]; omega
  have hb1 : (0 : Int) ≤ (i : Int) + (m : Int) := by omega
  have hin : i ≤ n := by omega
  have htn : ((i : Int) + (m : Int)).toNat = i + m := by omega
  have hb2 : ¬ (c = i + m) := by omega
  have hb3 : (i : Int) ≤ (n : Int) + (m : Int) := by omega
  have hb4 : ¬ (c = i) := by omega
  have hcp1 : ∀ ty dc sc, (Builtin.copy_ #[22, 22] ty #[.slice (some ⟨b, off + (i + m) * 5, none⟩) (n + m - (i + m)) dc, .slice (some ⟨b, off + i * 5, none⟩) (n + m - i) sc]).run Tryd.prog w.drew = .ok (goInt (n - i : Nat)) (w.drew.setCells b (off + (i + m) * 5) (cs.drop (i * 5))) := fun ty dc sc =>
    run_copy_k 5 w.drew _ _ ty 29 b (off + (i + m) * 5) (n + m - (i + m)) dc ⟨b, off + i * 5, none⟩ (n + m - i) sc (cs.drop (i * 5)) (n - i) t24 hsz (by simp only [Nat.min_def]; split <;> omega) (by rw [hdl])
      (fun j v hj => by rw [Addr.add_lit, Nat.add_assoc]; exact hcs (i * 5 + j) v (by rwa [List.getElem?_drop] at hj))
      (fun j hj => by rw [Nat.add_assoc]; exact hsp _ (by omega)) (fun j hj => hfz _) (fun v hv => h1c v (List.mem_of_mem_drop hv))
  obtain ⟨W1, hW1⟩ : ∃ W1, W1 = w.drew.setCells b (off + (i + m) * 5) (cs.drop (i * 5)) := ⟨_, rfl⟩
  have hsp1 : ∀ k, k < (n + m) * 5 → (W1.cell? ⟨b, off + k, none⟩).isSome = true := fun k hk => by
    rw [hW1]
    exact isSome_setK b _ _ _ (fun j hj => by rw [Nat.add_assoc]; exact hsp _ (by omega)) _ (hsp k hk)
  have hcp2 : ∀ (W : World), (∀ x, W.cell? x = W1.cell? x) → (∀ x, W.frozen? x = W1.frozen? x) → ∀ ty dc, (Builtin.copy_ #[22, 22] ty #[.slice (some ⟨b, off + i * 5, none⟩) (n + m - i) dc, .slice (some ⟨vb, voff, none⟩) m vc]).run Tryd.prog W = .ok (goInt (m : Nat)) (W.setCells b (off + i * 5) vs) := fun W hWc hWf ty dc =>
    run_copy_k 5 W _ _ ty 29 b (off + i * 5) (n + m - i) dc ⟨vb, voff, none⟩ m vc vs m t24 hsz (by simp only [Nat.min_def]; split <;> omega) hvl
      (fun j v hj => by
        rw [Addr.add_lit, hWc, hW1, World.cell?_setCells_out b _ _ _ _ (fun h _ => absurd h hvb)]
        exact hvs j v hj)
      (fun j hj => by rw [hWc, Nat.add_assoc]; exact hsp1 _ (by omega)) (fun j hj => by rw [hWf, hW1, World.frozen?_setCells]; exact hfz _) h1v
  rw [← hW1] at hcp1
  go_enter Tryd.func42, Tryd.ntmps42
  go_wp2_with (simp only [hov])
  go_region_law_o (refine step_copy_k rfl _ _ 22 22 rfl _ _ (by simp [Act.eval, Act.put]) (by simp [Act.eval, Act.put]) (hcp1 _ _ _) ?_)
  go_wp2_with (at_builtin; refine wpList_copy_k _ rfl _ _ 22 22 rfl _ _ rfl rfl (hcp2 _ (fun _ => rfl) (fun _ => rfl) _ _) ?_)
  go_ret
  first | exact ⟨rfl, rfl⟩ | exact ⟨rfl, by rw [hW1]⟩
set_option maxHeartbeats 4000000 in
set_option maxRecDepth 100000 in
theorem ins42_end (base : Option Addr) (n c m vc : Nat) (vb : Option Addr) (w w' : World) (q : Value) (hm : 0 < m) (hnc : n ≤ c) (hlim : n + m ≤ 1073741824) (hnil : base = none → n = 0)
    (hrun : (Builtin.append_ #[22, 22] 22 #[.slice base n c, .slice vb m vc]).run Tryd.prog w = .ok q w') :
    Calls Tryd.prog 42 #[.slice base n c, .int .i64 n, .slice vb m vc] w fun e w1 => e = .returned q ∧ w1 = w' := by
  have t0 := Tryd.underlying0; have t3 := Tryd.underlying3; have t4 := Tryd.underlying4; have t9 := Tryd.underlying29; have t24 := Tryd.underlying22
  have a0 := Tryd.isAgg0; have a3 := Tryd.isAgg3; have a4 := Tryd.isAgg4; have a9 := Tryd.isAgg29; have a24 := Tryd.isAgg22
  have z0 := Tryd.sizeOf0; have z3 := Tryd.sizeOf3; have z4 := Tryd.sizeOf4; have z9 := Tryd.sizeOf29; have z24 := Tryd.sizeOf22
  have v0 := Tryd.zeroValue0; have v3 := Tryd.zeroValue3; have v4 := Tryd.zeroValue4; have v24 := Tryd.zeroValue22
  have u0 := run_underlying t0; have u3 := run_underlying t3; have u4 := run_underlying t4; have u24 := run_underlying t24
  have mixed : Tryd.prog.follows .mixedOrders = true := by kernel_rfl
  have hz1 : ¬ ((m : Int) = 0) := by omega
  go_enter Tryd.func42, Tryd.ntmps42
  cases base with
  | none =>
    have h0 := hnil rfl
    subst h0
    go_wp2_with (at_builtin; refine Lib.wpList_append_run _ rfl _ _ _ _ rfl _ _ rfl rfl _ _ hrun ?_)
    all_goals (go_ret; exact ⟨rfl, rfl⟩)
  | some a =>
    obtain ⟨ab, ao, asp⟩ := a
    go_wp2_with (at_builtin; refine Lib.wpList_append_run _ rfl _ _ _ _ rfl _ _ rfl rfl _ _ hrun ?_)
    all_goals (go_ret; exact ⟨rfl, rfl⟩)
set_option maxHeartbeats 4000000 in
set_option maxRecDepth 100000 in
theorem ins42_none (base : Option Addr) (n c i vc : Nat) (vb : Option Addr) (w : World) (hnc : n ≤ c) (hi : i ≤ n) (hnil : base = none → n = 0) :
    Calls Tryd.prog 42 #[.slice base n c, .int .i64 i, .slice vb 0 vc] w fun e w1 => e = .returned (.slice base n c) ∧ w1 = w := by
  have t0 := Tryd.underlying0; have t3 := Tryd.underlying3; have t4 := Tryd.underlying4; have t9 := Tryd.underlying29; have t24 := Tryd.underlying22
  have a0 := Tryd.isAgg0; have a3 := Tryd.isAgg3; have a4 := Tryd.isAgg4; have a9 := Tryd.isAgg29; have a24 := Tryd.isAgg22
  have z0 := Tryd.sizeOf0; have z3 := Tryd.sizeOf3; have z4 := Tryd.sizeOf4; have z9 := Tryd.sizeOf29; have z24 := Tryd.sizeOf22
  have v0 := Tryd.zeroValue0; have v3 := Tryd.zeroValue3; have v4 := Tryd.zeroValue4; have v24 := Tryd.zeroValue22
  have u0 := run_underlying t0; have u3 := run_underlying t3; have u4 := run_underlying t4; have u24 := run_underlying t24
  have mixed : Tryd.prog.follows .mixedOrders = true := by kernel_rfl
  go_enter Tryd.func42, Tryd.ntmps42
  cases base with
  | none =>
    have h0 := hnil rfl
    subst h0
    have hi0 : i = 0 := by omega
    subst hi0
    go_wp2
    all_goals (go_ret; exact ⟨rfl, rfl⟩)
  | some a =>
    obtain ⟨ab, ao, asp⟩ := a
    go_wp2
    all_goals (go_ret; exact ⟨rfl, rfl⟩)
set_option maxHeartbeats 4000000 in
set_option maxRecDepth 100000 in
theorem ins42_grow (b off n c i vb voff m vc : Nat) (cs vs : List Value) (w : World) (hi : i < n) (hm : 0 < m) (hnc : n ≤ c) (hroom : c < n + m) (hlim : n + m ≤ 1073741824)
    (hcl : cs.length = n * 5) (hvl : vs.length = m * 5) (hbw : b < w.heap.size) (hvw : vb < w.heap.size)
    (hcs : ∀ j v, cs[j]? = some v → w.cell? ⟨b, off + j, none⟩ = some v)
    (hvs : ∀ j v, vs[j]? = some v → w.cell? ⟨vb, voff + j, none⟩ = some v) (h1c : ∀ v ∈ cs, v.oneCell' = true) (h1v : ∀ v ∈ vs, v.oneCell' = true) :
    Calls Tryd.prog 42 #[.slice (some ⟨b, off, none⟩) n c, .int .i64 i, .slice (some ⟨vb, voff, none⟩) m vc] w fun e w' =>
      ∃ (G : Nat) (ROW : Array Value) (d1 : Nat), n + m ≤ G ∧ (n + m) * 5 ≤ ROW.size ∧ ROW.size = G * 5 ∧ (∀ (j : Nat) (v : Value), (cs.take (i * 5))[j]? = some v → ROW[j]? = some v) ∧ e = .returned (.slice (some ⟨w.heap.size, 0, none⟩) (n + m) G) ∧
      w' = ((({ w with drawn := d1 } : World).alloc (.cells ROW 29)).setCells w.heap.size (i * 5) vs).setCells w.heap.size ((i + m) * 5) (cs.drop (i * 5)) := by
  have t0 := Tryd.underlying0; have t3 := Tryd.underlying3; have t4 := Tryd.underlying4; have t9 := Tryd.underlying29; have t24 := Tryd.underlying22
  have a0 := Tryd.isAgg0; have a3 := Tryd.isAgg3; have a4 := Tryd.isAgg4; have a9 := Tryd.isAgg29; have a24 := Tryd.isAgg22
  have z0 := Tryd.sizeOf0; have z3 := Tryd.sizeOf3; have z4 := Tryd.sizeOf4; have z9 := Tryd.sizeOf29; have z24 := Tryd.sizeOf22
  have v0 := Tryd.zeroValue0; have v3 := Tryd.zeroValue3; have v4 := Tryd.zeroValue4; have v24 := Tryd.zeroValue22
  have u0 := run_underlying t0; have u3 := run_underlying t3; have u4 := run_underlying t4; have u24 := run_underlying t24
  have mixed : Tryd.prog.follows .mixedOrders = true := by kernel_rfl
  obtain ⟨i0, hi0, hz0, hzs, hzb⟩ : ∃ i0, Tryd.prog.info? 29 = some i0 ∧ i0.zero = some (Value.agg #[.string ⟨#[]⟩, .string ⟨#[]⟩, .int .i64 0, .int .i64 0, .int .i64 0]) ∧ i0.size = 5 ∧ i0.bytes = 56 := ⟨_, rfl, rfl, rfl, rfl⟩
  have hz1 : ¬ ((m : Int) = 0) := by omega
  have hz2 : ¬ ((i : Int) = (n : Int)) := by omega
  have hz3 : (c : Int) < (n : Int) + (m : Int) := by omega
  have hsz : (Tryd.prog.info? 29).map (·.size) = some 5 := by rw [hi0]; simp [hzs]
  have hkk : (n : Int) + (m : Int) - (i : Int) = ((n + m - i : Nat) : Int) := by omega
  have hik : i + (n + m - i) = n + m := by omega
  have hold : (Builtin.firstCells i0.size i (.slice (some ⟨b, off, none⟩) i c)).run Tryd.prog w.drew = .ok (cs.take (i * 5)).toArray w.drew := by
    rw [hzs]
    exact run_firstCells_some w.drew 5 i ⟨b, off, none⟩ i c (cs.take (i * 5)) (by rw [List.length_take]; omega) (fun j v hj => by
      rw [Addr.add_lit]
      rw [List.getElem?_take] at hj
      split at hj
      · exact hcs j v hj
      · cases hj)
  have hrz : ∀ ty, (Builtin.append_ #[22, 3] ty #[.slice (some ⟨b, off, none⟩) i c, .int .i64 ((n : Int) + (m : Int) - (i : Int))]).run Tryd.prog w =
      .ok (.slice (some ⟨w.heap.size, 0, none⟩) (n + m) (grownCap w (n + m) c 29)) (w.drew.alloc (.cells ((cs.take (i * 5)).toArray ++ Builtin.zeroCells (Value.agg #[.string ⟨#[]⟩, .string ⟨#[]⟩, .int .i64 0, .int .i64 0, .int .i64 0]).cells (n + m - i) ++ Builtin.zeroCells (Value.agg #[.string ⟨#[]⟩, .string ⟨#[]⟩, .int .i64 0, .int .i64 0, .int .i64 0]).cells (grownCap w (n + m) c 29 - (n + m))) 29)) := fun ty => by
    have h := Lib.run_append_grow_zeros w 22 3 ty 29 i0 _ .i64 .i64 t24 t3 hi0 hz0 (some ⟨b, off, none⟩) i c (cs.take (i * 5)) hold (n + m - i) (by omega) (by omega) (by omega) (by omega) (by rw [hzb]; omega) (by rw [hzb, hik]; exact growslice_fits hroom (by omega))
    rw [hik] at h
    rw [hkk]
    exact h
  obtain ⟨G, hG⟩ : ∃ G, G = grownCap w (n + m) c 29 := ⟨_, rfl⟩
  obtain ⟨ROW, hROW⟩ : ∃ ROW : Array Value, ROW = (cs.take (i * 5)).toArray ++ Builtin.zeroCells (Value.agg #[.string ⟨#[]⟩, .string ⟨#[]⟩, .int .i64 0, .int .i64 0, .int .i64 0]).cells (n + m - i) ++ Builtin.zeroCells (Value.agg #[.string ⟨#[]⟩, .string ⟨#[]⟩, .int .i64 0, .int .i64 0, .int .i64 0]).cells (G - (n + m)) := ⟨_, rfl⟩
  rw [← hG] at hrz
  rw [← hROW] at hrz
  have hGn : n + m ≤ G := by rw [hG]; exact grownCap_ge w _ _ _
  have hzc : ∀ k, (Builtin.zeroCells (Value.agg #[.string ⟨#[]⟩, .string ⟨#[]⟩, .int .i64 0, .int .i64 0, .int .i64 0]).cells k).size = k * 5 := fun k => by
    simp [Builtin.zeroCells, Value.cells]
  have hRs : ROW.size = G * 5 := by
    rw [hROW, Array.size_append, Array.size_append, hzc, hzc, List.size_toArray, List.length_take]
    omega
  have hRl : (n + m) * 5 ≤ ROW.size := by rw [hRs]; omega
  have hRt : ∀ j v, (cs.take (i * 5))[j]? = some v → ROW[j]? = some v := fun j v hj => by
    have hjl : j < (cs.take (i * 5)).length := by
      rcases Nat.lt_or_ge j (cs.take (i * 5)).length with h | h
      · exact h
      · rw [List.getElem?_eq_none h] at hj; simp at hj
    rw [hROW, Array.append_assoc, Array.getElem?_append_left (by simpa using hjl)]
    simpa using hj
  obtain ⟨W1, hW1⟩ : ∃ W1, W1 = w.drew.alloc (.cells ROW 29) := ⟨_, rfl⟩
  rw [← hW1] at hrz
  have hN : ∀ j, j < (n + m) * 5 → (W1.cell? ⟨w.heap.size, j, none⟩).isSome = true := fun j hj => by
    rw [hW1, World.cell?_alloc_at (w := w.drew) ROW _ w.heap.size j rfl, Array.getElem?_eq_getElem (by omega)]; rfl
  have hNf : ∀ j, W1.frozen? ⟨w.heap.size, j, none⟩ = false := fun j => by rw [hW1]; exact World.frozen?_alloc_at (w := w.drew) ROW _ w.heap.size j rfl
  have hOb : ∀ j v, w.cell? ⟨b, j, none⟩ = some v → W1.cell? ⟨b, j, none⟩ = some v := fun j v h => by rw [hW1, World.cell?_alloc_past (w := w.drew) _ b j hbw]; exact h
  have hOv : ∀ j v, w.cell? ⟨vb, j, none⟩ = some v → W1.cell? ⟨vb, j, none⟩ = some v := fun j v h => by rw [hW1, World.cell?_alloc_past (w := w.drew) _ vb j hvw]; exact h
  have hcpA : ∀ (W : World), (∀ x, W.cell? x = W1.cell? x) → (∀ x, W.frozen? x = W1.frozen? x) → ∀ ty dc, (Builtin.copy_ #[22, 22] ty #[.slice (some ⟨w.heap.size, i * 5, none⟩) (n + m - i) dc, .slice (some ⟨vb, voff, none⟩) m vc]).run Tryd.prog W = .ok (goInt (m : Nat)) (W.setCells w.heap.size (i * 5) vs) := fun W hWc hWf ty dc =>
    run_copy_k 5 W _ _ ty 29 w.heap.size (i * 5) (n + m - i) dc ⟨vb, voff, none⟩ m vc vs m t24 hsz (by simp only [Nat.min_def]; split <;> omega) hvl
      (fun j v hj => by rw [Addr.add_lit, hWc]; exact hOv _ v (hvs j v hj))
      (fun j hj => by rw [hWc]; exact hN _ (by omega)) (fun j hj => by rw [hWf]; exact hNf _) h1v
  have hG63 : G ≤ 9223372036854775807 := by
    have := grownCap_le_maxLen w (n + m) c 29 (by unfold maxLen; omega)
    rw [← hG] at this
    unfold maxLen at this
    omega
  have hGi : ¬ (G = i) := by omega
  have hGim : ¬ (G = i + m) := by omega
  have hci : ¬ (c = i) := by omega
  have hbN : b ≠ w.heap.size := by omega
  have hdl : (cs.drop (i * 5)).length = (n - i) * 5 := by rw [List.length_drop, hcl]; omega
  have hcpB : ∀ (W : World), (∀ x, W.cell? x = (W1.setCells w.heap.size (i * 5) vs).cell? x) → (∀ x, W.frozen? x = (W1.setCells w.heap.size (i * 5) vs).frozen? x) → ∀ ty dc sc, (Builtin.copy_ #[22, 22] ty #[.slice (some ⟨w.heap.size, (i + m) * 5, none⟩) (n + m - (i + m)) dc, .slice (some ⟨b, off + i * 5, none⟩) (n - i) sc]).run Tryd.prog W = .ok (goInt (n - i : Nat)) (W.setCells w.heap.size ((i + m) * 5) (cs.drop (i * 5))) := fun W hWc hWf ty dc sc =>
    run_copy_k 5 W _ _ ty 29 w.heap.size ((i + m) * 5) (n + m - (i + m)) dc ⟨b, off + i * 5, none⟩ (n - i) sc (cs.drop (i * 5)) (n - i) t24 hsz (by simp only [Nat.min_def]; split <;> omega) hdl
      (fun j v hj => by
        rw [Addr.add_lit, hWc, World.cell?_setCells_out _ _ _ _ _ (fun h _ => absurd h hbN), Nat.add_assoc]
        exact hOb _ v (hcs (i * 5 + j) v (by rwa [List.getElem?_drop] at hj)))
      (fun j hj => by rw [hWc]; exact isSome_setK _ _ _ _ (fun t ht => hN _ (by omega)) _ (hN _ (by omega)))
      (fun j hj => by rw [hWf, World.frozen?_setCells]; exact hNf _) (fun v hv => h1c v (List.mem_of_mem_drop hv))
  subst hW1
  have hE1 : ∀ x, ((w.alloc (.cells ROW 29)).drew).cell? x = (w.drew.alloc (.cells ROW 29)).cell? x := fun x => rfl
  have hE2 : ∀ x, ((w.alloc (.cells ROW 29)).drew).frozen? x = (w.drew.alloc (.cells ROW 29)).frozen? x := fun x => rfl
  have hF1 : ∀ x, (((w.alloc (.cells ROW 29)).drew.setCells w.heap.size (i * 5) vs).drew).cell? x = ((w.drew.alloc (.cells ROW 29)).setCells w.heap.size (i * 5) vs).cell? x := fun x => rfl
  have hF2 : ∀ x, (((w.alloc (.cells ROW 29)).drew.setCells w.heap.size (i * 5) vs).drew).frozen? x = ((w.drew.alloc (.cells ROW 29)).setCells w.heap.size (i * 5) vs).frozen? x := fun x => rfl
  have hw1 : IntKind.i64.wrap ((i : Int) + (m : Int)) = (i : Int) + (m : Int) := by rw [IntKind.wrap_i64]; omega
  have hb1 : (0 : Int) ≤ (i : Int) + (m : Int) := by omega
  have hin : i ≤ n := by omega
  have htn : ((i : Int) + (m : Int)).toNat = i + m := by omega
  have hb3 : (i : Int) ≤ (n : Int) := by omega
  clear hkk hik hold hROW hG
  go_enter Tryd.func42, Tryd.ntmps42
  go_wp2_with (first
    | (at_builtin; refine Lib.wpList_append_run _ rfl _ _ _ _ rfl _ _ rfl rfl _ _ (hrz _) ?_)
    | (at_builtin; refine wpList_copy_k _ rfl _ _ 22 22 rfl _ _ rfl rfl (hcpA _ hE1 hE2 _ _) ?_)
    | (at_builtin; refine wpList_copy_k _ rfl _ _ 22 22 rfl _ _ rfl rfl (hcpB _ (fun _ => rfl) (fun _ => rfl) _ _ _) ?_))
  go_region_law_o (refine step_copy_k rfl _ _ 22 22 rfl (.slice (some ⟨w.heap.size, (i + m) * 5, none⟩) (n + m - (i + m)) (G - (i + m))) (.slice (some ⟨b, off + i * 5, none⟩) (n - i) (c - i)) (by simp [Act.eval, Act.put]) (by simp [Act.eval, Act.put]) (hcpB _ hF1 hF2 3 (G - (i + m)) (c - i)) ?_)
  go_wp2
  go_ret
  exact ⟨G, ROW, w.drew.drew.drawn, hGn, hRl, hRs, hRt, rfl, by first | rfl | (rw [drew_setK]; rfl) | (simp only [drew_setK]; rfl)⟩
theorem insC42 : InsC Tryd.prog 42 5 22 29 where
  ent := ⟨Tryd.f42, Tryd.func42, by kernel_rfl, by kernel_rfl⟩
  hS := Tryd.underlying22
  hz := by kernel_rfl
  pos := by decide
  info := ⟨_, (Value.agg #[.string ⟨#[]⟩, .string ⟨#[]⟩, .int .i64 0, .int .i64 0, .int .i64 0]), rfl, by decide, rfl, rfl⟩
  nothing := fun base n c i vc vb w h1 h2 h3 => ins42_none base n c i vc vb w h1 h2 h3
  end_ := fun base n c m vc vb w w' q h1 h2 h3 h4 h5 => ins42_end base n c m vc vb w w' q h1 h2 h3 h4 h5
  shift := fun b off n c i vb voff m vc cs vs w h1 h2 h3 h4 h5 h6 h7 h8 h9 h10 h11 h12 h13 tA tB kA kB h14 h15 h16 => ins42_shift b off n c i vb voff m vc cs vs w h1 h2 h3 h4 h5 h6 h7 h8 h9 h10 h11 h12 h13 tA tB kA kB h14 h15 h16
  grow := fun b off n c i vb voff m vc cs vs w h1 h2 h3 h4 h5 h6 h7 h8 h9 h10 h11 h12 h13 => ins42_grow b off n c i vb voff m vc cs vs w h1 h2 h3 h4 h5 h6 h7 h8 h9 h10 h11 h12 h13
set_option maxHeartbeats 4000000 in
set_option maxRecDepth 100000 in
theorem del44_none (base : Option Addr) (n c i : Nat) (w : World) (hnc : n ≤ c) (hi : i ≤ n) (hnil : base = none → n = 0) :
    Calls Tryd.prog 44 #[.slice base n c, .int .i64 i, .int .i64 i] w fun e w1 => e = .returned (.slice base n c) ∧ w1 = w := by
  have t0 := Tryd.underlying0; have t3 := Tryd.underlying3; have t4 := Tryd.underlying4; have t9 := Tryd.underlying29; have t24 := Tryd.underlying22
  have a0 := Tryd.isAgg0; have a3 := Tryd.isAgg3; have a4 := Tryd.isAgg4; have a9 := Tryd.isAgg29; have a24 := Tryd.isAgg22
  have z0 := Tryd.sizeOf0; have z3 := Tryd.sizeOf3; have z4 := Tryd.sizeOf4; have z9 := Tryd.sizeOf29; have z24 := Tryd.sizeOf22
  have v0 := Tryd.zeroValue0; have v3 := Tryd.zeroValue3; have v4 := Tryd.zeroValue4; have v24 := Tryd.zeroValue22
  have u0 := run_underlying t0; have u3 := run_underlying t3; have u4 := run_underlying t4; have u24 := run_underlying t24
  have mixed : Tryd.prog.follows .mixedOrders = true := by kernel_rfl
  go_enter Tryd.func44, Tryd.ntmps44
  cases base with
  | none =>
    have h0 := hnil rfl
    subst h0
    have hi0 : i = 0 := by omega
    subst hi0
    go_wp2
    all_goals (go_ret; exact ⟨rfl, rfl⟩)
  | some a =>
    obtain ⟨ab, ao, asp⟩ := a
    go_wp2
    all_goals (go_ret; exact ⟨rfl, rfl⟩)
set_option maxHeartbeats 4000000 in
set_option maxRecDepth 100000 in
theorem del44_cut (b off n c i j : Nat) (cs : List Value) (w : World) (hij : i < j) (hj : j ≤ n) (hnc : n ≤ c) (hlim : n ≤ 1073741824) (hcl : cs.length = n * 5)
    (hcs : ∀ (j : Nat) (v : Value), cs[j]? = some v → w.cell? ⟨b, off + j, none⟩ = some v) (hfz : ∀ j, w.frozen? ⟨b, j, none⟩ = false) (h1c : ∀ v ∈ cs, v.oneCell' = true) :
    Calls Tryd.prog 44 #[.slice (some ⟨b, off, none⟩) n c, .int .i64 i, .int .i64 j] w fun e w' =>
      e = .returned (.slice (some ⟨b, off, none⟩) (n - (j - i)) c) ∧ ∃ (d1 : Nat) (zs : List Value), zs.length = (j - i) * 5 ∧ (∀ v ∈ zs, v.oneCell' = true) ∧
      w' = ((({ w with drawn := d1 } : World)).setCells b (off + i * 5) (cs.drop (j * 5))).setCells b (off + (n - (j - i)) * 5) zs := by
  have t0 := Tryd.underlying0; have t3 := Tryd.underlying3; have t4 := Tryd.underlying4; have t9 := Tryd.underlying29; have t24 := Tryd.underlying22
  have a0 := Tryd.isAgg0; have a3 := Tryd.isAgg3; have a4 := Tryd.isAgg4; have a9 := Tryd.isAgg29; have a24 := Tryd.isAgg22
  have z0 := Tryd.sizeOf0; have z3 := Tryd.sizeOf3; have z4 := Tryd.sizeOf4; have z9 := Tryd.sizeOf29; have z24 := Tryd.sizeOf22
  have v0 := Tryd.zeroValue0; have v3 := Tryd.zeroValue3; have v4 := Tryd.zeroValue4; have v24 := Tryd.zeroValue22
  have u0 := run_underlying t0; have u3 := run_underlying t3; have u4 := run_underlying t4; have u24 := run_underlying t24
  have mixed : Tryd.prog.follows .mixedOrders = true := by kernel_rfl
  obtain ⟨i0, hi0, hzs, hzb⟩ : ∃ i0, Tryd.prog.info? 29 = some i0 ∧ i0.size = 5 ∧ i0.bytes = 56 := ⟨_, rfl, rfl, rfl⟩
  have hv9 : ∀ w, (zeroValue 29).run Tryd.prog w = .ok (Value.agg #[.string ⟨#[]⟩, .string ⟨#[]⟩, .int .i64 0, .int .i64 0, .int .i64 0]) w := Tryd.zeroValue29
  obtain ⟨news, hnews⟩ : ∃ news, news = cs.drop (j * 5) := ⟨_, rfl⟩
  have hlen : news.length = (n - j) * 5 := by rw [hnews, List.length_drop, hcl]; omega
  obtain ⟨A, hA, hsrc⟩ : ∃ A : Addr, (if c = j then some (⟨b, off, none⟩ : Addr) else some ⟨b, off + j * 5, none⟩) = some A ∧ Hid (∀ t u, news[t]? = some u → w.drew.cell? (A.add t) = some u) := by
    by_cases h : c = j
    · refine ⟨⟨b, off, none⟩, by simp [h], fun t u hu => ?_⟩
      have h0 : news.length = 0 := by rw [hlen]; omega
      rw [List.length_eq_zero_iff.1 h0] at hu
      simp at hu
    · refine ⟨⟨b, off + j * 5, none⟩, by simp [h], fun t u hu => ?_⟩
      rw [Addr.add_lit, Nat.add_assoc]
      refine hcs (j * 5 + t) u ?_
      rw [hnews, List.getElem?_drop] at hu
      exact hu
  have s1 : Hid (news.length = (n - j) * 5) := hlen
  have s2 : Hid (∀ u ∈ news, u.oneCell' = true) := fun u hu => h1c u (List.mem_of_mem_drop (hnews ▸ hu))
  have hcell : ∀ k, k < n * 5 → (w.cell? ⟨b, off + k, none⟩).isSome = true := fun k hk => by
    have hk' : k < cs.length := by omega
    rw [hcs k cs[k] (by simp)]; rfl
  have s3 : Hid (∀ t, t < news.length → (w.drew.cell? ⟨b, off + i * 5 + t, none⟩).isSome = true ∧ w.drew.frozen? ⟨b, off + i * 5 + t, none⟩ = false) := by
    intro t ht
    rw [hlen] at ht
    rw [Nat.add_assoc]
    exact ⟨hcell _ (by omega), hfz _⟩
  obtain ⟨W1, hW1⟩ : ∃ W1, W1 = w.drew.setCells b (off + i * 5) news := ⟨_, rfl⟩
  have hZl : ∀ k, (Builtin.zeroCells (Value.agg #[.string ⟨#[]⟩, .string ⟨#[]⟩, .int .i64 0, .int .i64 0, .int .i64 0]).cells k).toList.length = k * 5 := fun k => by simp [Builtin.zeroCells, Value.cells]
  have hZ1 : ∀ k, ∀ v ∈ (Builtin.zeroCells (Value.agg #[.string ⟨#[]⟩, .string ⟨#[]⟩, .int .i64 0, .int .i64 0, .int .i64 0]).cells k).toList, v.oneCell' = true := fun k v hv => zero_one (by decide) hv
  have hcl2 : ∀ ty, (Builtin.clear_ #[22] ty #[.slice (some ⟨b, off + (i + (n - j)) * 5, none⟩) (n - (i + (n - j))) (c - (i + (n - j)))]).run Tryd.prog W1 = .ok (.tuple #[]) (W1.setCells b (off + (i + (n - j)) * 5) (Builtin.zeroCells (Value.agg #[.string ⟨#[]⟩, .string ⟨#[]⟩, .int .i64 0, .int .i64 0, .int .i64 0]).cells (n - (i + (n - j)))).toList) := fun ty =>
    run_clear_k W1 22 29 ty _ t24 hv9 b _ _ _ (by omega) (hZ1 _) (fun k hk => by
      rw [hZl] at hk
      rw [hW1]
      refine isSome_setK b _ _ _ (fun t ht => ?_) _ ?_
      · rw [hlen] at ht; rw [Nat.add_assoc]; exact hcell _ (by omega)
      · rw [Nat.add_assoc]; exact hcell _ (by omega)) (fun k => by rw [hW1, World.frozen?_setCells]; exact hfz k)
  have hW : Hid (W1 = w.drew.setCells b (off + i * 5) news) := hW1
  have X : Hid (news = cs.drop (j * 5)) := hnews
  have Y1 := hZl (n - (i + (n - j)))
  have Y2 := hZ1 (n - (i + (n - j)))
  obtain ⟨ZS, hZS⟩ : ∃ ZS, ZS = (Builtin.zeroCells (Value.agg #[.string ⟨#[]⟩, .string ⟨#[]⟩, .int .i64 0, .int .i64 0, .int .i64 0]).cells (n - (i + (n - j)))).toList := ⟨_, rfl⟩
  rw [← hZS] at hcl2 Y1 Y2
  have Y1h : Hid (ZS.length = (n - (i + (n - j))) * 5) := Y1
  have Y2h : Hid (∀ v ∈ ZS, v.oneCell' = true) := Y2
  have hic : i ≤ c := by omega
  have hjc : j ≤ c := by omega
  have heq : ¬ ((i : Int) = (j : Int)) := by omega
  clear hW1 hnews hlen Y1 Y2 hZS hZl hZ1 hcell hcs hcl h1c
  go_enter Tryd.func44, Tryd.ntmps44
  go_wp2_with fail
  go_region_law_o (refine step_append_room rfl (.tmp 22) (.tmp 25) 22 rfl 29 i0 5 t24 hi0 hzs b off i c (by simp [Act.eval, Act.put]) A (n - j) (c - j) news (by simp [Act.eval, Act.put]) s1.out hsrc.out s2.out (by omega) s3.out ?_; rw [← hW.out])
  go_wp2
  go_ret
  refine ⟨by rw [show n - (j - i) = i + (n - j) by omega]; rfl, w.drew.drawn, ZS, ?_, Y2h.out, ?_⟩
  · rw [Y1h.out]; congr 1; omega
  · rw [← X.out, show n - (j - i) = i + (n - j) by omega]
    have : ({ w with drawn := w.drew.drawn } : World) = w.drew := rfl
    rw [this, ← hW.out]
theorem delC44 : DelC Tryd.prog 44 5 where
  ent := ⟨Tryd.f44, Tryd.func44, by kernel_rfl, by kernel_rfl⟩
  pos := by decide
  nothing := fun base n c i w h1 h2 h3 => del44_none base n c i w h1 h2 h3
  cut := fun b off n c i j cs w h1 h2 h3 h4 h5 h6 h7 h8 => del44_cut b off n c i j cs w h1 h2 h3 h4 h5 h6 h7 h8
end Sg
namespace Sg
open _root_.Go (IntKind BinOp UnOp)
set_option linter.unusedSimpArgs false
set_option linter.unusedVariables false
theorem lt_of {i n : Nat} (h : decide ((i : Int) < (n : Int)) = true) : i < n := by simpa using h
theorem eq_of {i n : Nat} (hi : i ≤ n) (h : decide ((i : Int) < (n : Int)) = false) : i = n := by
  have : ¬ i < n := by simpa using h
  omega
theorem inc64 {i n : Nat} (h : i < n) (hn : n < 2 ^ 60) : IntKind.i64.wrap ((i : Int) + 1) = ((i + 1 : Nat) : Int) := wrap64 (by omega) (by omega)
theorem take_s {α : Type} {l : List α} {i : Nat} {x : α} (h : l[i]? = some x) : l.take (i + 1) = l.take i ++ [x] := by rw [List.take_add_one, h]; rfl
theorem posd {n : Nat} : decide ((0 : Int) < (n : Int)) = !decide (n = 0) := by cases n <;> simp
end Sg
namespace Sg
def datO : Option (List V × Bool) → Bool
  | some m => m.1.all V.datC
  | none => true
theorem datsite_o {μ s} : datSite μ s = datO (μ s) := rfl
theorem dato_s {cs b} : datO (some (cs, b)) = cs.all V.datC := rfl
def capO (s : Nat) (sites : List Nat) : Option (List V × Bool) → Option V
  | some (cs, _) => if sites.contains s ∧ cs.all V.datC then some (.cptr cs 0) else none
  | none => none
theorem capv_l {μ sites s} : capV μ sites (.lref s 0) = capO s sites (μ s) := by
  unfold capV capO; rfl
theorem capo_s {s sites cs b} : capO s sites (some (cs, b)) = if sites.contains s ∧ cs.all V.datC then some (.cptr cs 0) else none := rfl
theorem capv_i {μ sites k n} : capV μ sites (.int k n) = some (.int k n) := rfl
theorem capv_b {μ sites n} : capV μ sites (.bool n) = some (.bool n) := rfl
theorem capv_s {μ sites n} : capV μ sites (.str n) = some (.str n) := rfl
theorem capv_r {μ sites z n} : capV μ sites (.slice z n) = some (.slice z n) := rfl
theorem frzm_nil {μ} : frzM μ [] = μ := rfl
theorem frzm_cons {μ s l} : frzM μ (s :: l) = frzM (upd μ s ((μ s).map fun m => (m.1, true))) l := rfl
def stE (S : St) (s i off m : Nat) (xs : List V) : Option (Nat × List (List V) × Fz) → Option St
  | some (z, rows, .live) => if rows.length = m then (rows[i]?).bind fun r => (setAt r off xs).bind fun r' => some { S with A := upd S.A s (some (z, rows.set i r', .live)) } else none
  | _ => none
theorem ste_s {S : St} {s i off m : Nat} {xs : List V} {z rows} : stE S s i off m xs (some (z, rows, .live)) = if rows.length = m then (rows[i]?).bind fun r => (setAt r off xs).bind fun r' => some ⟨S.ρ, S.μ, upd S.A s (some (z, rows.set i r', .live))⟩ else none := rfl
theorem st_e {S : St} {s n i off m x} : storeV S (.e s) n (.eref s i off m) x = x.cells.bind fun xs => if xs.length = n then (if xs.all V.datC then stE S s i off m xs (S.A s) else none) else none := by
  unfold storeV
  congr 1; funext xs
  split
  · simp only [true_and]
    split
    · unfold stE; rfl
    · rfl
  · rfl
def insA (S : St) (s z n k : Nat) (ys : List (List V)) : Option (Nat × List (List V) × Fz) → Option (V × St)
  | some (z3, rows, .live) => if z3 = z ∧ rows.length = n ∧ k ≤ n ∧ rows.length + ys.length ≤ lim then
      some (.own s z (rows.length + ys.length), { S with A := upd S.A s (some (z, rows.take k ++ (ys ++ rows.drop k), .live)) }) else none
  | _ => none
theorem insa_s {S : St} {s z n k : Nat} {ys rows} : insA S s z n k ys (some (z, rows, .live)) = if rows.length = n ∧ k ≤ n ∧ rows.length + ys.length ≤ lim then
      some (.own s z (rows.length + ys.length), ⟨S.ρ, S.μ, upd S.A s (some (z, rows.take k ++ (ys ++ rows.drop k), .live))⟩) else none := by simp [insA]
def insV (S : St) (s z : Nat) : V → V → V → Option (V × St)
  | .own s' z' n, .int .i64 k, .slice z'' ys => if s' = s ∧ z' = z ∧ z'' = z then (if 0 ≤ k then insA S s z n k.toNat ys (S.A s) else none) else none
  | _, _, _ => none
theorem insv_o {S : St} {s z n k : Nat} {ys} : insV S s z (.own s z n) (.int .i64 (k : Int)) (.slice z ys) = insA S s z n k ys (S.A s) := by simp [insV]
def delA (S : St) (d s z n k m : Nat) : Option (Nat × List (List V) × Fz) → Option (Nat × List (List V) × Fz) → Option (V × St)
  | some (z3, rows, .live), none => if z3 = z ∧ rows.length = n ∧ k ≤ m ∧ m ≤ n ∧ n ≤ lim then
      some (.own d z (rows.take k ++ rows.drop m).length, { S with A := upd (upd S.A s (some (z, [], .dead))) d (some (z, rows.take k ++ rows.drop m, .live)) }) else none
  | _, _ => none
theorem dela_s {S : St} {d s z n k m : Nat} {rows} : delA S d s z n k m (some (z, rows, .live)) none = if rows.length = n ∧ k ≤ m ∧ m ≤ n ∧ n ≤ lim then
      some (.own d z (rows.take k ++ rows.drop m).length, ⟨S.ρ, S.μ, upd (upd S.A s (some (z, [], .dead))) d (some (z, rows.take k ++ rows.drop m, .live))⟩) else none := by simp [delA]
def delV (S : St) (d s z : Nat) : V → V → V → Option (V × St)
  | .own s' z' n, .int .i64 k, .int .i64 m => if s' = s ∧ z' = z then (if 0 ≤ k ∧ 0 ≤ m then delA S d s z n k.toNat m.toNat (S.A s) (S.A d) else none) else none
  | _, _, _ => none
theorem delv_o {S : St} {d s z n k m : Nat} : delV S d s z (.own s z n) (.int .i64 (k : Int)) (.int .i64 (m : Int)) = delA S d s z n k m (S.A s) (S.A d) := by simp [delV]
section
variable {κ : Nat → List V → Option V} {S : St} {Q : St → Prop} {e : Nat → V} {i : Nat} {ops : List Op}
theorem wr_ins {dst : Option Nat} {gl : Bool} {f s z : Nat} {x y j : Arg} : Wr κ (⟨dst, gl, .ins f s z x j y, none⟩ :: ops) i e S Q = WrO κ dst gl ops i e Q (insV S s z (argv e S.ρ x) (argv e S.ρ j) (argv e S.ρ y)) := by
  rw [wr_op]
  congr 1
  simp only [ev, insV]
  split
  · rename_i s' z' n k z'' ys h1 h2 h3
    rw [h1, h2, h3]
    simp only
    split
    · unfold insA
      by_cases hk : 0 ≤ k
      · have e1 : ∀ n : Nat, (k ≤ (n : Int)) = (k.toNat ≤ n) := fun n => propext (by omega)
        simp only [hk, true_and, if_true, e1]
        rcases S.A s with _ | ⟨z3, rows, fz⟩
        · rfl
        · cases fz <;> rfl
      · simp only [hk, false_and, and_false, if_false]
        rcases S.A s with _ | ⟨z3, rows, fz⟩
        · rfl
        · cases fz <;> simp
    · rfl
  · rename_i h
    split
    · rename_i s' z' n k z'' ys h1 h2 h3; exact absurd h3 (h s' z' n k z'' ys h1 h2)
    · rfl
theorem wr_del {dst : Option Nat} {gl : Bool} {f s z : Nat} {x y j : Arg} : Wr κ (⟨dst, gl, .del f s z x j y, none⟩ :: ops) i e S Q = WrO κ dst gl ops i e Q (delV S (dst.getD 0) s z (argv e S.ρ x) (argv e S.ρ j) (argv e S.ρ y)) := by
  rw [wr_op]
  congr 1
  simp only [ev, delV]
  split
  · rename_i s' z' n k m h1 h2 h3
    rw [h1, h2, h3]
    simp only
    split
    · unfold delA
      by_cases hk : 0 ≤ k
      · by_cases hm : 0 ≤ m
        · have e1 : (k ≤ m) = (k.toNat ≤ m.toNat) := propext (by omega)
          have e2 : ∀ n : Nat, (m ≤ (n : Int)) = (m.toNat ≤ n) := fun n => propext (by omega)
          simp only [hk, hm, and_self, true_and, if_true, e1, e2]
          rcases S.A s with _ | ⟨z3, rows, fz⟩
          · rfl
          · cases fz <;> cases S.A (dst.getD 0) <;> rfl
        · have e3 : ∀ (p q : Prop), (p ∧ q ∧ k ≤ m) ↔ False := fun p q => ⟨fun h => by omega, fun h => h.elim⟩
          have e4 : ¬ (k ≤ m) := by omega
          simp only [hk, hm, e4, and_false, false_and, if_false]
          rcases S.A s with _ | ⟨z3, rows, fz⟩
          · rfl
          · cases fz <;> cases S.A (dst.getD 0) <;> simp
      · simp only [hk, false_and, and_false, if_false]
        rcases S.A s with _ | ⟨z3, rows, fz⟩
        · rfl
        · cases fz <;> cases S.A (dst.getD 0) <;> simp
    · rfl
  · rename_i h
    split
    · rename_i s' z' n k m h1 h2 h3; exact absurd h3 (h s' z' n k m h1 h2)
    · rfl
end
theorem iad_r0 {z rows k} : iadV z (.slice z rows) (.int k 0) = (rows[0]?).map fun r => .cptr r 0 := by simp [iadV]
theorem iad_r1 {z rows k} : iadV z (.slice z rows) (.int k 1) = (rows[1]?).map fun r => .cptr r 0 := by simp [iadV]
theorem iad_r2 {z rows k} : iadV z (.slice z rows) (.int k 2) = (rows[2]?).map fun r => .cptr r 0 := by simp [iadV]
theorem bound_0 {k d} : bound (some (.int k 0)) d = some 0 := rfl
theorem bound_1 {k d} : bound (some (.int k 1)) d = some 1 := rfl
theorem bound_2 {k d} : bound (some (.int k 2)) d = some 2 := rfl
attribute [go_sem] iad_r0 iad_r1 iad_r2 bound_0 bound_1 bound_2
attribute [go_sem] ste_s st_e insa_s insv_o dela_s delv_o
attribute [go_sem high] wr_ins wr_del
attribute [go_sem] datsite_o dato_s capv_l capo_s capv_i capv_b capv_s capv_r frzm_nil frzm_cons
end Sg
namespace Sg
open _root_.Go
set_option linter.unusedSimpArgs false
set_option linter.unusedVariables false
theorem decodeN_w (n a b c d : Nat) : 1 ≤ (Lib.decodeN n a b c d).2 ∧ (Lib.decodeN n a b c d).2 ≤ 4 := by
  unfold Lib.decodeN
  repeat' split
  all_goals simp
theorem dN_pos (l : List UInt8) : 1 ≤ (dN l).2 := (decodeN_w ..).1
def bad (l : List UInt8) : Bool := decide (dN l = (65533, 1))
def letsF : Nat → List UInt8 → List Int
  | 0, _ => []
  | f + 1, l => if l = [] then [] else ((dN l).1 : Int) :: letsF f (l.drop (dN l).2)
def lets (l : List UInt8) : List Int := letsF l.length l
theorem drop_lt {l : List UInt8} (h : l ≠ []) : (l.drop (dN l).2).length < l.length := by
  have := dN_pos l
  have : 0 < l.length := List.length_pos_iff.2 h
  rw [List.length_drop]; omega
theorem letsF_eq : ∀ (f : Nat) (l : List UInt8), l.length ≤ f → letsF f l = lets l
  | 0, l, h => by
    obtain rfl : l = [] := List.eq_nil_of_length_eq_zero (by omega)
    rfl
  | f + 1, l, h => by
    by_cases hl : l = []
    · subst hl; simp [letsF, lets]
    · have hd := drop_lt hl
      have h1 := letsF_eq f (l.drop (dN l).2) (by omega)
      obtain ⟨n, hn⟩ : ∃ n, l.length = n + 1 := ⟨l.length - 1, by omega⟩
      have h2 : letsF n (l.drop (dN l).2) = lets (l.drop (dN l).2) := letsF_eq n _ (by omega)
      have e : lets l = ((dN l).1 : Int) :: letsF n (l.drop (dN l).2) := by
        rw [lets, hn]; simp only [letsF, hl, if_false]
      rw [e, h2]
      simp only [letsF, hl, if_false, h1]
  termination_by f => f
theorem lets_nil : lets [] = [] := rfl
theorem lets_cons {l : List UInt8} (h : l ≠ []) : lets l = ((dN l).1 : Int) :: lets (l.drop (dN l).2) := by
  have hd := drop_lt h
  obtain ⟨n, hn⟩ : ∃ n, l.length = n + 1 := ⟨l.length - 1, by omega⟩
  rw [lets, hn]
  simp only [letsF, h, if_false]
  rw [letsF_eq n _ (by omega)]
theorem lets_len : ∀ (n : Nat) (l : List UInt8), l.length ≤ n → (lets l).length ≤ l.length
  | 0, l, h => by
    obtain rfl : l = [] := List.eq_nil_of_length_eq_zero (by omega)
    simp [lets_nil]
  | n + 1, l, h => by
    by_cases hl : l = []
    · subst hl; simp [lets_nil]
    · have hd := drop_lt hl
      have := lets_len n (l.drop (dN l).2) (by omega)
      rw [lets_cons hl]
      simp only [List.length_cons]; omega
theorem keyAll_eq : ∀ (f : Nat) (l : List UInt8), l.length ≤ f → keyAll f l = keyAll l.length l
  | 0, l, h => by
    obtain rfl : l = [] := List.eq_nil_of_length_eq_zero (by omega)
    rfl
  | f + 1, l, h => by
    by_cases hl : l = []
    · subst hl; simp [keyAll]
    · have hd := drop_lt hl
      have h1 := keyAll_eq f (l.drop (dN l).2) (by omega)
      obtain ⟨n, hn⟩ : ∃ n, l.length = n + 1 := ⟨l.length - 1, by omega⟩
      have h2 := keyAll_eq n (l.drop (dN l).2) (by omega)
      have e : keyAll l.length l = (plainR (dN l).1 (dN l).2 && keyAll n (l.drop (dN l).2)) := by
        rw [hn]; simp only [keyAll, hl, if_false]
      rw [e, h2]
      simp only [keyAll, hl, if_false, h1]
  termination_by f => f
theorem keyAll_nil {f : Nat} : keyAll f [] = true := by cases f <;> simp [keyAll]
theorem keyAll_cons {l : List UInt8} (h : l ≠ []) : keyAll l.length l = (plainR (dN l).1 (dN l).2 && keyAll (l.drop (dN l).2).length (l.drop (dN l).2)) := by
  have hd := drop_lt h
  obtain ⟨n, hn⟩ : ∃ n, l.length = n + 1 := ⟨l.length - 1, by omega⟩
  rw [hn]
  simp only [keyAll, h, if_false]
  rw [keyAll_eq n _ (by omega)]
def contV : Int → List UInt8 → Option Int
  | a, [] => some a
  | a, b :: l => if b.toNat < 128 ∨ 191 < b.toNat then none else contV (64 * a + b.toNat - 128) l
def cls (a : Int) : Nat × Int × Int :=
  if 194 ≤ a ∧ a < 224 then (2, 128, a - 192) else if 224 ≤ a ∧ a < 240 then (3, 2048, a - 224) else if 240 ≤ a ∧ a < 245 then (4, 65536, a - 240) else (0, 0, a)
def letS (l : List UInt8) : Int × Int :=
  match l with
  | [] => (-1, 1)
  | b :: t => if b.toNat < 128 then ((b.toNat : Int), 1) else
    if (cls b.toNat).1 = 0 ∨ l.length < (cls b.toNat).1 then (-1, 1) else
      match contV (cls b.toNat).2.2 (t.take ((cls b.toNat).1 - 1)) with
      | none => (-1, 1)
      | some v => if v < (cls b.toNat).2.1 ∨ 1114111 < v ∨ (55296 ≤ v ∧ v < 57344) then (-1, 1) else (v, (cls b.toNat).1)
theorem dec0 {n a b c d : Nat} (h : (128 ≤ a ∧ a < 194) ∨ (245 ≤ a ∧ a < 256)) : Lib.decodeN n a b c d = (65533, 1) := by
  unfold Lib.decodeN
  repeat' split
  all_goals first | (exfalso; omega) | rfl
theorem dec2 {n a b c d : Nat} (h : 194 ≤ a ∧ a < 224) : Lib.decodeN n a b c d = if 1 < n ∧ b / 64 = 2 then (a % 32 * 64 + b % 64, 2) else (65533, 1) := by
  unfold Lib.decodeN
  repeat' split
  all_goals first | (exfalso; omega) | rfl
theorem dec3 {n a b c d : Nat} (h : 224 ≤ a ∧ a < 240) : Lib.decodeN n a b c d = if (1 < n ∧ b / 64 = 2) ∧ (2 < n ∧ c / 64 = 2) ∧ 2048 ≤ a % 16 * 4096 + b % 64 * 64 + c % 64 ∧ (a % 16 * 4096 + b % 64 * 64 + c % 64 < 55296 ∨ 57344 ≤ a % 16 * 4096 + b % 64 * 64 + c % 64) then (a % 16 * 4096 + b % 64 * 64 + c % 64, 3) else (65533, 1) := by
  unfold Lib.decodeN
  repeat' split
  all_goals first | (exfalso; omega) | rfl
theorem dec4 {n a b c d : Nat} (h : 240 ≤ a ∧ a < 245) : Lib.decodeN n a b c d = if (1 < n ∧ b / 64 = 2) ∧ (2 < n ∧ c / 64 = 2) ∧ (3 < n ∧ d / 64 = 2) ∧ 65536 ≤ a % 8 * 262144 + b % 64 * 4096 + c % 64 * 64 + d % 64 ∧ a % 8 * 262144 + b % 64 * 4096 + c % 64 * 64 + d % 64 ≤ 1114111 then (a % 8 * 262144 + b % 64 * 4096 + c % 64 * 64 + d % 64, 4) else (65533, 1) := by
  unfold Lib.decodeN
  repeat' split
  all_goals first | (exfalso; omega) | rfl
theorem dec1 {n a b c d : Nat} (h : a < 128) : Lib.decodeN n a b c d = (a, 1) := by
  unfold Lib.decodeN; rw [if_pos h]
theorem cont_iff {b : UInt8} : (b.toNat < 128 ∨ 191 < b.toNat) ↔ ¬ b.toNat / 64 = 2 := by omega
theorem letS_dN {l : List UInt8} (h : l ≠ []) : letS l = if dN l = (65533, 1) then (-1, 1) else (((dN l).1 : Int), ((dN l).2 : Int)) := by
  obtain ⟨b0, t, rfl⟩ := List.exists_cons_of_ne_nil h
  have l0 := b0.toNat_lt
  have e0 : (b0 :: t).getD 0 0 = b0 := rfl
  have e1 : (b0 :: t).getD 1 0 = t.getD 0 0 := rfl
  have e2 : (b0 :: t).getD 2 0 = t.getD 1 0 := rfl
  have e3 : (b0 :: t).getD 3 0 = t.getD 2 0 := rfl
  simp only [letS, dN, e0, e1, e2, e3, List.length_cons]
  by_cases c1 : b0.toNat < 128
  · rw [if_pos c1, dec1 c1, if_neg (by intro e; simp at e; omega)]; rfl
  rw [if_neg c1]
  by_cases c2 : 194 ≤ b0.toNat ∧ b0.toNat < 224
  · rw [dec2 c2, show cls b0.toNat = (2, 128, (b0.toNat : Int) - 192) from if_pos (by omega)]
    match t with
    | [] => simp
    | b1 :: t =>
      have l1 := b1.toNat_lt
      simp only [List.getD_cons_zero, List.length_cons, List.take_succ_cons, List.take_zero, contV, cont_iff]
      by_cases d1 : b1.toNat / 64 = 2
      · have e : (1 < t.length + 1 + 1 ∧ b1.toNat / 64 = 2) := ⟨by omega, d1⟩
        simp only [d1, e]
        simp
        repeat' split
        all_goals first | (exfalso; omega) | (simp; omega) | omega
      · simp [d1]
  by_cases c3 : 224 ≤ b0.toNat ∧ b0.toNat < 240
  · rw [dec3 c3, show cls b0.toNat = (3, 2048, (b0.toNat : Int) - 224) from by rw [cls, if_neg (by omega), if_pos (by omega)]]
    match t with
    | [] => simp
    | [b1] => simp
    | b1 :: b2 :: t =>
      have l1 := b1.toNat_lt; have l2 := b2.toNat_lt
      simp only [List.getD_cons_zero, List.getD_cons_succ, List.length_cons, List.take_succ_cons, List.take_zero, contV, cont_iff]
      by_cases d1 : b1.toNat / 64 = 2
      · by_cases d2 : b2.toNat / 64 = 2
        · have hv : 64 * (64 * ((b0.toNat : Int) - 224) + b1.toNat - 128) + b2.toNat - 128 = ((b0.toNat % 16 * 4096 + b1.toNat % 64 * 64 + b2.toNat % 64 : Nat) : Int) := by omega
          have hn : ¬ (3 = 0 ∨ t.length + 1 + 1 + 1 < 3) := by omega
          simp only [d1, d2, not_true_eq_false, if_false, hv, hn]
          obtain ⟨v, hve, hvb⟩ : ∃ v, b0.toNat % 16 * 4096 + b1.toNat % 64 * 64 + b2.toNat % 64 = v ∧ v < 65536 := ⟨_, rfl, by omega⟩
          rw [hve]
          by_cases c : 2048 ≤ v ∧ (v < 55296 ∨ 57344 ≤ v)
          · have hD : (if (1 < t.length + 1 + 1 + 1 ∧ True) ∧ (2 < t.length + 1 + 1 + 1 ∧ True) ∧ 2048 ≤ v ∧ (v < 55296 ∨ 57344 ≤ v) then (v, 3) else ((65533, 1) : Nat × Nat)) = (v, 3) := if_pos ⟨⟨by omega, trivial⟩, ⟨by omega, trivial⟩, c.1, c.2⟩
            rw [hD, if_neg (by omega), if_neg (by intro e; simp at e)]
          · have hD : (if (1 < t.length + 1 + 1 + 1 ∧ True) ∧ (2 < t.length + 1 + 1 + 1 ∧ True) ∧ 2048 ≤ v ∧ (v < 55296 ∨ 57344 ≤ v) then (v, 3) else ((65533, 1) : Nat × Nat)) = (65533, 1) := if_neg (fun e => c ⟨e.2.2.1, e.2.2.2⟩)
            rw [hD, if_pos (by omega), if_pos rfl]
        · simp [d1, d2]
      · simp [d1]
  by_cases c4 : 240 ≤ b0.toNat ∧ b0.toNat < 245
  · rw [dec4 c4, show cls b0.toNat = (4, 65536, (b0.toNat : Int) - 240) from by rw [cls, if_neg (by omega), if_neg (by omega), if_pos (by omega)]]
    match t with
    | [] => simp
    | [b1] => simp
    | [b1, b2] => simp
    | b1 :: b2 :: b3 :: t =>
      have l1 := b1.toNat_lt; have l2 := b2.toNat_lt; have l3 := b3.toNat_lt
      simp only [List.getD_cons_zero, List.getD_cons_succ, List.length_cons, List.take_succ_cons, List.take_zero, contV, cont_iff]
      by_cases d1 : b1.toNat / 64 = 2
      · by_cases d2 : b2.toNat / 64 = 2
        · by_cases d3 : b3.toNat / 64 = 2
          · have hv : 64 * (64 * (64 * ((b0.toNat : Int) - 240) + b1.toNat - 128) + b2.toNat - 128) + b3.toNat - 128 = ((b0.toNat % 8 * 262144 + b1.toNat % 64 * 4096 + b2.toNat % 64 * 64 + b3.toNat % 64 : Nat) : Int) := by omega
            have hn : ¬ (4 = 0 ∨ t.length + 1 + 1 + 1 + 1 < 4) := by omega
            simp only [d1, d2, d3, not_true_eq_false, if_false, hv, hn]
            obtain ⟨v, hve⟩ : ∃ v, b0.toNat % 8 * 262144 + b1.toNat % 64 * 4096 + b2.toNat % 64 * 64 + b3.toNat % 64 = v := ⟨_, rfl⟩
            rw [hve]
            by_cases c : 65536 ≤ v ∧ v ≤ 1114111
            · have hD : (if (1 < t.length + 1 + 1 + 1 + 1 ∧ True) ∧ (2 < t.length + 1 + 1 + 1 + 1 ∧ True) ∧ (3 < t.length + 1 + 1 + 1 + 1 ∧ True) ∧ 65536 ≤ v ∧ v ≤ 1114111 then (v, 4) else ((65533, 1) : Nat × Nat)) = (v, 4) := if_pos ⟨⟨by omega, trivial⟩, ⟨by omega, trivial⟩, ⟨by omega, trivial⟩, c.1, c.2⟩
              rw [hD, if_neg (by omega), if_neg (by intro e; simp at e)]
            · have hD : (if (1 < t.length + 1 + 1 + 1 + 1 ∧ True) ∧ (2 < t.length + 1 + 1 + 1 + 1 ∧ True) ∧ (3 < t.length + 1 + 1 + 1 + 1 ∧ True) ∧ 65536 ≤ v ∧ v ≤ 1114111 then (v, 4) else ((65533, 1) : Nat × Nat)) = (65533, 1) := if_neg (fun e => c ⟨e.2.2.2.1, e.2.2.2.2⟩)
              rw [hD, if_pos (by omega), if_pos rfl]
          · simp [d1, d2, d3]
        · simp [d1, d2]
      · simp [d1]
  rw [dec0 (by omega), show cls b0.toNat = (0, 0, (b0.toNat : Int)) from by rw [cls, if_neg (by omega), if_neg (by omega), if_neg (by omega)]]
  simp
theorem dN_cases {l : List UInt8} (h : l ≠ []) : dN l = (65533, 1) ∨ (∃ b0 t, l = b0 :: t ∧ b0.toNat < 128 ∧ dN l = (b0.toNat, 1)) ∨
    (∃ b0 b1 t, l = b0 :: b1 :: t ∧ (194 ≤ b0.toNat ∧ b0.toNat < 224) ∧ b1.toNat / 64 = 2 ∧ dN l = (b0.toNat % 32 * 64 + b1.toNat % 64, 2)) ∨
    (∃ b0 b1 b2 t, l = b0 :: b1 :: b2 :: t ∧ (224 ≤ b0.toNat ∧ b0.toNat < 240) ∧ b1.toNat / 64 = 2 ∧ b2.toNat / 64 = 2 ∧ 2048 ≤ b0.toNat % 16 * 4096 + b1.toNat % 64 * 64 + b2.toNat % 64 ∧ dN l = (b0.toNat % 16 * 4096 + b1.toNat % 64 * 64 + b2.toNat % 64, 3)) ∨
    (∃ b0 b1 b2 b3 t, l = b0 :: b1 :: b2 :: b3 :: t ∧ (240 ≤ b0.toNat ∧ b0.toNat < 245) ∧ b1.toNat / 64 = 2 ∧ b2.toNat / 64 = 2 ∧ b3.toNat / 64 = 2 ∧ 65536 ≤ b0.toNat % 8 * 262144 + b1.toNat % 64 * 4096 + b2.toNat % 64 * 64 + b3.toNat % 64 ∧ dN l = (b0.toNat % 8 * 262144 + b1.toNat % 64 * 4096 + b2.toNat % 64 * 64 + b3.toNat % 64, 4)) := by
  obtain ⟨b0, t, rfl⟩ := List.exists_cons_of_ne_nil h
  have l0 := b0.toNat_lt
  have e0 : (b0 :: t).getD 0 0 = b0 := rfl
  have e1 : (b0 :: t).getD 1 0 = t.getD 0 0 := rfl
  have e2 : (b0 :: t).getD 2 0 = t.getD 1 0 := rfl
  have e3 : (b0 :: t).getD 3 0 = t.getD 2 0 := rfl
  by_cases c1 : b0.toNat < 128
  · exact .inr (.inl ⟨b0, t, rfl, c1, by rw [dN, e0, dec1 c1]⟩)
  by_cases c2 : 194 ≤ b0.toNat ∧ b0.toNat < 224
  · match t with
    | [] => left; rw [dN, e0, dec2 c2]; simp
    | b1 :: t =>
      by_cases d : b1.toNat / 64 = 2
      · exact .inr (.inr (.inl ⟨b0, b1, t, rfl, c2, d, by rw [dN, e0, dec2 c2, if_pos ⟨by simp, by simpa [e1] using d⟩]; rfl⟩))
      · left; rw [dN, e0, dec2 c2, if_neg (fun e => d (by simpa [e1] using e.2))]
  by_cases c3 : 224 ≤ b0.toNat ∧ b0.toNat < 240
  · match t with
    | [] => left; rw [dN, e0, dec3 c3]; simp
    | [b1] => left; rw [dN, e0, dec3 c3]; simp
    | b1 :: b2 :: t =>
      have g1 : (b0 :: b1 :: b2 :: t).getD 1 0 = b1 := rfl
      have g2 : (b0 :: b1 :: b2 :: t).getD 2 0 = b2 := rfl
      rw [dN, e0, g1, g2, dec3 c3]
      split
      · rename_i hc
        exact .inr (.inr (.inr (.inl ⟨b0, b1, b2, t, rfl, c3, hc.1.2, hc.2.1.2, hc.2.2.1, rfl⟩)))
      · exact .inl rfl
  by_cases c4 : 240 ≤ b0.toNat ∧ b0.toNat < 245
  · match t with
    | [] => left; rw [dN, e0, dec4 c4]; simp
    | [b1] => left; rw [dN, e0, dec4 c4]; simp
    | [b1, b2] => left; rw [dN, e0, dec4 c4]; simp
    | b1 :: b2 :: b3 :: t =>
      have g1 : (b0 :: b1 :: b2 :: b3 :: t).getD 1 0 = b1 := rfl
      have g2 : (b0 :: b1 :: b2 :: b3 :: t).getD 2 0 = b2 := rfl
      have g3 : (b0 :: b1 :: b2 :: b3 :: t).getD 3 0 = b3 := rfl
      rw [dN, e0, g1, g2, g3, dec4 c4]
      split
      · rename_i hc
        exact .inr (.inr (.inr (.inr ⟨b0, b1, b2, b3, t, rfl, c4, hc.1.2, hc.2.1.2, hc.2.2.1.2, hc.2.2.2.1, rfl⟩)))
      · exact .inl rfl
  · left; rw [dN, e0, dec0 (by omega)]
theorem u8_eq {a b : UInt8} (h : a.toNat = b.toNat) : a = b := UInt8.toNat_inj.1 h
theorem dN_inj {l l' : List UInt8} (h : l ≠ []) (h' : l' ≠ []) (n : dN l ≠ (65533, 1)) (n' : dN l' ≠ (65533, 1)) (e : (dN l).1 = (dN l').1) : (dN l).2 = (dN l').2 ∧ l.take (dN l).2 = l'.take (dN l').2 := by
  rcases dN_cases h with c | ⟨a0, t, rfl, q, c⟩ | ⟨a0, a1, t, rfl, q, q1, c⟩ | ⟨a0, a1, a2, t, rfl, q, q1, q2, q3, c⟩ | ⟨a0, a1, a2, a3, t, rfl, q, q1, q2, q3, q4, c⟩
  · exact absurd c n
  all_goals
    rcases dN_cases h' with c' | ⟨b0, t', rfl, p, c'⟩ | ⟨b0, b1, t', rfl, p, p1, c'⟩ | ⟨b0, b1, b2, t', rfl, p, p1, p2, p3, c'⟩ | ⟨b0, b1, b2, b3, t', rfl, p, p1, p2, p3, p4, c'⟩
    · exact absurd c' n'
    all_goals
      rw [c, c'] at e
      simp only at e
      first
        | (exfalso; omega)
        | (rw [c, c']; refine ⟨rfl, ?_⟩; simp only [List.take_succ_cons, List.take_zero, List.cons.injEq, and_true])
  · exact u8_eq e
  · exact ⟨u8_eq (by omega), u8_eq (by omega)⟩
  · exact ⟨u8_eq (by omega), u8_eq (by omega), u8_eq (by omega)⟩
  · exact ⟨u8_eq (by omega), u8_eq (by omega), u8_eq (by omega), u8_eq (by omega)⟩
theorem plain_ok {l : List UInt8} (h : plainR (dN l).1 (dN l).2 = true) : dN l ≠ (65533, 1) := fun e => by
  rw [e] at h; simp [plainR] at h
theorem lets_inj : ∀ (n : Nat) (l l' : List UInt8), l.length ≤ n → keyAll l.length l = true → keyAll l'.length l' = true → lets l = lets l' → l = l'
  | n, l, l', hn, k, k', e => by
    by_cases h : l = []
    · by_cases h' : l' = []
      · rw [h, h']
      · rw [h, lets_nil, lets_cons h'] at e; simp at e
    · by_cases h' : l' = []
      · rw [h', lets_nil, lets_cons h] at e; simp at e
      · rw [lets_cons h, lets_cons h', List.cons.injEq] at e
        rw [keyAll_cons h, Bool.and_eq_true] at k
        rw [keyAll_cons h', Bool.and_eq_true] at k'
        obtain ⟨e1, e2⟩ := dN_inj h h' (plain_ok k.1) (plain_ok k'.1) (by omega)
        have hd := drop_lt h
        have hl : 0 < l.length := List.length_pos_iff.2 h
        have e3 := lets_inj (n - 1) _ _ (by omega) k.2 k'.2 e.2
        rw [← List.take_append_drop (dN l).2 l, ← List.take_append_drop (dN l').2 l', e2, e3]
  termination_by n => n
def cmpL : List Int → List Int → Int
  | [], [] => 0
  | [], _ :: _ => -1
  | _ :: _, [] => 1
  | a :: l, b :: k => if a < b then -1 else if b < a then 1 else cmpL l k
theorem cmpL_val : ∀ (a b : List Int), cmpL a b = -1 ∨ cmpL a b = 0 ∨ cmpL a b = 1
  | [], [] => by simp [cmpL]
  | [], _ :: _ => by simp [cmpL]
  | _ :: _, [] => by simp [cmpL]
  | a :: l, b :: k => by
    simp only [cmpL]
    split
    · simp
    · split
      · simp
      · exact cmpL_val l k
theorem cmpL_eq : ∀ (a b : List Int), cmpL a b = 0 → a = b
  | [], [], _ => rfl
  | [], _ :: _, h => by simp [cmpL] at h
  | _ :: _, [], h => by simp [cmpL] at h
  | a :: l, b :: k, h => by
    simp only [cmpL] at h
    split at h
    · simp at h
    · split at h
      · simp at h
      · have := cmpL_eq l k h
        have : a = b := by omega
        simp_all
theorem cmpL_rfl : ∀ (a : List Int), cmpL a a = 0
  | [] => rfl
  | a :: l => by simp [cmpL, cmpL_rfl l]
theorem cmpL_lt' {a b : Int} {l k : List Int} (h : a < b) : cmpL (a :: l) (b :: k) = -1 := by simp [cmpL, h]
theorem cmpL_gt' {a b : Int} {l k : List Int} (h : b < a) : cmpL (a :: l) (b :: k) = 1 := by
  have : ¬ a < b := by omega
  simp [cmpL, h, this]
theorem cmpL_eq' {a : Int} {l k : List Int} : cmpL (a :: l) (a :: k) = cmpL l k := by simp [cmpL]
theorem cmpL_tr : ∀ (a b c : List Int), cmpL a b ≤ 0 → cmpL b c ≤ 0 → cmpL a c ≤ 0 ∧ (cmpL a b < 0 ∨ cmpL b c < 0 → cmpL a c < 0)
  | [], [], c, h1, h2 => by
    have : cmpL [] [] = 0 := rfl
    omega
  | [], _ :: _, [], h1, h2 => by simp [cmpL] at h2
  | [], _ :: _, _ :: _, h1, h2 => by simp [cmpL]
  | _ :: _, [], _, h1, h2 => by simp [cmpL] at h1
  | a :: l, b :: k, [], h1, h2 => by simp [cmpL] at h2
  | a :: l, b :: k, c :: m, h1, h2 => by
    have ih := cmpL_tr l k m
    rcases Int.lt_trichotomy a b with p | p | p
    · rw [cmpL_lt' p] at h1 ⊢
      rcases Int.lt_trichotomy b c with q | q | q
      · rw [cmpL_lt' (show a < c by omega)]; omega
      · rw [cmpL_lt' (show a < c by omega)]; omega
      · rw [cmpL_gt' q] at h2; omega
    · subst p
      rw [cmpL_eq'] at h1 ⊢
      rcases Int.lt_trichotomy a c with q | q | q
      · rw [cmpL_lt' q]; omega
      · subst q
        rw [cmpL_eq'] at h2 ⊢
        rw [cmpL_eq']
        exact ih h1 h2
      · rw [cmpL_gt' q] at h2; omega
    · rw [cmpL_gt' p] at h1; omega
end Sg
namespace Sg
open _root_.Go (IntKind BinOp UnOp)
set_option linter.unusedSimpArgs false
set_option linter.unusedVariables false
set_option maxRecDepth 10000
variable {Pg : Nat → Option Fn}
@[go_sem] theorem idx_0 {b : UInt8} {t : List UInt8} {k : IntKind} : idxV (.str (b :: t)) (.int k 0) = some (.int .u8 b.toNat) := rfl
@[go_sem high] theorem sl_str {s : List UInt8} {z : Nat} {k : IntKind} {n : Nat} (h : n ≤ s.length) : slV true z (.str s) (some (.int k (n : Int))) none = some (.str (s.drop n)) := by
  simp [slV, bound, h]
def H191 (Pg : Nat → Option Fn) : Prop := Pg 191 = some (.code F191)
theorem K191 (h : H191 Pg) (r n : Int) : K' Pg 191 [.int .i32 r, .int .i64 n] = some (.bool (plainR r n)) := by
  refine K'_code h rfl ?_
  simp only [go_sem]
  cases c1 : decide (33 ≤ r) <;> cases c2 : decide (r < 127) <;> cases c3 : decide (159 < r) <;> cases c4 : decide (r = 65533) <;> cases c5 : decide (n = 3) <;>
    simp only [go_sem, plainR, c1, c2, c3, c4, c5]
def H190 (Pg : Nat → Option Fn) : Prop := Pg 190 = some (.prim none decQ)
theorem K190 (h : H190 Pg) (s : List UInt8) : K' Pg 190 [.str s] = some (.tuple [.int .i32 (decL s).1, .int .i64 (decL s).2]) := by
  rw [K'_prim h]; rfl
def H170 (Pg : Nat → Option Fn) : Prop := Pg 170 = some (.prim none keyQ)
theorem K170 (h : H170 Pg) (s : List UInt8) : K' Pg 170 [.str s] = some (.bool (keyR s)) := by
  rw [K'_prim h]; rfl
def plainC (c : Int) : Bool := decide (32 < c) && (!decide (c = 127) && (decide (c < 128) || decide (159 < c)))
def H189 (Pg : Nat → Option Fn) : Prop := Pg 189 = some (.code F189)
theorem K189 (h : H189 Pg) (c : Int) : K' Pg 189 [iz c] = some (.bool (plainC c)) := by
  refine K'_code h rfl ?_
  simp only [go_sem]
  cases c1 : decide (32 < c) <;> cases c2 : decide (c = 127) <;> cases c3 : decide (c < 128) <;> cases c4 : decide (159 < c) <;>
    simp only [go_sem, plainC, c1, c2, c3, c4]
theorem plain_eq {l : List UInt8} (h : l ≠ []) : plainC (letS l).1 = plainR (dN l).1 (dN l).2 := by
  rw [letS_dN h]
  by_cases c : dN l = (65533, 1)
  · rw [if_pos c, c]; decide
  · rw [if_neg c]
    simp only [plainC, plainR]
    have c65 : (dN l).1 = 65533 → (dN l).2 = 3 := fun e => by
      rcases dN_cases h with x | ⟨a0, t, rfl, q, x⟩ | ⟨a0, a1, t, rfl, q, q1, x⟩ | ⟨a0, a1, a2, t, rfl, q, q1, q2, q3, x⟩ | ⟨a0, a1, a2, a3, t, rfl, q, q1, q2, q3, q4, x⟩
      · exact absurd x c
      all_goals (rw [x] at e ⊢; try (simp only at e ⊢; try omega))
    generalize (dN l).1 = r at c65 ⊢
    generalize (dN l).2 = n at c65 ⊢
    rw [Bool.eq_iff_iff]
    simp only [Bool.and_eq_true, Bool.or_eq_true, decide_eq_true_eq, Bool.not_eq_true', decide_eq_false_iff_not]
    omega
@[go_sem] def eLN (x : Int × Int) : V := .tuple [iz x.1, iz x.2]
def H188 (Pg : Nat → Option Fn) : Prop := Pg 188 = some (.code F188)
theorem contV_snoc : ∀ {l : List UInt8} {a : Int} {b : UInt8}, contV a (l ++ [b]) = (contV a l).bind fun v => if b.toNat < 128 ∨ 191 < b.toNat then none else some (64 * v + b.toNat - 128)
  | [], a, b => by simp [contV]
  | c :: l, a, b => by
    simp only [contV, List.cons_append]
    split
    · rfl
    · exact contV_snoc
theorem contV_none : ∀ {l k : List UInt8} {a : Int}, contV a l = none → contV a (l ++ k) = none
  | [], k, a, h => by simp [contV] at h
  | c :: l, k, a, h => by
    simp only [contV, List.cons_append] at h ⊢
    split
    · rfl
    · rename_i hc
      rw [if_neg hc] at h
      exact contV_none h
theorem K188 (h : H188 Pg) (s : List UInt8) (hs : s ≠ []) : K' Pg 188 [.str s] = some (eLN (letS s)) := by
  refine K'_code h rfl ?_
  obtain ⟨b0, t, rfl⟩ := List.exists_cons_of_ne_nil hs
  have l0 := b0.toNat_lt
  have w8 : IntKind.i64.wrap (b0.toNat : Int) = b0.toNat := wrap64 (by omega) (by omega)
  have w192 : IntKind.i64.wrap ((b0.toNat : Int) - 192) = b0.toNat - 192 := wrap64 (by omega) (by omega)
  have w224 : IntKind.i64.wrap ((b0.toNat : Int) - 224) = b0.toNat - 224 := wrap64 (by omega) (by omega)
  have w240 : IntKind.i64.wrap ((b0.toNat : Int) - 240) = b0.toNat - 240 := wrap64 (by omega) (by omega)
  simp only [go_sem, w8]
  refine wpc_i (fun c1 => ?_) (fun c1 => ?_)
  · have c1 := of_decide_eq_true c1
    have e : letS (b0 :: t) = ((b0.toNat : Int), (1 : Int)) := by simp only [letS]; rw [if_pos (by omega)]
    rw [e]
    simp only [go_sem]
  have c1 := of_decide_eq_false c1
  have eS : letS (b0 :: t) = if (cls b0.toNat).1 = 0 ∨ (b0 :: t).length < (cls b0.toNat).1 then (-1, 1) else
      match contV (cls b0.toNat).2.2 (t.take ((cls b0.toNat).1 - 1)) with
      | none => (-1, 1)
      | some v => if v < (cls b0.toNat).2.1 ∨ 1114111 < v ∨ (55296 ≤ v ∧ v < 57344) then (-1, 1) else (v, ((cls b0.toNat).1 : Int)) := by
    simp only [letS]; rw [if_neg (by omega)] <;> rfl
  simp only [go_sem]
  cases c2 : decide (194 ≤ (b0.toNat : Int)) with
  | false =>
    have hcl : cls b0.toNat = (0, 0, (b0.toNat : Int)) := by
      have := of_decide_eq_false c2
      rw [cls, if_neg (by omega), if_neg (by omega), if_neg (by omega)]
    have d2 : decide (224 ≤ (b0.toNat : Int)) = false := decide_eq_false (by have := of_decide_eq_false c2; omega)
    have d3 : decide (240 ≤ (b0.toNat : Int)) = false := decide_eq_false (by have := of_decide_eq_false c2; omega)
    rw [hcl, if_pos (.inl rfl)] at eS
    rw [eS]
    simp only [go_sem, c2, d2, d3, w8]
  | true =>
  have c2' := of_decide_eq_true c2
  simp only [go_sem, c2, w8]
  refine wpc_i (fun c3 => ?_) (fun c3 => ?_)
  · have c3 := of_decide_eq_true c3
    have hcl : cls b0.toNat = (2, 128, (b0.toNat : Int) - 192) := if_pos (by omega)
    simp only [go_sem, w192]
    rw [hcl] at eS
    simp only at eS
    refine wpc_i (fun c5 => ?_) (fun c5 => ?_)
    · have c5 := of_decide_eq_true c5
      rw [if_pos (.inr (by simp only [List.length_cons]; omega))] at eS
      rw [eS]
      simp only [go_sem]
    have c5 := of_decide_eq_false c5
    have c5 : 2 ≤ t.length + 1 := by omega
    rw [if_neg (by simp only [List.length_cons]; omega)] at eS
    simp only [go_sem]
    unfold l188_0
    refine wp_lp (fun (i : Nat) S => (1 ≤ i ∧ i ≤ 2) ∧ S.ρ 0 = .str (b0 :: t) ∧ S.ρ 5 = iz 2 ∧ S.ρ 6 = iz 128 ∧ S.ρ 7 = iz i ∧ ∃ v, S.ρ 4 = iz v ∧ contV ((b0.toNat : Int) - 192) (t.take (i - 1)) = some v ∧ 0 ≤ v ∧ v < 64 ^ i) (fun i => 2 - i) 1 ?_ ?_
    · simp [go_sem, contV]; omega
    · intro i S ⟨hi, h0, h5, h6, h7, v, h4, hv, v0, v1⟩
      have v2 : v < 16777216 := by
        have : i = 1 ∨ i = 2 ∨ i = 3 ∨ i = 4 := by omega
        rcases this with rfl | rfl | rfl | rfl <;> simp at v1 <;> omega
      simp only [go_sem, h0, h4, h5, h6, h7]
      refine wpc_i (fun h => ?_) (fun h => ?_)
      · have h : i < 2 := by have := of_decide_eq_true h; omega
        obtain ⟨b, hb⟩ : ∃ b, (b0 :: t)[i]? = some b := ⟨_, List.getElem?_eq_getElem (by simp only [List.length_cons]; omega)⟩
        have hb' : t[i - 1]? = some b := by
          obtain ⟨k, rfl⟩ : ∃ k, i = k + 1 := ⟨i - 1, by omega⟩
          simpa using hb
        have lb := b.toNat_lt
        have hts : t.take (i + 1 - 1) = t.take (i - 1) ++ [b] := by
          have := take_s hb'
          rwa [show i - 1 + 1 = i + 1 - 1 by omega] at this
        have hsn := contV_snoc (l := t.take (i - 1)) (a := ((b0.toNat : Int) - 192)) (b := b)
        rw [hv, Option.bind_some, ← hts] at hsn
        have wb : IntKind.i64.wrap (b.toNat : Int) = b.toNat := wrap64 (by omega) (by omega)
        have w1 : IntKind.i64.wrap (64 * v) = 64 * v := wrap64 (by omega) (by omega)
        have w2 : IntKind.i64.wrap (64 * v + b.toNat) = 64 * v + b.toNat := wrap64 (by omega) (by omega)
        have w3 : IntKind.i64.wrap (64 * v + b.toNat - 128) = 64 * v + b.toNat - 128 := wrap64 (by omega) (by omega)
        have bad : (b.toNat < 128 ∨ 191 < b.toNat) → letS (b0 :: t) = (-1, 1) := fun hbad => by
          rw [if_pos hbad] at hsn
          have : contV ((b0.toNat : Int) - 192) (t.take (2 - 1)) = none := by
            have e : t.take (2 - 1) = t.take (i + 1 - 1) ++ (t.take (2 - 1)).drop (i + 1 - 1) := by
              have := List.take_append_drop (i + 1 - 1) (t.take (2 - 1))
              rw [List.take_take, Nat.min_eq_left (by omega)] at this
              exact this.symm
            rw [e]
            exact contV_none hsn
          rw [eS, this]
        simp only [go_sem, h0, h4, h5, h6, h7, hb]
        cases d1 : decide ((b.toNat : Int) < 128) with
        | true =>
          have := bad (.inl (by have := of_decide_eq_true d1; omega))
          rw [this]
          simp only [go_sem, d1, h0, h4, h5, h6, h7, hb]
        | false =>
          have d1' := of_decide_eq_false d1
          simp only [go_sem, d1, h0, h4, h5, h6, h7, hb]
          refine wpc_i (fun d2 => ?_) (fun d2 => ?_)
          · have := bad (.inr (by have := of_decide_eq_true d2; omega))
            rw [this]
            simp only [go_sem]
          · have d2' := of_decide_eq_false d2
            rw [if_neg (by omega)] at hsn
            simp only [go_sem, h0, h4, h5, h6, h7, hb, wb, w1, w2, w3]
            refine ⟨i + 1, by omega, by omega, by rw [inc64 h (by omega)], _, rfl, hsn, by omega, ?_⟩
            rw [Int.pow_succ]; omega
      · have h : i = 2 := by have := of_decide_eq_false h; omega
        subst h
        have hv : contV ((b0.toNat : Int) - 192) (t.take (2 - 1)) = some v := hv
        rw [hv] at eS
        simp only at eS
        simp only [go_sem, h0, h4, h5, h6, h7]
        cases f1 : decide (v < 128) with
        | true =>
          rw [if_pos (.inl (of_decide_eq_true f1))] at eS
          rw [eS]
          simp only [go_sem, f1, h0, h4, h5, h6, h7]
        | false =>
        cases f2 : decide (1114111 < v) with
        | true =>
          rw [if_pos (.inr (.inl (of_decide_eq_true f2)))] at eS
          rw [eS]
          simp only [go_sem, f1, f2, h0, h4, h5, h6, h7]
        | false =>
        have f1' := of_decide_eq_false f1
        have f2' := of_decide_eq_false f2
        cases f3 : decide (55296 ≤ v) with
        | false =>
          rw [if_neg (by have := of_decide_eq_false f3; omega)] at eS
          rw [eS]
          simp only [go_sem, f1, f2, f3, h0, h4, h5, h6, h7]
        | true =>
        cases f4 : decide (v < 57344) with
        | true =>
          rw [if_pos (.inr (.inr ⟨of_decide_eq_true f3, of_decide_eq_true f4⟩))] at eS
          rw [eS]
          simp only [go_sem, f1, f2, f3, f4, h0, h4, h5, h6, h7]
        | false =>
          rw [if_neg (by have := of_decide_eq_false f4; omega)] at eS
          rw [eS]
          simp only [go_sem, f1, f2, f3, f4, h0, h4, h5, h6, h7]
  have c3 := of_decide_eq_false c3
  have d2 : decide (224 ≤ (b0.toNat : Int)) = true := decide_eq_true (by omega)
  simp only [go_sem, d2]
  refine wpc_i (fun c4 => ?_) (fun c4 => ?_)
  · have c4 := of_decide_eq_true c4
    have hcl : cls b0.toNat = (3, 2048, (b0.toNat : Int) - 224) := by rw [cls, if_neg (by omega), if_pos (by omega)]
    simp only [go_sem, w224]
    rw [hcl] at eS
    simp only at eS
    refine wpc_i (fun c5 => ?_) (fun c5 => ?_)
    · have c5 := of_decide_eq_true c5
      rw [if_pos (.inr (by simp only [List.length_cons]; omega))] at eS
      rw [eS]
      simp only [go_sem]
    have c5 := of_decide_eq_false c5
    have c5 : 3 ≤ t.length + 1 := by omega
    rw [if_neg (by simp only [List.length_cons]; omega)] at eS
    simp only [go_sem]
    unfold l188_0
    refine wp_lp (fun (i : Nat) S => (1 ≤ i ∧ i ≤ 3) ∧ S.ρ 0 = .str (b0 :: t) ∧ S.ρ 5 = iz 3 ∧ S.ρ 6 = iz 2048 ∧ S.ρ 7 = iz i ∧ ∃ v, S.ρ 4 = iz v ∧ contV ((b0.toNat : Int) - 224) (t.take (i - 1)) = some v ∧ 0 ≤ v ∧ v < 64 ^ i) (fun i => 3 - i) 1 ?_ ?_
    · simp [go_sem, contV]; omega
    · intro i S ⟨hi, h0, h5, h6, h7, v, h4, hv, v0, v1⟩
      have v2 : v < 16777216 := by
        have : i = 1 ∨ i = 2 ∨ i = 3 ∨ i = 4 := by omega
        rcases this with rfl | rfl | rfl | rfl <;> simp at v1 <;> omega
      simp only [go_sem, h0, h4, h5, h6, h7]
      refine wpc_i (fun h => ?_) (fun h => ?_)
      · have h : i < 3 := by have := of_decide_eq_true h; omega
        obtain ⟨b, hb⟩ : ∃ b, (b0 :: t)[i]? = some b := ⟨_, List.getElem?_eq_getElem (by simp only [List.length_cons]; omega)⟩
        have hb' : t[i - 1]? = some b := by
          obtain ⟨k, rfl⟩ : ∃ k, i = k + 1 := ⟨i - 1, by omega⟩
          simpa using hb
        have lb := b.toNat_lt
        have hts : t.take (i + 1 - 1) = t.take (i - 1) ++ [b] := by
          have := take_s hb'
          rwa [show i - 1 + 1 = i + 1 - 1 by omega] at this
        have hsn := contV_snoc (l := t.take (i - 1)) (a := ((b0.toNat : Int) - 224)) (b := b)
        rw [hv, Option.bind_some, ← hts] at hsn
        have wb : IntKind.i64.wrap (b.toNat : Int) = b.toNat := wrap64 (by omega) (by omega)
        have w1 : IntKind.i64.wrap (64 * v) = 64 * v := wrap64 (by omega) (by omega)
        have w2 : IntKind.i64.wrap (64 * v + b.toNat) = 64 * v + b.toNat := wrap64 (by omega) (by omega)
        have w3 : IntKind.i64.wrap (64 * v + b.toNat - 128) = 64 * v + b.toNat - 128 := wrap64 (by omega) (by omega)
        have bad : (b.toNat < 128 ∨ 191 < b.toNat) → letS (b0 :: t) = (-1, 1) := fun hbad => by
          rw [if_pos hbad] at hsn
          have : contV ((b0.toNat : Int) - 224) (t.take (3 - 1)) = none := by
            have e : t.take (3 - 1) = t.take (i + 1 - 1) ++ (t.take (3 - 1)).drop (i + 1 - 1) := by
              have := List.take_append_drop (i + 1 - 1) (t.take (3 - 1))
              rw [List.take_take, Nat.min_eq_left (by omega)] at this
              exact this.symm
            rw [e]
            exact contV_none hsn
          rw [eS, this]
        simp only [go_sem, h0, h4, h5, h6, h7, hb]
        cases d1 : decide ((b.toNat : Int) < 128) with
        | true =>
          have := bad (.inl (by have := of_decide_eq_true d1; omega))
          rw [this]
          simp only [go_sem, d1, h0, h4, h5, h6, h7, hb]
        | false =>
          have d1' := of_decide_eq_false d1
          simp only [go_sem, d1, h0, h4, h5, h6, h7, hb]
          refine wpc_i (fun d2 => ?_) (fun d2 => ?_)
          · have := bad (.inr (by have := of_decide_eq_true d2; omega))
            rw [this]
            simp only [go_sem]
          · have d2' := of_decide_eq_false d2
            rw [if_neg (by omega)] at hsn
            simp only [go_sem, h0, h4, h5, h6, h7, hb, wb, w1, w2, w3]
            refine ⟨i + 1, by omega, by omega, by rw [inc64 h (by omega)], _, rfl, hsn, by omega, ?_⟩
            rw [Int.pow_succ]; omega
      · have h : i = 3 := by have := of_decide_eq_false h; omega
        subst h
        have hv : contV ((b0.toNat : Int) - 224) (t.take (3 - 1)) = some v := hv
        rw [hv] at eS
        simp only at eS
        simp only [go_sem, h0, h4, h5, h6, h7]
        cases f1 : decide (v < 2048) with
        | true =>
          rw [if_pos (.inl (of_decide_eq_true f1))] at eS
          rw [eS]
          simp only [go_sem, f1, h0, h4, h5, h6, h7]
        | false =>
        cases f2 : decide (1114111 < v) with
        | true =>
          rw [if_pos (.inr (.inl (of_decide_eq_true f2)))] at eS
          rw [eS]
          simp only [go_sem, f1, f2, h0, h4, h5, h6, h7]
        | false =>
        have f1' := of_decide_eq_false f1
        have f2' := of_decide_eq_false f2
        cases f3 : decide (55296 ≤ v) with
        | false =>
          rw [if_neg (by have := of_decide_eq_false f3; omega)] at eS
          rw [eS]
          simp only [go_sem, f1, f2, f3, h0, h4, h5, h6, h7]
        | true =>
        cases f4 : decide (v < 57344) with
        | true =>
          rw [if_pos (.inr (.inr ⟨of_decide_eq_true f3, of_decide_eq_true f4⟩))] at eS
          rw [eS]
          simp only [go_sem, f1, f2, f3, f4, h0, h4, h5, h6, h7]
        | false =>
          rw [if_neg (by have := of_decide_eq_false f4; omega)] at eS
          rw [eS]
          simp only [go_sem, f1, f2, f3, f4, h0, h4, h5, h6, h7]
  have c4 := of_decide_eq_false c4
  have d3 : decide (240 ≤ (b0.toNat : Int)) = true := decide_eq_true (by omega)
  simp only [go_sem, d3]
  refine wpc_i (fun c6 => ?_) (fun c6 => ?_)
  · have c6 := of_decide_eq_true c6
    have hcl : cls b0.toNat = (4, 65536, (b0.toNat : Int) - 240) := by rw [cls, if_neg (by omega), if_neg (by omega), if_pos (by omega)]
    simp only [go_sem, w240]
    rw [hcl] at eS
    simp only at eS
    refine wpc_i (fun c5 => ?_) (fun c5 => ?_)
    · have c5 := of_decide_eq_true c5
      rw [if_pos (.inr (by simp only [List.length_cons]; omega))] at eS
      rw [eS]
      simp only [go_sem]
    have c5 := of_decide_eq_false c5
    have c5 : 4 ≤ t.length + 1 := by omega
    rw [if_neg (by simp only [List.length_cons]; omega)] at eS
    simp only [go_sem]
    unfold l188_0
    refine wp_lp (fun (i : Nat) S => (1 ≤ i ∧ i ≤ 4) ∧ S.ρ 0 = .str (b0 :: t) ∧ S.ρ 5 = iz 4 ∧ S.ρ 6 = iz 65536 ∧ S.ρ 7 = iz i ∧ ∃ v, S.ρ 4 = iz v ∧ contV ((b0.toNat : Int) - 240) (t.take (i - 1)) = some v ∧ 0 ≤ v ∧ v < 64 ^ i) (fun i => 4 - i) 1 ?_ ?_
    · simp [go_sem, contV]; omega
    · intro i S ⟨hi, h0, h5, h6, h7, v, h4, hv, v0, v1⟩
      have v2 : v < 16777216 := by
        have : i = 1 ∨ i = 2 ∨ i = 3 ∨ i = 4 := by omega
        rcases this with rfl | rfl | rfl | rfl <;> simp at v1 <;> omega
      simp only [go_sem, h0, h4, h5, h6, h7]
      refine wpc_i (fun h => ?_) (fun h => ?_)
      · have h : i < 4 := by have := of_decide_eq_true h; omega
        obtain ⟨b, hb⟩ : ∃ b, (b0 :: t)[i]? = some b := ⟨_, List.getElem?_eq_getElem (by simp only [List.length_cons]; omega)⟩
        have hb' : t[i - 1]? = some b := by
          obtain ⟨k, rfl⟩ : ∃ k, i = k + 1 := ⟨i - 1, by omega⟩
          simpa using hb
        have lb := b.toNat_lt
        have hts : t.take (i + 1 - 1) = t.take (i - 1) ++ [b] := by
          have := take_s hb'
          rwa [show i - 1 + 1 = i + 1 - 1 by omega] at this
        have hsn := contV_snoc (l := t.take (i - 1)) (a := ((b0.toNat : Int) - 240)) (b := b)
        rw [hv, Option.bind_some, ← hts] at hsn
        have wb : IntKind.i64.wrap (b.toNat : Int) = b.toNat := wrap64 (by omega) (by omega)
        have w1 : IntKind.i64.wrap (64 * v) = 64 * v := wrap64 (by omega) (by omega)
        have w2 : IntKind.i64.wrap (64 * v + b.toNat) = 64 * v + b.toNat := wrap64 (by omega) (by omega)
        have w3 : IntKind.i64.wrap (64 * v + b.toNat - 128) = 64 * v + b.toNat - 128 := wrap64 (by omega) (by omega)
        have bad : (b.toNat < 128 ∨ 191 < b.toNat) → letS (b0 :: t) = (-1, 1) := fun hbad => by
          rw [if_pos hbad] at hsn
          have : contV ((b0.toNat : Int) - 240) (t.take (4 - 1)) = none := by
            have e : t.take (4 - 1) = t.take (i + 1 - 1) ++ (t.take (4 - 1)).drop (i + 1 - 1) := by
              have := List.take_append_drop (i + 1 - 1) (t.take (4 - 1))
              rw [List.take_take, Nat.min_eq_left (by omega)] at this
              exact this.symm
            rw [e]
            exact contV_none hsn
          rw [eS, this]
        simp only [go_sem, h0, h4, h5, h6, h7, hb]
        cases d1 : decide ((b.toNat : Int) < 128) with
        | true =>
          have := bad (.inl (by have := of_decide_eq_true d1; omega))
          rw [this]
          simp only [go_sem, d1, h0, h4, h5, h6, h7, hb]
        | false =>
          have d1' := of_decide_eq_false d1
          simp only [go_sem, d1, h0, h4, h5, h6, h7, hb]
          refine wpc_i (fun d2 => ?_) (fun d2 => ?_)
          · have := bad (.inr (by have := of_decide_eq_true d2; omega))
            rw [this]
            simp only [go_sem]
          · have d2' := of_decide_eq_false d2
            rw [if_neg (by omega)] at hsn
            simp only [go_sem, h0, h4, h5, h6, h7, hb, wb, w1, w2, w3]
            refine ⟨i + 1, by omega, by omega, by rw [inc64 h (by omega)], _, rfl, hsn, by omega, ?_⟩
            rw [Int.pow_succ]; omega
      · have h : i = 4 := by have := of_decide_eq_false h; omega
        subst h
        have hv : contV ((b0.toNat : Int) - 240) (t.take (4 - 1)) = some v := hv
        rw [hv] at eS
        simp only at eS
        simp only [go_sem, h0, h4, h5, h6, h7]
        cases f1 : decide (v < 65536) with
        | true =>
          rw [if_pos (.inl (of_decide_eq_true f1))] at eS
          rw [eS]
          simp only [go_sem, f1, h0, h4, h5, h6, h7]
        | false =>
        cases f2 : decide (1114111 < v) with
        | true =>
          rw [if_pos (.inr (.inl (of_decide_eq_true f2)))] at eS
          rw [eS]
          simp only [go_sem, f1, f2, h0, h4, h5, h6, h7]
        | false =>
        have f1' := of_decide_eq_false f1
        have f2' := of_decide_eq_false f2
        cases f3 : decide (55296 ≤ v) with
        | false =>
          rw [if_neg (by have := of_decide_eq_false f3; omega)] at eS
          rw [eS]
          simp only [go_sem, f1, f2, f3, h0, h4, h5, h6, h7]
        | true =>
        cases f4 : decide (v < 57344) with
        | true =>
          rw [if_pos (.inr (.inr ⟨of_decide_eq_true f3, of_decide_eq_true f4⟩))] at eS
          rw [eS]
          simp only [go_sem, f1, f2, f3, f4, h0, h4, h5, h6, h7]
        | false =>
          rw [if_neg (by have := of_decide_eq_false f4; omega)] at eS
          rw [eS]
          simp only [go_sem, f1, f2, f3, f4, h0, h4, h5, h6, h7]
  have c6 := of_decide_eq_false c6
  have hcl : cls b0.toNat = (0, 0, (b0.toNat : Int)) := by rw [cls, if_neg (by omega), if_neg (by omega), if_neg (by omega)]
  rw [hcl, if_pos (.inl rfl)] at eS
  rw [eS]
  simp only [go_sem]
end Sg
namespace Sg
open _root_.Go _root_.Go.RowKit _root_.Go.Proofs
set_option linter.unusedSimpArgs false
set_option linter.unusedVariables false
def plainFm : List (Nat × Nat) := [(191, 54)]
theorem okPlain : okF Tryd.prog (cxU plainFm) (onePg 191 F191) 54 F191 = true := by kernel_rfl
theorem plain_walk (r n : Int) (w : World) (hgn : 2 ≤ w.heap.size) (hT : Lib.Utf8Tabs 0 1 w) :
    Calls Tryd.prog 54 #[.int .i32 r, .int .i64 n] w fun e w' => e = .returned (.bool (plainR r n)) ∧ Below w.heap.size w w' := by
  have hk : K' (onePg 191 F191) 191 [.int .i32 r, .int .i64 n] = some (.bool (plainR r n)) := K191 (by simp [H191, onePg]) r n
  obtain ⟨m, hm⟩ := K'_iff.1 hk
  have hc := callN_sound (P := Tryd.prog) (cx := cxU plainFm) (Pg := onePg 191 F191) (by kernel_rfl) (fun f F hF => by
      unfold onePg at hF
      split at hF <;> simp only [Option.some.injEq, Fn.code.injEq, reduceCtorEq] at hF
      rename_i e; subst e; subst hF; exact okPlain) (fun f own p hp => by
      unfold onePg at hp
      split at hp <;> simp at hp) (fun f z p _ hp => by
      unfold onePg at hp
      split at hp <;> simp at hp) (fun f z p hp => by
      unfold onePg at hp
      split at hp <;> simp at hp) m 191 _ _ hm
  refine (hc.2 w (fun _ => False) #[.int .i32 r, .int .i64 n] (fun b hb => hb.elim) hgn hT rfl (fun i hi => by
    match i, hi with
    | 0, _ => exact ⟨_, rfl, .int _ _⟩
    | 1, _ => exact ⟨_, rfl, .int _ _⟩
    | k + 2, hi => exact absurd hi (by simp))).mono fun e w' ⟨v, he, hb, hr⟩ => ?_
  have hr := hr.data (fun b hb => hb.elim)
  cases hr
  exact ⟨he, hb⟩
theorem decCt (l : List (Nat × Nat)) (id : Nat) (h : (cxU l).fm id = 53) : ∀ args r, decQ args = some r → Ctr Tryd.prog (cxU l) none id args r :=
  dec_ctr (by rw [h]; exact ⟨_, Tryd.func53, by kernel_rfl, by kernel_rfl⟩) fun s w hG => by rw [h]; exact dec_walk s w hG
theorem keyCt (l : List (Nat × Nat)) (id : Nat) (h : (cxU l).fm id = 33) : ∀ args r, keyQ args = some r → Ctr Tryd.prog (cxU l) none id args r :=
  key_ctr (by rw [h]; exact ⟨_, Tryd.func33, by kernel_rfl, by kernel_rfl⟩) fun s w hgn hG => by rw [h]; exact key_walk s w hgn hG plain_walk
end Sg
namespace Sg
open Go Go.RowKit
set_option linter.unusedSimpArgs false
set_option linter.unusedVariables false
inductive CT where
  | bool
  | int (k : IntKind)
  | str
  | slice (r : List CT)
  deriving Inhabited
abbrev gt (r : List CT) (j : Nat) : CT := r.getD j .bool
inductive Has : CT → V → Prop
  | bool (b) : Has .bool (.bool b)
  | int (k n) (h : (Lit.int k n).wf = true) : Has (.int k) (.int k n)
  | str (s) (h : s.length ≤ maxLen) : Has .str (.str s)
  | slice (r : List CT) (rows : List (List V)) (hl : rows.length ≤ maxLen) (hz : ∀ i, i < rows.length → (gr rows i).length = r.length)
      (h : ∀ i j, i < rows.length → j < r.length → Has (gt r j) (gv (gr rows i) j)) : Has (.slice r) (.slice r.length rows)
section
variable (P : Program)
def rowFs (g : TypeId → Option (List CT)) : List Field → Nat → Option (List CT)
  | [], _ => some []
  | f :: fs, o => if f.offset = o then (g f.type).bind fun r => if szT P f.type = some r.length then (rowFs g fs (o + r.length)).bind fun rs => some (r ++ rs) else none else none
def rowT : Nat → TypeId → Option (List CT)
  | 0, _ => none
  | n + 1, t => match P.underlying t with
    | some .bool => some [.bool]
    | some (.int k) => some [.int k]
    | some .string => some [.str]
    | some (.slice e) => (rowT n e).bind fun r => if szT P e = some r.length ∧ r.length ≠ 0 then some [.slice r] else none
    | some (.struct fs) => (rowFs P (rowT n) fs.toList 0).bind fun r => if szT P t = some r.length then some r else none
    | _ => none
end
section
variable {P : Program} {cx : Cx} {w : World} {X : Nat → Prop}
def Row (cx : Cx) (w : World) (X : Nat → Prop) (r : List CT) (f : Nat → Option Value) (xs : List V) : Prop :=
  xs.length = r.length ∧ ∀ j, j < r.length → ∃ u, f j = some u ∧ u.oneCell' = true ∧ RelD cx w X u (gv xs j) ∧ Has (gt r j) (gv xs j)
theorem Row.append {r1 r2 : List CT} {f : Nat → Option Value} {xs ys : List V} (h1 : Row cx w X r1 f xs) (h2 : Row cx w X r2 (fun j => f (r1.length + j)) ys) : Row cx w X (r1 ++ r2) f (xs ++ ys) := by
  refine ⟨by simp [h1.1, h2.1], fun j hj => ?_⟩
  simp only [List.length_append] at hj
  by_cases hlt : j < r1.length
  · obtain ⟨u, a, b, c, d⟩ := h1.2 j hlt
    refine ⟨u, a, b, ?_, ?_⟩
    · rw [show gv (xs ++ ys) j = gv xs j from by simp [gv, List.getD_eq_getElem?_getD, List.getElem?_append_left (by rw [h1.1]; exact hlt)]]; exact c
    · rw [show gv (xs ++ ys) j = gv xs j from by simp [gv, List.getD_eq_getElem?_getD, List.getElem?_append_left (by rw [h1.1]; exact hlt)],
        show gt (r1 ++ r2) j = gt r1 j from by simp [gt, List.getD_eq_getElem?_getD, List.getElem?_append_left hlt]]; exact d
  · obtain ⟨u, a, b, c, d⟩ := h2.2 (j - r1.length) (by omega)
    have e : r1.length + (j - r1.length) = j := by omega
    simp only [e] at a
    have g1 : gv (xs ++ ys) j = gv ys (j - r1.length) := by
      simp only [gv, List.getD_eq_getElem?_getD]; rw [List.getElem?_append_right (by rw [h1.1]; omega), h1.1]
    have g2 : gt (r1 ++ r2) j = gt r2 (j - r1.length) := by
      simp only [gt, List.getD_eq_getElem?_getD]; rw [List.getElem?_append_right (by omega)]
    exact ⟨u, a, b, by rw [g1]; exact c, by rw [g1, g2]; exact d⟩
theorem Row.one {c : CT} {f : Nat → Option Value} {u : Value} {x : V} (h0 : f 0 = some u) (h1 : u.oneCell' = true) (h2 : RelD cx w X u x) (h3 : Has c x) : Row cx w X [c] f [x] :=
  ⟨rfl, fun j hj => by
    have : j = 0 := by simp at hj; exact hj
    subst this
    exact ⟨u, h0, h1, h2, h3⟩⟩
theorem cell_at {a : Addr} {u : Value} (h : w.cell? a = some u) : ∃ c e fr, a = ⟨a.block, a.off, none⟩ ∧ w.heap[a.block]? = some (.cells c e fr) ∧ c[a.off]? = some u := by
  obtain ⟨b, o, sp⟩ := a
  unfold World.cell? at h
  split at h
  · rename_i c e fr hc
    split at h
    · simp at h
    · rename_i hs
      cases sp with
      | none => exact ⟨c, e, fr, rfl, hc, h⟩
      | some x => simp at hs
  · simp at h
theorem szT_cells {t : TypeId} {n : Nat} (h : szT P t = some n) : P.cellsOf t = n := by
  unfold szT at h
  unfold Program.cellsOf
  rw [h]; rfl
theorem fields_row {H : Type} {enc : TypeId × Value → H} {fuel : Nat} {g : TypeId → Option (List CT)} {cs : List Value}
    (ih : ∀ (t : TypeId) (cs : List Value) (d : DataW H) (ps : List MemPlace) (r : List CT), DataW.trod enc P w 0 (fun _ => true) true fuel t cs = some (d, ps) → g t = some r → ∃ xs, Row cx w X r (fun j => cs[j]?) xs) :
    ∀ (fs : List Field) (o : Nat) (ys : List (DataW H × List MemPlace)) (r : List CT), (fs.mapM fun f => DataW.trod enc P w 0 (fun _ => true) true fuel f.type ((cs.drop f.offset).take (P.cellsOf f.type))) = some ys →
      rowFs P g fs o = some r → ∃ xs, Row cx w X r (fun j => cs[o + j]?) xs
  | [], o, ys, r, _, hr => by
    simp only [rowFs, Option.some.injEq] at hr
    subst hr
    exact ⟨[], rfl, fun j hj => by simp at hj⟩
  | f :: fs, o, ys, r, h, hr => by
    rw [List.mapM_cons] at h
    simp only [rowFs] at hr
    split at hr <;> try (simp at hr; done)
    rename_i ho
    simp only [Option.bind_eq_some_iff] at hr
    obtain ⟨r1, hr1, hr⟩ := hr
    split at hr <;> try (simp at hr; done)
    rename_i hz
    simp only [Option.bind_eq_some_iff, Option.some.injEq] at hr
    obtain ⟨r2, hr2, rfl⟩ := hr
    cases h1 : DataW.trod enc P w 0 (fun _ => true) true fuel f.type ((cs.drop f.offset).take (P.cellsOf f.type)) with
    | none => simp [h1] at h
    | some y =>
      cases h2 : fs.mapM fun f => DataW.trod enc P w 0 (fun _ => true) true fuel f.type ((cs.drop f.offset).take (P.cellsOf f.type)) with
      | none => simp [h1, h2] at h
      | some zs =>
        obtain ⟨d, ps⟩ := y
        obtain ⟨xs, hx⟩ := ih _ _ _ _ _ h1 hr1
        obtain ⟨ys, hy⟩ := fields_row ih fs (o + r1.length) zs r2 h2 hr2
        have hx' : Row cx w X r1 (fun j => cs[o + j]?) xs := ⟨hx.1, fun j hj => by
          obtain ⟨u, a, b⟩ := hx.2 j hj
          refine ⟨u, ?_, b⟩
          simp only at a ⊢
          rw [szT_cells hz, List.getElem?_take_of_lt hj, List.getElem?_drop, ho] at a
          exact a⟩
        refine ⟨xs ++ ys, hx'.append ?_⟩
        simpa only [Nat.add_assoc] using hy
theorem reading {H : Type} {enc : TypeId × Value → H} : ∀ (fuel : Nat) (n : Nat) (t : TypeId) (cs : List Value) (d : DataW H) (ps : List MemPlace) (r : List CT),
    DataW.trod enc P w 0 (fun _ => true) true fuel t cs = some (d, ps) → rowT P n t = some r → ∃ xs, Row cx w (fun _ => False) r (fun j => cs[j]?) xs
  | 0, n, t, cs, d, ps, r, h, _ => by simp [DataW.trod] at h
  | fuel + 1, 0, t, cs, d, ps, r, _, hr => by simp [rowT] at hr
  | fuel + 1, n + 1, t, cs, d, ps, r, h, hr => by
    have ih := fun t cs d ps r => reading (enc := enc) fuel n t cs d ps r
    unfold rowT at hr
    unfold DataW.trod at h
    split at hr
    · rename_i ht
      rw [ht] at h
      simp only [Option.some.injEq] at hr
      subst hr
      split at h <;> simp_all
      subst_vars
      exact ⟨_, Row.one rfl rfl (.bool _) (.bool _)⟩
    · rename_i k ht
      rw [ht] at h
      simp only [Option.some.injEq] at hr
      subst hr
      split at h <;> simp_all
      obtain ⟨⟨rfl, hw⟩, -⟩ := h
      subst_vars
      exact ⟨_, Row.one rfl rfl (.int _ _) (.int _ _ hw)⟩
    · rename_i ht
      rw [ht] at h
      simp only [Option.some.injEq] at hr
      subst hr
      split at h
      all_goals try (simp_all; done)
      rename_i s heq
      split at h <;> simp only [Option.some.injEq, reduceCtorEq] at h
      rename_i hle
      have hl : s.data.toList.length = s.size := Array.length_toList
      exact ⟨_, Row.one rfl rfl (.str s) (.str _ (by omega))⟩
    · rename_i e ht
      simp only [Option.bind_eq_some_iff] at hr
      obtain ⟨r1, hr1, hr⟩ := hr
      split at hr <;> simp only [Option.some.injEq, reduceCtorEq] at hr
      rename_i hz
      subst hr
      rw [ht] at h
      split at h
      all_goals try (simp_all; done)
      · exact ⟨_, Row.one rfl rfl (.nilslice none r1.length) (.slice r1 [] (by simp) (fun i hi => by simp at hi) (fun i j hi => by simp at hi))⟩
      · rename_i e' a len cap heq
        simp only [Option.some.injEq, TypeDesc.slice.injEq] at heq
        subst heq
        simp only at h
        split at h <;> try (simp at h; done)
        rename_i hc
        obtain ⟨-, hc1, hc2⟩ := hc
        have hsz : P.cellsOf e = r1.length := szT_cells hz.1
        simp only [Option.bind_eq_some_iff, Option.map_eq_some_iff] at h
        obtain ⟨elems, hel, rest, hrest, -⟩ := h
        simp only [if_true] at hrest
        rw [hsz] at hel hrest
        have el : ∀ i, i < cap → ∃ l, w.cells? 0 (a.add (i * r1.length)) r1.length = some l ∧ ∃ y, DataW.trod enc P w 0 (fun _ => true) true fuel e l = some y := by
          intro i hi
          have : ∃ y, ((w.cells? 0 (a.add (i * r1.length)) r1.length).bind (DataW.trod enc P w 0 (fun _ => true) true fuel e)) = some y := by
            by_cases hlt : i < len
            · have h1 := mapM_some_get hel i i (by simp [hlt])
              have h2 := mapM_some_length hel
              simp only [List.length_range] at h2
              exact ⟨elems[i], by rw [h1]; simp⟩
            · have hr0 : (List.range (cap - len))[i - len]? = some (i - len) := by
                rw [List.getElem?_range (by omega)]
              have h1 := mapM_some_get hrest (i - len) (i - len) hr0
              have h2 := mapM_some_length hrest
              simp only [List.length_range] at h2
              rw [show len + (i - len) = i from by omega] at h1
              exact ⟨rest[i - len], by rw [h1]; simp⟩
          obtain ⟨y, hy⟩ := this
          simp only [Option.bind_eq_some_iff] at hy
          obtain ⟨l, h1, h2⟩ := hy
          exact ⟨l, h1, y, h2⟩
        by_cases hcap : cap = 0
        · subst hcap
          obtain rfl : len = 0 := by omega
          exact ⟨_, Row.one rfl rfl (.nilslice (some a) r1.length) (.slice r1 [] (by simp) (fun i hi => by simp at hi) (fun i j hi => by simp at hi))⟩
        · obtain ⟨l0, hl0, -⟩ := el 0 (by omega)
          have hl0' := World.cells?_some hl0
          obtain ⟨c, ec, fr, hspot, hheap, -⟩ := cell_at (w := w) (a := (a.add (0 * r1.length)).add 0) (u := l0[0]'(by omega)) (by rw [hl0'.2.2 0 (by omega)]; simp)
          have hspot' : a = ⟨a.block, a.off, none⟩ := by
            obtain ⟨b, o, sp⟩ := a
            simp only [Addr.add] at hspot
            cases sp <;> simp_all
          obtain ⟨b, o, sp⟩ := a
          simp only [Addr.mk.injEq, true_and] at hspot'
          subst hspot'
          have hheap : w.heap[b]? = some (.cells c ec fr) := by simpa [Addr.add] using hheap
          have row : ∀ i, i < len → ∃ xs, Row cx w (fun _ => False) r1 (fun j => c[o + i * r1.length + j]?) xs := by
            intro i hi
            obtain ⟨l, hl, ⟨d', ps'⟩, hd⟩ := el i (by omega)
            obtain ⟨xs, hx1, hx2⟩ := ih _ _ _ _ _ hd hr1
            obtain ⟨-, hl1, hl2⟩ := World.cells?_some hl
            refine ⟨xs, hx1, fun j hj => ?_⟩
            obtain ⟨u, p1, p2⟩ := hx2 j hj
            refine ⟨u, ?_, p2⟩
            simp only at p1 ⊢
            have h3 := hl2 j hj
            rw [p1, addr_add, addr_add] at h3
            obtain ⟨c', _, _, _, h4, h5⟩ := cell_at h3
            rw [hheap] at h4
            simp only [Option.some.injEq, Obj.cells.injEq] at h4
            obtain ⟨rfl, -⟩ := h4
            exact h5
          obtain ⟨f, hf⟩ := pickf row
          have hlen : ((List.range len).map f).length = len := by simp
          have hgr : ∀ i, i < len → gr ((List.range len).map f) i = f i := fun i hi => by simp [gr, hi]
          refine ⟨[.slice r1.length ((List.range len).map f)], Row.one rfl rfl ?_ ?_⟩
          · refine slice_mk (c := c) (e := ec) (fr := fr) (lt_of_some hheap) id hheap (by simpa using hc1) (fun i hi => ?_) (fun i j hi hj => ?_) hlen
            · rw [hlen] at hi; rw [hgr i hi]; exact (hf i hi).1
            · rw [hlen] at hi; rw [hgr i hi]
              obtain ⟨u, p1, p2, p3, p4⟩ := (hf i hi).2 j hj
              exact ⟨u, p1, p2, p3⟩
          · refine .slice r1 _ (by omega) (fun i hi => ?_) (fun i j hi hj => ?_)
            · rw [hlen] at hi; rw [hgr i hi]; exact (hf i hi).1
            · rw [hlen] at hi; rw [hgr i hi]
              obtain ⟨u, p1, p2, p3, p4⟩ := (hf i hi).2 j hj
              exact p4
    · rename_i fs ht
      simp only [Option.bind_eq_some_iff] at hr
      obtain ⟨r1, hr1, hr⟩ := hr
      split at hr <;> simp only [Option.some.injEq, reduceCtorEq] at hr
      subst hr
      rw [ht] at h
      split at h
      all_goals try (simp_all; done)
      rename_i fs' _ heq
      simp only [Option.some.injEq, TypeDesc.struct.injEq] at heq
      subst heq
      split at h <;> try (simp at h; done)
      simp only [Option.map_eq_some_iff] at h
      obtain ⟨ys, hys, -⟩ := h
      obtain ⟨xs, hx⟩ := fields_row (fun t cs d ps r => ih t cs d ps r) fs.toList 0 ys _ hys hr1
      exact ⟨xs, by simpa using hx⟩
    · simp at hr
end
end Sg
namespace Sg
open Go Go.RowKit Go.ChangeShapes Go.WideShapes
set_option linter.unusedSimpArgs false
set_option linter.unusedVariables false
def isAgg (P : Program) (t : TypeId) : Bool :=
  match P.underlying t with
  | some (.struct _) => true
  | _ => false
def sigT (P : Program) (t : TypeId) : Option (Bool × List CT) := (rowT P 20 t).bind fun r => some (isAgg P t, r)
def HasRow (r : List CT) (xs : List V) : Prop := xs.length = r.length ∧ ∀ j, j < r.length → Has (gt r j) (gv xs j)
def ArgV : Bool × List CT → V → Prop
  | (true, r), x => ∃ xs, x = .agg xs ∧ HasRow r xs
  | (false, r), x => ∃ c, r = [c] ∧ Has c x
def ArgsV : List (Bool × List CT) → List V → Prop
  | [], [] => True
  | s :: ss, x :: xs => ArgV s x ∧ ArgsV ss xs
  | _, _ => False
section
variable {P : Program} {cx : Cx} {w : World}
theorem arg_ok {H : Type} {enc : TypeId × Value → H} {t : TypeId} {v : Value} {d : DataW H} {ps : List MemPlace} {s : Bool × List CT} {base : Nat} (h : DataW.Trod enc P w 0 (fun _ => true) true t v d ps)
    (hw : Value.okWide P w .any base t v) (hs : sigT P t = some s) : ∃ x, RelD cx w (fun _ => False) v x ∧ ArgV s x := by
  unfold sigT at hs
  simp only [Option.bind_eq_some_iff, Option.some.injEq] at hs
  obtain ⟨r, hr, rfl⟩ := hs
  obtain ⟨fuel, hf⟩ := h
  obtain ⟨xs, hl, hx⟩ := reading (cx := cx) fuel 20 t _ d ps r hf hr
  have one : ∀ c, r = [c] → v.cells = #[v] → isAgg P t = false → ∃ x, RelD cx w (fun _ => False) v x ∧ ArgV (isAgg P t, r) x := by
    intro c hc hv ha
    subst hc
    obtain ⟨u, h1, h2, h3, h4⟩ := hx 0 (by simp)
    rw [hv] at h1
    simp at h1
    subst h1
    exact ⟨gv xs 0, h3, by rw [ha]; exact ⟨c, rfl, h4⟩⟩
  unfold rowT at hr
  split at hr
  · rename_i ht
    obtain ⟨b, rfl⟩ := okWide_bool ht hw
    simp only [Option.some.injEq] at hr
    exact one _ hr.symm rfl (by simp [isAgg, ht])
  · rename_i k ht
    obtain ⟨b, rfl⟩ := okWide_int ht hw
    simp only [Option.some.injEq] at hr
    exact one _ hr.symm rfl (by simp [isAgg, ht])
  · rename_i ht
    obtain ⟨b, rfl⟩ := okWide_string ht hw
    simp only [Option.some.injEq] at hr
    exact one _ hr.symm rfl (by simp [isAgg, ht])
  · rename_i e ht
    obtain ⟨a, len, cap, rfl⟩ := okWide_slice ht hw
    simp only [Option.bind_eq_some_iff] at hr
    obtain ⟨r1, -, hr⟩ := hr
    split at hr <;> simp only [Option.some.injEq, reduceCtorEq] at hr
    exact one _ hr.symm rfl (by simp [isAgg, ht])
  · rename_i fs ht
    obtain ⟨cs, rfl, hsz⟩ := okWide_struct ht hw
    simp only [Option.bind_eq_some_iff] at hr
    obtain ⟨r1, -, hr⟩ := hr
    split at hr <;> simp only [Option.some.injEq, reduceCtorEq] at hr
    rename_i hz
    subst hr
    have hcs : cs.size = r1.length := by rw [hsz]; exact szT_cells hz
    have ha : isAgg P t = true := by simp [isAgg, ht]
    obtain ⟨u, hu⟩ := pickf hx
    refine ⟨.agg xs, .agg cs xs u (by rw [hcs, hl]) (fun i hi => ?_) (fun i hi => ?_), ?_⟩
    · rw [hl] at hi
      have := (hu i hi).1
      exact ⟨by simpa [Value.cells] using this, (hu i hi).2.1⟩
    · rw [hl] at hi; exact (hu i hi).2.2.1
    · rw [ha]; exact ⟨xs, rfl, hl, fun j hj => (hu j hj).2.2.2⟩
  · simp at hr
theorem args_ok {H : Type} {enc : TypeId × Value → H} {base : Nat} : ∀ (ts : List TypeId) (vs : List Value) (ds : List (DataW H)) (ps : List MemPlace) (ss : List (Bool × List CT)), DataW.TrodAll enc P w 0 (fun _ => true) true ts vs ds ps →
    (∀ (j : Nat) t v, ts[j]? = some t → vs[j]? = some v → Value.okWide P w .any base t v) → mapO (sigT P) ts = some ss →
    ∃ xs : List V, xs.length = vs.length ∧ (∀ i, i < xs.length → ∃ u, vs[i]? = some u ∧ RelD cx w (fun _ => False) u (gv xs i)) ∧ ArgsV ss xs ∧ ds.length = ts.length
  | [], vs, ds, ps, ss, h, _, hs => by
    obtain ⟨rfl, rfl, rfl⟩ := trodAll_nil h
    simp only [mapO, Option.some.injEq] at hs
    subst hs
    exact ⟨[], rfl, fun i hi => by simp at hi, trivial, rfl⟩
  | t :: ts, vs, ds, ps, ss, h, hok, hs => by
    match vs, ds, h with
    | v :: vs, d :: ds, h =>
      obtain ⟨p, q, h1, h2, rfl⟩ := h
      simp only [mapO, Option.bind_eq_some_iff, Option.some.injEq] at hs
      obtain ⟨s, hs1, ss', hs2, rfl⟩ := hs
      obtain ⟨x, hx1, hx2⟩ := arg_ok (cx := cx) h1 (hok 0 t v rfl rfl) hs1
      obtain ⟨xs, a, b, c, e⟩ := args_ok ts vs ds q ss' h2 (fun j t v hj hv => hok (j + 1) t v (by simpa using hj) (by simpa using hv)) hs2
      refine ⟨x :: xs, by simp [a], fun i hi => ?_, ⟨hx2, c⟩, by simp [e]⟩
      cases i with
      | zero => exact ⟨v, rfl, by simpa [gv] using hx1⟩
      | succ i => obtain ⟨u, p1, p2⟩ := b i (by simpa using hi); exact ⟨u, by simpa using p1, by simpa [gv] using p2⟩
theorem args_back {H : Type} {enc : TypeId × Value → H} {W W' : World} {sp : Nat → Bool} (hl : laidOutB P = true) (hb : Below W.heap.size W W') :
    ∀ (ts : List TypeId) (vs : List Value) (ds : List (DataW H)) (ps : List MemPlace), (ts.all fun t => P.readableRec t && decide (t < P.types.size)) = true →
    DataW.TrodAll enc P W 0 (fun _ => true) true ts vs ds ps → (∀ p ∈ ps, p.block < W.heap.size) → (∀ p ∈ ps, sp p.block = true) → DataW.TrodAll enc P W' 0 sp true ts vs ds ps
  | [], vs, ds, ps, _, h, _, _ => by
    obtain ⟨rfl, rfl, rfl⟩ := trodAll_nil h
    exact trodAll_mk0
  | t :: ts, vs, ds, ps, hc, h, hlt, hsp => by
    match vs, ds, h with
    | v :: vs, d :: ds, h =>
      obtain ⟨p, q, h1, h2, rfl⟩ := h
      simp only [List.all_cons, Bool.and_eq_true, decide_eq_true_eq] at hc
      exact ⟨p, q, WideElems.Trod_stays hl hc.1.1 hc.1.2 h1 (fun x hx => hb.same (hlt x (by simp [hx]))) (fun x hx => hsp x (by simp [hx])),
        args_back hl hb ts vs ds q (by simpa using hc.2) h2 (fun x hx => hlt x (by simp [hx])) (fun x hx => hsp x (by simp [hx])), rfl⟩
theorem lift {H : Type} {enc : TypeId × Value → H} {fn : Func} {s : ChangeSpec} {conds : List PathCond} {apart fresh handsOn again : Bool} {own : Option Nat} {fid : Nat} {f : FuncId} {ss : List (Bool × List CT)} {tb : TypeId}
    (hcx : cx.fm fid = f) (hprm : mapO (sigT P) fn.params.toList = some ss) (hclosed : (fn.params.toList.all fun t => P.readableRec t && decide (t < P.types.size)) = true) (hl : laidOutB P = true)
    (hvars : s.vars = []) (hres : fn.resultTypes = #[tb]) (htb : P.underlying tb = some .bool)
    (hspec : ∀ ds : List (DataW H), ds.length = fn.params.toList.length → s.fn H ds = { results := [.lit (.bool true)], args := ds })
    (hctr : ∀ xs, ArgsV ss xs → Ctr P cx own fid xs (.bool true))
    (W : World) (hgn : cx.gn ≤ W.heap.size) (hG : cx.G W) (base : Nat) (args : Array Value) (ds gs : List (DataW H)) (before : List MemPlace)
    (hval : ∀ (j : Nat) t v, fn.params[j]? = some t → args[j]? = some v → Value.okWide P W .any base t v)
    (hW : DataW.Whole enc P fn.params.toList s.vars apart W args.toList ds gs before) :
    Calls P f args W fun e W' => ∃ v, e = .returned v ∧ s.post enc P fn apart fresh handsOn again W args v W' := by
  have hlt := hW.lt
  have hW' := hW
  obtain ⟨p, q, hA, hV, rfl, -, -⟩ := hW
  rw [hvars] at hV
  obtain ⟨rfl, rfl⟩ := trodVars_none hV
  obtain ⟨xs, h1, h2, h3, h4⟩ := args_ok (cx := cx) (base := base) fn.params.toList args.toList ds p ss hA (fun j t v hj hv => hval j t v (by simpa using hj) (by simpa using hv)) hprm
  obtain ⟨-, hc⟩ := hctr xs h3
  subst hcx
  refine (hc W (fun _ => False) args (fun b hb => hb.elim) hgn hG (by simpa using h1.symm) (fun i hi => by simpa using h2 i hi)).mono fun e W' ⟨v, he, hb, hr⟩ => ?_
  subst he
  have hr' := hr.data (fun b hb => hb.elim)
  have hv : v = .bool true := by cases hr'; rfl
  subst hv
  have hs := hspec ds h4
  have hlt' : ∀ x ∈ p, x.block < W.heap.size := fun x hx => hlt x (by simpa using hx)
  have res : ∀ (b : Nat) (sp : Nat → Bool) (hd : Bool), DataW.TrodAll enc P W' b sp hd fn.resultTypes.toList ((Value.bool true).resultList fn.resultTypes.size) (s.fn H (ds ++ [])).results [] := fun b sp hd => by
    rw [List.append_nil, hs, hres]; exact trodAll_mk1 (shut_bool htb true)
  have back : ∀ sp : Nat → Bool, (∀ x ∈ p, sp x.block = true) → DataW.TrodAll enc P W' 0 sp true fn.params.toList args.toList (s.fn H (ds ++ [])).args p := fun sp hsp => by
    rw [List.append_nil, hs]; exact args_back hl hb _ _ _ _ hclosed hA hlt' hsp
  have vars : ∀ sp : Nat → Bool, DataW.TrodVars enc P W' sp s.vars (s.fn H (ds ++ [])).vars [] := fun sp => by
    rw [List.append_nil, hs, hvars]; rfl
  refine ⟨_, rfl, ds, [], p ++ [], [], p, [], hW', res _ _ _, back _ (fun x hx => by simpa using hlt' x hx), vars _, hb.frame _, fun _ => ⟨ok_one hres rfl (okWide_bool_mk htb true), (s.fn H (ds ++ [])).results ++ (s.fn H (ds ++ [])).args, (s.fn H (ds ++ [])).vars, p, ?_, fun x hx _ => by simpa using hx⟩⟩
  obtain ⟨_, _, _, _, _, hz, hn⟩ := hW'
  refine ⟨p, [], ?_, vars _, by simp, fun b off hx => ?_, fun ha => by simpa using hn ha⟩
  · have := trodAll_append (back (fun _ => true) (fun _ _ => rfl)) (res 0 (fun _ => true) true)
    simpa using this
  · rw [hb.frozen (hlt' _ hx)]
    exact hz b off (by simpa using hx)
end
end Sg
namespace Sg
open _root_.Go
set_option linter.unusedSimpArgs false
set_option linter.unusedVariables false
theorem has_int {k : IntKind} {x : V} (h : Has (.int k) x) : ∃ n, x = .int k n ∧ (Lit.int k n).wf = true := by cases h; exact ⟨_, rfl, by assumption⟩
theorem has_str {x : V} (h : Has .str x) : ∃ s, x = .str s ∧ s.length ≤ maxLen := by cases h; exact ⟨_, rfl, by assumption⟩
theorem has_slice {r : List CT} {x : V} (h : Has (.slice r) x) : ∃ rows : List (List V), x = .slice r.length rows ∧ rows.length ≤ maxLen ∧ ∀ row ∈ rows, HasRow r row := by
  cases h with
  | slice r rows hl hz h =>
    refine ⟨rows, rfl, hl, fun row hrow => ?_⟩
    obtain ⟨i, hi, rfl⟩ := List.getElem_of_mem hrow
    have hg : gr rows i = rows[i] := by simp [gr, hi]
    exact ⟨by rw [← hg]; exact hz i hi, fun j hj => by rw [← hg]; exact h i j hi hj⟩
theorem rows_enc {α : Type} {enc : α → List V} {Q : α → Prop} : ∀ {rows : List (List V)}, (∀ row ∈ rows, ∃ a, row = enc a ∧ Q a) → ∃ l : List α, rows = l.map enc ∧ ∀ a ∈ l, Q a
  | [], _ => ⟨[], rfl, fun a ha => by simp at ha⟩
  | row :: rows, h => by
    obtain ⟨a, rfl, ha⟩ := h row (by simp)
    obtain ⟨l, rfl, hl⟩ := rows_enc (rows := rows) (fun r hr => h r (by simp [hr]))
    exact ⟨a :: l, rfl, fun b hb => by
      rcases List.mem_cons.1 hb with rfl | hb
      · exact ha
      · exact hl b hb⟩
theorem arg_int {x : V} (h : ArgV (false, [.int .i64]) x) : ∃ n, x = iz n ∧ (Lit.int .i64 n).wf = true := by
  obtain ⟨c, hc, h⟩ := h
  simp only [List.cons.injEq, and_true] at hc; subst hc
  exact has_int h
theorem arg_str {x : V} (h : ArgV (false, [.str]) x) : ∃ s, x = .str s ∧ s.length ≤ maxLen := by
  obtain ⟨c, hc, h⟩ := h
  simp only [List.cons.injEq, and_true] at hc; subst hc
  exact has_str h
end Sg
namespace Sg
open _root_.Go (IntKind BinOp UnOp)
set_option linter.unusedSimpArgs false
set_option linter.unusedVariables false
set_option maxRecDepth 10000
variable {Pg : Nat → Option Fn}
theorem letS_snd {l : List UInt8} (h : l ≠ []) : (letS l).2 = ((dN l).2 : Int) := by
  rw [letS_dN h]
  by_cases c : dN l = (65533, 1)
  · rw [if_pos c, c]; rfl
  · rw [if_neg c]
theorem letS_neg {l : List UInt8} (h : l ≠ []) (hn : (letS l).1 < 0) : ((dN l).1 : Int) = 65533 := by
  rw [letS_dN h] at hn
  by_cases c : dN l = (65533, 1)
  · rw [c]; rfl
  · rw [if_neg c] at hn; simp at hn; omega
theorem letS_nn {l : List UInt8} (h : l ≠ []) (hn : ¬ (letS l).1 < 0) : ((dN l).1 : Int) = (letS l).1 := by
  rw [letS_dN h] at hn ⊢
  by_cases c : dN l = (65533, 1)
  · rw [if_pos c] at hn; simp at hn
  · rw [if_neg c]
theorem dN_le {l : List UInt8} (h : l ≠ []) : (dN l).2 ≤ l.length := by
  rcases dN_cases h with x | ⟨a0, t, rfl, q, x⟩ | ⟨a0, a1, t, rfl, q, q1, x⟩ | ⟨a0, a1, a2, t, rfl, q, q1, q2, q3, x⟩ | ⟨a0, a1, a2, a3, t, rfl, q, q1, q2, q3, q4, x⟩
  · rw [x]; have := List.length_pos_iff.2 h; simp only; omega
  all_goals rw [x]; simp
@[go_sem] def eIL (l : List Int) : V := .slice 1 (l.map fun x => [iz x])
def H195 (Pg : Nat → Option Fn) : Prop := Pg 195 = some (.code F195) ∧ H188 Pg
theorem len_pos {l : List UInt8} : decide ((0 : Int) < (l.length : Int)) = !decide (l = []) := by
  cases l <;> simp
theorem K195 (h : H195 Pg) (s : List UInt8) (hl : s.length ≤ 1000000) : K' Pg 195 [.str s] = some (eIL (lets s)) := by
  obtain ⟨h, h188⟩ := h
  refine K'_code h rfl ?_
  simp only [go_sem, mkA]
  unfold l195_0
  refine wp_lp (fun (l : List UInt8) S => ∃ acc : List Int, S.ρ 0 = .str l ∧ S.A 3 = some (1, acc.map (fun x => [iz x]), .live) ∧ S.ρ 3 = .own 3 1 acc.length ∧ acc ++ lets l = lets s ∧ acc.length + l.length ≤ s.length) (fun l => l.length) s ?_ ?_
  · exact ⟨[], by simp [go_sem]⟩
  · intro l S ⟨acc, h0, a3, h3, hacc, hlen⟩
    simp only [go_sem, h0, a3, h3, len_pos]
    by_cases hn : l = []
    · subst hn
      rw [lets_nil, List.append_nil] at hacc
      subst hacc
      simp only [go_sem, h0, a3, h3]
    · have hd := drop_lt hn
      have hp := List.length_pos_iff.2 hn
      have k := K188 h188 l hn
      rw [show letS l = ((letS l).1, ((dN l).2 : Int)) from Prod.ext rfl (letS_snd hn)] at k
      simp only [eLN] at k
      have hle := dN_le hn
      have hlim : acc.length + 1 ≤ lim := by simp only [lim]; omega
      have hc := lets_cons hn
      simp only [go_sem, hn, h0, a3, h3, k]
      refine wpc_i (fun c => ?_) (fun c => ?_)
      · have e := letS_neg hn (of_decide_eq_true c)
        simp only [go_sem, h0, a3, h3, hlim, hle]
        refine ⟨l.drop (dN l).2, hd, acc ++ [65533], rfl, by simp, by simp, ?_, by simp only [List.length_append, List.length_cons, List.length_nil]; omega⟩
        rw [← hacc, hc, e]; simp
      · have e := letS_nn hn (of_decide_eq_false c)
        simp only [go_sem, h0, a3, h3, hlim, hle]
        refine ⟨l.drop (dN l).2, hd, acc ++ [(letS l).1], rfl, by simp, by simp, ?_, by simp only [List.length_append, List.length_cons, List.length_nil]; omega⟩
        rw [← hacc, hc, e]; simp
def H168 (Pg : Nat → Option Fn) : Prop := Pg 168 = some (.code F168) ∧ H188 Pg ∧ H189 Pg
theorem K168 (h : H168 Pg) (s : List UInt8) : K' Pg 168 [.str s] = some (.bool (keyR s)) := by
  obtain ⟨h, h188, h189⟩ := h
  refine K'_code h rfl ?_
  have ez : decide ((s.length : Int) = 0) = decide (s = []) := by cases s <;> simp; omega
  simp only [go_sem, ez]
  by_cases hs : s = []
  · have e : keyR s = false := by rw [hs]; rfl
    rw [e]
    simp only [go_sem, hs]
  simp only [go_sem, hs]
  refine wpc_i (fun c => ?_) (fun c => ?_)
  · have e : keyR s = false := by
      have := of_decide_eq_true c
      have : decide (s.length ≤ 16) = false := decide_eq_false (by omega)
      simp [keyR, this]
    rw [e]
    simp only [go_sem]
  have c := of_decide_eq_false c
  have hp := List.length_pos_iff.2 hs
  have e : keyR s = keyAll s.length s := by
    have h1 : decide (1 ≤ s.length) = true := decide_eq_true (by omega)
    have h2 : decide (s.length ≤ 16) = true := decide_eq_true (by omega)
    simp only [keyR, h1, h2, Bool.and_true]
  rw [e]
  simp only [go_sem]
  unfold l168_0
  refine wp_lp (fun (l : List UInt8) S => S.ρ 0 = .str l ∧ keyAll l.length l = keyAll s.length s) (fun l => l.length) s ?_ ?_
  · simp [go_sem]
  · intro l S ⟨h0, hacc⟩
    simp only [go_sem, h0, len_pos]
    by_cases hn : l = []
    · subst hn
      rw [← hacc]
      simp only [go_sem, h0, keyAll_nil]
    · have hd := drop_lt hn
      have k := K188 h188 l hn
      rw [show letS l = ((letS l).1, ((dN l).2 : Int)) from Prod.ext rfl (letS_snd hn)] at k
      simp only [eLN] at k
      have k9 := K189 h189 (letS l).1
      rw [plain_eq hn] at k9
      have hle := dN_le hn
      rw [keyAll_cons hn] at hacc
      simp only [go_sem, hn, h0, k, k9]
      cases hP : plainR (dN l).1 (dN l).2 with
      | false =>
        rw [hP, Bool.false_and] at hacc
        rw [← hacc]
        simp only [go_sem, hP]
      | true =>
        rw [hP, Bool.true_and] at hacc
        simp only [go_sem, hP, h0, hle]
        exact ⟨l.drop (dN l).2, hd, rfl, hacc⟩
def H187 (Pg : Nat → Option Fn) : Prop := Pg 187 = some (.code F187) ∧ H195 Pg
theorem K187 (h : H187 Pg) (a b : List UInt8) (ha : a.length ≤ 1000000) (hb : b.length ≤ 1000000) : K' Pg 187 [.str a, .str b] = some (iz (cmpL (lets a) (lets b))) := by
  obtain ⟨h, h195⟩ := h
  have ka := K195 h195 a ha
  have kb := K195 h195 b hb
  simp only [eIL] at ka kb
  refine K'_code h rfl ?_
  simp only [go_sem, ka, kb]
  have la := lets_len a.length a (Nat.le_refl _)
  have lb := lets_len b.length b (Nat.le_refl _)
  generalize lets a = x at *
  generalize lets b = y at *
  unfold l187_0
  refine wp_lp (fun (i : Nat) S => i ≤ x.length ∧ i ≤ y.length ∧ S.ρ 5 = eIL x ∧ S.ρ 6 = eIL y ∧ S.ρ 7 = iz i ∧ cmpL (x.drop i) (y.drop i) = cmpL x y) (fun i => x.length - i) 0 ?_ ?_
  · simp [go_sem]
  · intro i S ⟨hi, hj, h5, h6, h7, ho⟩
    simp only [go_sem, h5, h6, h7]
    by_cases hx : i < x.length
    · have ex : decide ((i : Int) < (x.length : Int)) = true := decide_eq_true (by omega)
      obtain ⟨u, hu, hdx⟩ := drop_at hx
      by_cases hy : i < y.length
      · have ey : decide ((i : Int) < (y.length : Int)) = true := decide_eq_true (by omega)
        obtain ⟨v, hv, hdy⟩ := drop_at hy
        rw [hdx, hdy] at ho
        simp only [go_sem, h5, h6, h7, ex, ey, hu, hv]
        refine wpc_i (fun c => ?_) (fun c => ?_)
        · rw [cmpL_lt' (of_decide_eq_true c)] at ho
          simp only [go_sem, ← ho]
        · have c := of_decide_eq_false c
          simp only [go_sem, h5, h6, h7, hu, hv]
          refine wpc_i (fun d => ?_) (fun d => ?_)
          · rw [cmpL_gt' (of_decide_eq_true d)] at ho
            simp only [go_sem, ← ho]
          · have d := of_decide_eq_false d
            obtain rfl : u = v := by omega
            rw [cmpL_eq'] at ho
            simp only [go_sem, h5, h6, h7]
            exact ⟨i + 1, by omega, by omega, by omega, by rw [inc64 hx (by omega)], ho⟩
      · have ey : decide ((i : Int) < (y.length : Int)) = false := decide_eq_false (by omega)
        have e1 : decide ((x.length : Int) < (y.length : Int)) = false := decide_eq_false (by omega)
        have e2 : decide ((y.length : Int) < (x.length : Int)) = true := decide_eq_true (by omega)
        have hdy : y.drop i = [] := List.drop_eq_nil_of_le (by omega)
        rw [hdx, hdy] at ho
        have ho : (1 : Int) = cmpL x y := ho
        simp only [go_sem, h5, h6, h7, ex, ey, e1, e2, ← ho]
    · have ex : decide ((i : Int) < (x.length : Int)) = false := decide_eq_false (by omega)
      simp only [go_sem, h5, h6, h7, ex]
      rw [List.drop_eq_nil_of_le (by omega)] at ho
      by_cases hy : i < y.length
      · have e1 : decide ((x.length : Int) < (y.length : Int)) = true := decide_eq_true (by omega)
        obtain ⟨v, hv, hdy⟩ := drop_at hy
        rw [hdy] at ho
        have ho : (-1 : Int) = cmpL x y := ho
        simp only [go_sem, h5, h6, h7, ex, e1, ← ho]
      · have e1 : decide ((x.length : Int) < (y.length : Int)) = false := decide_eq_false (by omega)
        have e2 : decide ((y.length : Int) < (x.length : Int)) = false := decide_eq_false (by omega)
        rw [List.drop_eq_nil_of_le (by omega)] at ho
        have ho : (0 : Int) = cmpL x y := ho
        simp only [go_sem, h5, h6, h7, ex, e1, e2, ← ho]
def H192 (Pg : Nat → Option Fn) : Prop := Pg 192 = some (.code F192) ∧ H190 Pg
theorem K192 (h : H192 Pg) (a b : List UInt8) : K' Pg 192 [.str a, .str b] = some (iz (cmpL (lets a) (lets b))) := by
  obtain ⟨h, h190⟩ := h
  refine K'_code h rfl ?_
  simp only [go_sem]
  unfold l192_0
  refine wp_lp (fun (p : List UInt8 × List UInt8) S => S.ρ 0 = .str p.1 ∧ S.ρ 1 = .str p.2 ∧ cmpL (lets p.1) (lets p.2) = cmpL (lets a) (lets b)) (fun p => p.1.length) (a, b) ?_ ?_
  · simp [go_sem]
  · intro ⟨x, y⟩ S ⟨h0, h1, ho⟩
    simp only at h0 h1 ho
    have k := K190 h190 x
    have k' := K190 h190 y
    simp only [go_sem, h0, h1]
    by_cases hx : x = []
    · subst hx
      rw [lets_nil] at ho
      by_cases hy : y = []
      · subst hy
        have ho : (0 : Int) = cmpL (lets a) (lets b) := ho
        simp only [go_sem, h0, h1, ← ho]
      · rw [lets_cons hy] at ho
        have ho : (-1 : Int) = cmpL (lets a) (lets b) := ho
        simp only [go_sem, h0, h1, hy, ← ho]
    · by_cases hy : y = []
      · subst hy
        rw [lets_cons hx, lets_nil] at ho
        have ho : (1 : Int) = cmpL (lets a) (lets b) := ho
        simp only [go_sem, h0, h1, hx, ← ho]
      · rw [lets_cons hx, lets_cons hy] at ho
        have ex : decL x = dN x := by rw [decL, if_neg hx]
        have ey : decL y = dN y := by rw [decL, if_neg hy]
        rw [ex] at k
        rw [ey] at k'
        have lx := dN_le hx
        have ly := dN_le hy
        have hd := drop_lt hx
        simp only [go_sem, h0, h1, hx, hy, k, k']
        refine wpc_i (fun c => ?_) (fun c => ?_)
        · rw [cmpL_lt' (of_decide_eq_true c)] at ho
          simp only [go_sem, ← ho]
        · have c := of_decide_eq_false c
          simp only [go_sem, h0, h1, hx, hy]
          refine wpc_i (fun d => ?_) (fun d => ?_)
          · rw [cmpL_gt' (of_decide_eq_true d)] at ho
            simp only [go_sem, ← ho]
          · have d := of_decide_eq_false d
            have e : ((dN x).1 : Int) = ((dN y).1 : Int) := by omega
            rw [e, cmpL_eq'] at ho
            simp only [go_sem, h0, h1, lx, ly]
            exact ⟨(x.drop (dN x).2, y.drop (dN y).2), hd, rfl, rfl, ho⟩
end Sg
namespace Sg
open _root_.Go (IntKind BinOp UnOp)
set_option linter.unusedSimpArgs false
set_option linter.unusedVariables false
set_option maxRecDepth 10000
variable {Pg : Nat → Option Fn}
structure Span where
  lo : List UInt8
  hi : List UInt8
  deriving DecidableEq
@[go_sem] def eSpan (s : Span) : List V := [.str s.lo, .str s.hi]
def ltS (a b : List UInt8) : Bool := decide (cmpL (lets a) (lets b) < 0)
def leS (a b : List UInt8) : Bool := decide (cmpL (lets a) (lets b) ≤ 0)
def spanR (s : Span) : Bool := (decide (s.lo = []) || keyR s.lo) && (decide (s.hi = []) || (keyR s.hi && ltS s.lo s.hi))
theorem cmp_m1 {a b : List Int} : decide (cmpL a b = -1) = decide (cmpL a b < 0) := by
  apply decide_eq_decide.2
  have := cmpL_val a b
  omega
theorem len_nil {l : List UInt8} : decide ((l.length : Int) = 0) = decide (l = []) := by cases l <;> simp; omega
theorem keyR_len {l : List UInt8} (h : keyR l = true) : l.length ≤ 16 ∧ l ≠ [] := by
  simp only [keyR, Bool.and_eq_true, decide_eq_true_eq] at h
  exact ⟨h.2.2, fun e => by rw [e] at h; simp at h⟩
def H186 (Pg : Nat → Option Fn) : Prop := Pg 186 = some (.code F186) ∧ H170 Pg ∧ H192 Pg
theorem K186 (h : H186 Pg) (s : Span) : K' Pg 186 [.agg (eSpan s)] = some (.bool (spanR s)) := by
  obtain ⟨h, h170, h192⟩ := h
  have k1 := K170 h170 s.lo
  have k2 := K170 h170 s.hi
  have k3 := K192 h192 s.lo s.hi
  refine K'_code h rfl ?_
  cases c1 : decide (s.lo = []) <;> cases c2 : keyR s.lo <;> cases c3 : decide (s.hi = []) <;> cases c4 : keyR s.hi <;>
    simp only [go_sem, c1, c2, c3, c4, k1, k2, k3, spanR, ltS]
def H167 (Pg : Nat → Option Fn) : Prop := Pg 167 = some (.code F167) ∧ H168 Pg ∧ H187 Pg
theorem K167 (h : H167 Pg) (s : Span) : K' Pg 167 [.agg (eSpan s)] = some (.bool (spanR s)) := by
  obtain ⟨h, h168, h187⟩ := h
  have k1 := K168 h168 s.lo
  have k2 := K168 h168 s.hi
  have k3 : s.lo.length ≤ 1000000 → s.hi.length ≤ 1000000 → _ := K187 h187 s.lo s.hi
  refine K'_code h rfl ?_
  cases c1 : decide (s.lo = []) with
  | true =>
    have hl : s.lo.length ≤ 1000000 := by rw [of_decide_eq_true c1]; simp
    cases c3 : decide (s.hi = []) with
    | true => simp only [go_sem, c1, c3, k1, k2, len_nil, len_pos, spanR]
    | false =>
      cases c4 : keyR s.hi with
      | false => simp only [go_sem, c1, c3, c4, k1, k2, len_nil, len_pos, spanR]
      | true => simp only [go_sem, c1, c3, c4, k1, k2, k3 hl (by have := keyR_len c4; omega), len_nil, len_pos, spanR, ltS, cmp_m1]
  | false =>
  cases c2 : keyR s.lo with
  | false => simp only [go_sem, c1, c2, k1, k2, len_nil, len_pos, spanR]
  | true =>
    have hl : s.lo.length ≤ 1000000 := by have := keyR_len c2; omega
    cases c3 : decide (s.hi = []) with
    | true => simp only [go_sem, c1, c2, c3, k1, k2, len_nil, len_pos, spanR]
    | false =>
      cases c4 : keyR s.hi with
      | false => simp only [go_sem, c1, c2, c3, c4, k1, k2, len_nil, len_pos, spanR]
      | true => simp only [go_sem, c1, c2, c3, c4, k1, k2, k3 hl (by have := keyR_len c4; omega), len_nil, len_pos, spanR, ltS, cmp_m1]
def hasS (s : Span) (k : List UInt8) : Bool := spanR s && (keyR k && (leS s.lo k && (decide (s.hi = []) || ltS k s.hi)))
def H171 (Pg : Nat → Option Fn) : Prop := Pg 171 = some (.code F171) ∧ H186 Pg ∧ H170 Pg ∧ H192 Pg
theorem K171 (h : H171 Pg) (s : Span) (k : List UInt8) : K' Pg 171 [.agg (eSpan s), .str k] = some (.bool (hasS s k)) := by
  obtain ⟨h, h186, h170, h192⟩ := h
  have k1 := K186 h186 s
  have k2 := K170 h170 k
  have k3 := K192 h192 s.lo k
  have k4 := K192 h192 k s.hi
  simp only [eSpan] at k1
  refine K'_code h rfl ?_
  cases c1 : spanR s <;> cases c2 : keyR k <;> cases c3 : decide (cmpL (lets s.lo) (lets k) ≤ 0) <;> cases c4 : decide (s.hi = []) <;>
    simp only [go_sem, c1, c2, c3, c4, k1, k2, k3, k4, hasS, leS, ltS]
def aheadS (lo hi : List UInt8) : Bool := decide (hi = []) || ltS lo hi
theorem lt_tr' {a b c : List UInt8} (h1 : cmpL (lets a) (lets b) < 0) (h2 : cmpL (lets b) (lets c) ≤ 0) : cmpL (lets a) (lets c) < 0 := (cmpL_tr _ _ _ (by omega) h2).2 (.inl h1)
end Sg
namespace Sg
open _root_.Go (IntKind BinOp UnOp)
set_option linter.unusedSimpArgs false
set_option linter.unusedVariables false
set_option maxRecDepth 10000
variable {Pg : Nat → Option Fn}
theorem spanR_lo {s : Span} (h : spanR s = true) : (decide (s.lo = []) || keyR s.lo) = true := by
  simp only [spanR, Bool.and_eq_true] at h; exact h.1
theorem spanR_hi {s : Span} (h : spanR s = true) : s.hi = [] ∨ (keyR s.hi = true ∧ cmpL (lets s.lo) (lets s.hi) < 0) := by
  simp only [spanR, Bool.and_eq_true, Bool.or_eq_true, decide_eq_true_eq, ltS] at h; exact h.2
theorem spanR_mk {lo hi : List UInt8} (h1 : (decide (lo = []) || keyR lo) = true) (h2 : hi = [] ∨ keyR hi = true) : spanR ⟨lo, hi⟩ = aheadS lo hi := by
  simp only [spanR, aheadS, h1, Bool.true_and]
  rcases h2 with e | e
  · rw [decide_eq_true e]; rfl
  · rw [e, Bool.true_and]
theorem ahead_iff {lo hi : List UInt8} : aheadS lo hi = true ↔ hi = [] ∨ cmpL (lets lo) (lets hi) < 0 := by
  simp [aheadS, ltS]
def emptyS : Span := ⟨[], []⟩
@[go_sem] def eSSE (x : Span × Span × Int) : V := .tuple [.agg (eSpan x.1), .agg (eSpan x.2.1), iz x.2.2]
@[go_sem] def eSE (x : Span × Int) : V := .tuple [.agg (eSpan x.1), iz x.2]
def cutS (s : Span) (k : List UInt8) : Span × Span × Int :=
  if spanR s && keyR k then (if decide (k = s.lo) || !hasS s k then (emptyS, emptyS, 9) else (⟨s.lo, k⟩, ⟨k, s.hi⟩, 0)) else (emptyS, emptyS, 1)
def H178 (Pg : Nat → Option Fn) : Prop := Pg 178 = some (.code F178) ∧ H186 Pg ∧ H170 Pg ∧ H171 Pg
theorem K178 (h : H178 Pg) (s : Span) (k : List UInt8) : K' Pg 178 [.agg (eSpan s), .str k] = some (eSSE (cutS s k)) := by
  obtain ⟨h, h186, h170, h171⟩ := h
  have k1 := K186 h186 s
  have k2 := K170 h170 k
  have k3 := K171 h171 s k
  simp only [eSpan] at k1 k3
  refine K'_code h rfl ?_
  cases c1 : spanR s <;> cases c2 : keyR k <;> cases c3 : decide (k = s.lo) <;> cases c4 : hasS s k <;>
    simp only [go_sem, c1, c2, c3, c4, k1, k2, k3, cutS, emptyS]
theorem lt_key {s : Span} {k : List UInt8} (hs : spanR s = true) (hk : keyR k = true) : ltS s.lo k = (leS s.lo k && !decide (k = s.lo)) := by
  rw [Bool.eq_iff_iff]
  simp only [ltS, leS, Bool.and_eq_true, Bool.not_eq_true', decide_eq_true_eq, decide_eq_false_iff_not]
  have hkk := keyR_len hk
  constructor
  · intro h
    exact ⟨by omega, fun e => by rw [e, cmpL_rfl] at h; omega⟩
  · intro ⟨h1, h2⟩
    have : cmpL (lets s.lo) (lets k) ≠ 0 := fun e => by
      have e := cmpL_eq _ _ e
      have q := spanR_lo hs
      simp only [Bool.or_eq_true, decide_eq_true_eq] at q
      rcases q with q | q
      · rw [q, lets_nil, lets_cons hkk.2] at e; simp at e
      · simp only [keyR, Bool.and_eq_true] at q hk
        exact h2 (lets_inj _ _ _ (Nat.le_refl _) q.1 hk.1 e).symm
    omega
theorem cut_eq {s : Span} {k : List UInt8} (hs : spanR s = true) (hk : keyR k = true) : (spanR ⟨s.lo, k⟩ && spanR ⟨k, s.hi⟩) = !(decide (k = s.lo) || !hasS s k) := by
  have hkk := keyR_len hk
  have e1 := spanR_mk (lo := s.lo) (hi := k) (spanR_lo hs) (.inr hk)
  have e2 := spanR_mk (lo := k) (hi := s.hi) (by rw [hk]; simp) ((spanR_hi hs).imp id fun e => e.1)
  rw [e1, e2]
  have e3 : decide (k = []) = false := decide_eq_false hkk.2
  simp only [aheadS, e3, Bool.false_or, hasS, hs, hk, Bool.true_and, lt_key hs hk]
  cases leS s.lo k <;> cases decide (k = s.lo) <;> simp
def H183 (Pg : Nat → Option Fn) : Prop := Pg 183 = some (.code F183) ∧ H167 Pg ∧ H168 Pg
theorem K183 (h : H183 Pg) (s : Span) (k : List UInt8) : K' Pg 183 [.agg (eSpan s), .str k] = some (eSSE (cutS s k)) := by
  obtain ⟨h, h167, h168⟩ := h
  have k1 := K167 h167 s
  have k2 := K168 h168 k
  have k3 := K167 h167 ⟨s.lo, k⟩
  have k4 := K167 h167 ⟨k, s.hi⟩
  simp only [eSpan] at k1 k3 k4
  refine K'_code h rfl ?_
  cases c1 : spanR s with
  | false => simp only [go_sem, c1, k1, cutS, emptyS]
  | true =>
  cases c2 : keyR k with
  | false => simp only [go_sem, c1, c2, k1, k2, cutS, emptyS]
  | true =>
    have e := cut_eq c1 c2
    have e2 : cutS s k = if (spanR ⟨s.lo, k⟩ && spanR ⟨k, s.hi⟩) then (⟨s.lo, k⟩, ⟨k, s.hi⟩, 0) else (emptyS, emptyS, 9) := by
      simp only [cutS, c1, c2, e]
      cases (decide (k = s.lo) || !hasS s k) <;> rfl
    rw [e2]
    cases c3 : spanR ⟨s.lo, k⟩ <;> cases c4 : spanR ⟨k, s.hi⟩ <;>
      simp only [go_sem, c1, c2, c3, c4, k1, k2, k3, k4, emptyS]
def joinS (a b : Span) : Span × Int :=
  if spanR a && spanR b then (if decide (a.hi = []) || !decide (a.hi = b.lo) then (emptyS, 9) else (⟨a.lo, b.hi⟩, 0)) else (emptyS, 1)
def H184 (Pg : Nat → Option Fn) : Prop := Pg 184 = some (.code F184) ∧ H167 Pg
theorem K184 (h : H184 Pg) (a b : Span) : K' Pg 184 [.agg (eSpan a), .agg (eSpan b)] = some (eSE (joinS a b)) := by
  obtain ⟨h, h167⟩ := h
  have k1 := K167 h167 a
  have k2 := K167 h167 b
  simp only [eSpan] at k1 k2
  refine K'_code h rfl ?_
  cases c1 : spanR a <;> cases c2 : spanR b <;> cases c3 : decide (a.hi = []) <;> cases c4 : decide (a.hi = b.lo) <;>
    simp only [go_sem, c1, c2, c3, c4, k1, k2, joinS, emptyS, len_nil]
end Sg
namespace Sg
open _root_.Go (IntKind BinOp UnOp)
set_option linter.unusedSimpArgs false
set_option linter.unusedVariables false
set_option maxRecDepth 10000
variable {Pg : Nat → Option Fn}
@[go_sem] def eSpans (l : List Span) : V := .slice 2 (l.map eSpan)
def wg : Bool → List UInt8 → List Span → Bool
  | _, last, [] => decide (last = [])
  | f, last, x :: l => spanR x && (decide (x.lo = last) && ((f || !decide (last = [])) && wg false x.hi l))
def wholeS (l : List Span) : Bool := !decide (l = []) && wg true [] l
theorem lst_pos {α : Type} [DecidableEq α] {l : List α} : decide ((0 : Int) < (l.length : Int)) = !decide (l = []) := by cases l <;> simp
def H166 (Pg : Nat → Option Fn) : Prop := Pg 166 = some (.code F166) ∧ H186 Pg
theorem K166 (h : H166 Pg) (l : List Span) (hl : l.length < 2 ^ 60) : K' Pg 166 [eSpans l] = some (.bool (wholeS l)) := by
  obtain ⟨h, h186⟩ := h
  have k := fun x => K186 h186 x
  simp only [eSpan] at k
  refine K'_code h rfl ?_
  simp only [go_sem]
  unfold l166_0
  refine wp_lp (fun (i : Nat) S => i ≤ l.length ∧ S.ρ 0 = eSpans l ∧ S.μ 5 = none ∧ S.ρ 6 = eSpans l ∧ S.ρ 7 = iz l.length ∧ S.ρ 8 = iz i ∧ ∃ last, S.ρ 3 = .str last ∧ wg (decide (i = 0)) last (l.drop i) = wg true [] l) (fun i => l.length - i) 0 ?_ ?_
  · simp [go_sem]
  · intro i S ⟨hi, h0, m5, h6, h7, h8, last, h3, ho⟩
    simp only [go_sem, h0, h3, m5, h6, h7, h8]
    refine wpc_i (fun h => ?_) (fun h => ?_)
    · have h := lt_of h
      obtain ⟨x, hx, hd⟩ := drop_at h
      rw [hd] at ho
      simp only [wg] at ho
      simp only [go_sem, h0, h3, m5, h6, h7, h8, hx, k]
      cases c1 : spanR x with
      | false => rw [c1, Bool.false_and] at ho; simp only [go_sem, c1, wholeS, ← ho]
      | true =>
      cases c2 : decide (x.lo = last) with
      | false => rw [c1, c2] at ho; simp only [Bool.false_and, Bool.and_false] at ho; simp only [go_sem, c1, c2, wholeS, ← ho, h0, h3, m5, h6, h7, h8, hx, k]
      | true =>
      rw [c1, c2] at ho
      simp only [Bool.true_and] at ho
      cases c3 : decide (i = 0) with
      | true =>
        rw [c3] at ho
        simp only [Bool.true_or, Bool.true_and] at ho
        simp only [go_sem, c1, c2, c3, h0, h3, m5, h6, h7, h8, hx, k, posd]
        exact ⟨i + 1, by omega, by omega, by rw [inc64 h hl], _, rfl, ho⟩
      | false =>
        rw [c3] at ho
        simp only [Bool.false_or] at ho
        cases c4 : decide (last = []) with
        | true => rw [c4] at ho; simp only [Bool.not_true, Bool.false_and] at ho; simp only [go_sem, c1, c2, c3, c4, wholeS, ← ho, h0, h3, m5, h6, h7, h8, hx, k, posd]
        | false =>
          rw [c4] at ho
          simp only [Bool.not_false, Bool.true_and] at ho
          simp only [go_sem, c1, c2, c3, c4, h0, h3, m5, h6, h7, h8, hx, k, posd]
          exact ⟨i + 1, by omega, by omega, by rw [inc64 h hl], _, rfl, ho⟩
    · have h := eq_of hi h
      subst h
      rw [List.drop_length] at ho
      simp only [wg] at ho
      simp only [go_sem, h0, h3, lst_pos, wholeS, ← ho]
      cases c : decide (l = []) <;> simp only [go_sem, c, h0, h3]
def rg : Span → List Span → Bool
  | s, [] => decide (s = emptyS)
  | s, x :: l => if (joinS s x).2 = 0 then rg (joinS s x).1 l else false
theorem rg_no : ∀ (l : List Span) (s : Span), s.lo ≠ [] → rg s l = false
  | [], s, h => by
    simp only [rg]
    exact decide_eq_false fun e => h (by rw [e]; rfl)
  | x :: l, s, h => by
    simp only [rg]
    split
    · refine rg_no l _ ?_
      rename_i he
      simp only [joinS] at he ⊢
      split at he
      · split at he
        · simp at he
        · rename_i h1 h2; rw [if_pos h1, if_neg h2]; exact h
      · simp at he
    · rfl
theorem rg_wg : ∀ (l : List Span) (s : Span), spanR s = true → s.lo = [] → rg s l = wg false s.hi l
  | [], s, hs, h => by
    simp only [rg, wg]
    exact decide_eq_decide.2 ⟨fun e => by rw [e]; rfl, fun e => by cases s; simp only at h e; rw [h, e]; rfl⟩
  | x :: l, s, hs, h => by
    simp only [rg, wg]
    cases c1 : spanR x with
    | false =>
      have : joinS s x = (emptyS, 1) := by simp only [joinS, hs, c1]; rfl
      rw [this]; rfl
    | true =>
    cases c2 : decide (s.hi = []) with
    | true =>
      have : joinS s x = (emptyS, 9) := by simp only [joinS, hs, c1, c2]; rfl
      rw [this]; simp
    | false =>
    cases c3 : decide (s.hi = x.lo) with
    | false =>
      have : joinS s x = (emptyS, 9) := by simp only [joinS, hs, c1, c2, c3]; rfl
      have e : decide (x.lo = s.hi) = false := decide_eq_false fun e => of_decide_eq_false c3 e.symm
      rw [this, e]; simp
    | true =>
      have : joinS s x = (⟨s.lo, x.hi⟩, 0) := by simp only [joinS, hs, c1, c2, c3]; rfl
      have e : decide (x.lo = s.hi) = true := decide_eq_true (of_decide_eq_true c3).symm
      rw [this, e]
      have hr : spanR ⟨s.lo, x.hi⟩ = true := by
        have q := spanR_hi c1
        rw [spanR_mk (spanR_lo hs) (q.imp id fun e => e.1), h, ahead_iff]
        rcases q with q | q
        · exact .inl q
        · right
          rw [lets_nil, lets_cons (keyR_len q.1).2]
          simp [cmpL]
      simp only [if_true, Bool.not_false, Bool.or_true, Bool.true_and]
      exact rg_wg l _ hr h
theorem whole_rg (l : List Span) : wholeS l = match l with | [] => false | s :: l => spanR s && rg s l := by
  cases l with
  | nil => rfl
  | cons s l =>
    have : decide (s :: l = []) = false := rfl
    simp only [wholeS, this, Bool.not_false, Bool.true_and, wg, Bool.true_or]
    cases c1 : spanR s with
    | false => rfl
    | true =>
      by_cases h : s.lo = []
      · rw [rg_wg l s c1 h, decide_eq_true h]; rfl
      · rw [rg_no l s h, decide_eq_false h]; rfl
def H174 (Pg : Nat → Option Fn) : Prop := Pg 174 = some (.code F174) ∧ H167 Pg ∧ H184 Pg
theorem K174 (h : H174 Pg) (l : List Span) (hl : l.length < 2 ^ 60) : K' Pg 174 [eSpans l] = some (.bool (wholeS l)) := by
  obtain ⟨h, h167, h184⟩ := h
  rw [whole_rg]
  refine K'_code h rfl ?_
  cases l with
  | nil => simp only [go_sem]
  | cons s l =>
    have k1 := K167 h167 s
    have k2 := fun a b => K184 h184 a b
    simp only [eSpan, eSE] at k1 k2
    have hz : decide (((l.length + 1 : Nat) : Int) = 0) = false := decide_eq_false (by omega)
    cases c1 : spanR s with
    | false => simp only [go_sem, c1, k1, hz]
    | true =>
      simp only [go_sem, c1, k1, hz]
      unfold l174_0
      refine wp_lp (fun (i : Nat) S => ∃ t, i ≤ l.length ∧ S.ρ 0 = eSpans (s :: l) ∧ S.ρ 3 = .lref 3 0 ∧ S.μ 3 = some (eSpan t, false) ∧ S.μ 5 = none ∧ S.ρ 4 = iz ((i + 1 : Nat) : Int) ∧ rg t (l.drop i) = rg s l) (fun i => l.length - i) 0 ?_ ?_
      · exact ⟨s, by simp [go_sem]⟩
      · intro i S ⟨t, hi, h0, h3, m3, m5, h4, ho⟩
        have e1 : decide (((i + 1 : Nat) : Int) < ((l.length + 1 : Nat) : Int)) = decide (i < l.length) := decide_eq_decide.2 (by omega)
        simp only [go_sem, h0, h3, m3, m5, h4, e1]
        refine wpc_i (fun h => ?_) (fun h => ?_)
        · have h := of_decide_eq_true h
          obtain ⟨x, hx, hd⟩ := drop_at h
          have hx' : (s :: l)[i + 1]? = some x := by simpa using hx
          have hinc : IntKind.i64.wrap (((i + 1 : Nat) : Int) + 1) = ((i + 1 + 1 : Nat) : Int) := wrap64 (by simp only [List.length_cons] at hl; omega) (by simp only [List.length_cons] at hl; omega)
          rw [hd] at ho
          simp only [rg] at ho
          simp only [go_sem, h0, h3, m3, m5, h4, hx, k2]
          cases c2 : decide ((joinS t x).2 = 0) with
          | false =>
            rw [if_neg (of_decide_eq_false c2)] at ho
            simp only [go_sem, c2, ← ho]
          | true =>
            rw [if_pos (of_decide_eq_true c2)] at ho
            simp only [go_sem, c2, h0, h3, m3, m5, h4, hx]
            exact ⟨i + 1, by omega, (joinS t x).1, by omega, rfl, by rw [hinc], ho⟩
        · have h : i = l.length := by have := of_decide_eq_false h; omega
          subst h
          rw [List.drop_length] at ho
          simp only [rg] at ho
          have e : (decide (t.lo = []) && decide (t.hi = [])) = decide (t = emptyS) := by
            cases t; simp only [emptyS, Span.mk.injEq, Bool.decide_and]
          simp only [go_sem, h0, h3, m3, e, ho]
end Sg
