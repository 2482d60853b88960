/- The compact functions, printed by wip/gen/seat.py. -/
import Derived.Test.YtclmbbbpijboaaaSgRun
namespace Sg
open _root_.Go (IntKind BinOp UnOp)

def r1_0 : List Op := [
  ⟨some 3, true, .box (.g 1), none⟩,
  ⟨some 4, true, .mov (.c (.bool false)), none⟩]
def r1_1 : List Op := [
  ⟨some 9, false, .mov (.g 0), none⟩,
  ⟨some 10, false, .len false (.l 0), none⟩,
  ⟨some 11, true, .bin .gtr (.l 1) (.c (.int .i64 100)), none⟩]
def r1_2 : List Op := [
  ⟨some 12, false, .call (.k 2) .no none [], none⟩,
  ⟨some 4, true, .mov (.l 0), none⟩]
def r1_3 : List Op := [
  ⟨some 14, false, .mov (.g 0), none⟩,
  ⟨some 15, false, .load (.v 3) (some 5) (.g 3), none⟩,
  ⟨some 16, false, .call (.k 3) .no none [.l 0, .l 1], none⟩,
  ⟨some 13, false, .mov (.l 2), none⟩,
  ⟨some 17, false, .ext (.l 3) 0, none⟩,
  ⟨some 18, false, .ext (.l 3) 1, none⟩,
  ⟨some 5, true, .mov (.l 4), none⟩,
  ⟨some 6, true, .mov (.l 5), none⟩]
def r1_4 : List Op := [
  ⟨some 19, false, .mov (.g 0), none⟩,
  ⟨some 20, false, .call (.k 4) .no none [.l 0], none⟩,
  ⟨some 7, true, .mov (.l 1), none⟩]
def r1_5 : List Op := [
  ⟨some 8, true, .mov (.c (.int .i64 0)), none⟩]
def r1_6 : List Op := [
  ⟨some 22, false, .mov (.g 7), none⟩,
  ⟨some 23, false, .un .not (.l 0), none⟩,
  ⟨some 24, false, .mov (.l 1), none⟩,
  ⟨some 25, false, .load (.v 3) (some 5) (.g 3), (some (2, false))⟩,
  ⟨some 26, false, .call (.k 5) .no none [.l 3], (some (2, false))⟩,
  ⟨some 27, false, .un .not (.l 4), (some (2, false))⟩,
  ⟨some 28, false, .pick (.l 2) (.c (.bool true)) (.l 5), none⟩,
  ⟨some 21, true, .mov (.l 6), none⟩]
def r1_7 : List Op := [
  ⟨some 8, true, .mov (.c (.int .i64 1)), none⟩]
def r1_8 : List Op := [
  ⟨some 30, false, .mov (.g 0), none⟩,
  ⟨some 31, false, .len false (.l 0), none⟩,
  ⟨some 32, false, .bin .gtr (.l 1) (.c (.int .i64 0)), none⟩,
  ⟨some 33, false, .mov (.l 2), none⟩,
  ⟨some 34, false, .mov (.g 0), (some (3, true))⟩,
  ⟨some 35, false, .mov (.g 0), (some (3, true))⟩,
  ⟨some 36, false, .len false (.l 5), (some (3, true))⟩,
  ⟨some 37, false, .bin .sub (.l 6) (.c (.int .i64 1)), (some (3, true))⟩,
  ⟨some 38, false, .iad 5 (.l 4) (.l 7), (some (3, true))⟩,
  ⟨some 39, false, .fad (.l 8) 0, (some (3, true))⟩,
  ⟨some 40, false, .load (.c) (some 3) (.l 9), (some (3, true))⟩,
  ⟨some 41, false, .fad (.g 3) 0, (some (3, true))⟩,
  ⟨some 42, false, .load (.v 3) (some 3) (.l 11), (some (3, true))⟩,
  ⟨some 43, false, .call (.k 6) .no none [.l 10, .l 12], (some (3, true))⟩,
  ⟨some 44, false, .un .not (.l 13), (some (3, true))⟩,
  ⟨some 45, false, .pick (.l 3) (.l 14) (.c (.bool false)), none⟩,
  ⟨some 29, true, .mov (.l 15), none⟩]
def r1_9 : List Op := [
  ⟨some 8, true, .mov (.c (.int .i64 9)), none⟩]
def r1_10 : List Op := [
  ⟨some 47, false, .mov (.g 0), none⟩,
  ⟨some 48, false, .len false (.l 0), none⟩,
  ⟨some 49, false, .bin .gtr (.l 1) (.c (.int .i64 63)), none⟩,
  ⟨some 46, true, .mov (.l 2), none⟩]
def r1_11 : List Op := [
  ⟨some 8, true, .mov (.c (.int .i64 6)), none⟩]
def r1_12 : List Op := [
  ⟨some 50, false, .mov (.g 8), none⟩,
  ⟨some 51, true, .bin .neq (.l 0) (.c (.int .i64 0)), none⟩]
def r1_13 : List Op := [
  ⟨some 52, false, .mov (.g 5), none⟩,
  ⟨some 53, false, .len false (.l 0), none⟩,
  ⟨some 54, false, .bin .eql (.l 1) (.c (.int .i64 0)), none⟩,
  ⟨some 55, false, .mov (.l 2), none⟩,
  ⟨some 56, false, .mov (.g 6), (some (3, true))⟩,
  ⟨some 57, false, .mov (.g 8), (some (3, true))⟩,
  ⟨some 58, false, .bin .eql (.l 4) (.l 5), (some (3, true))⟩,
  ⟨some 59, false, .pick (.l 3) (.l 6) (.c (.bool false)), none⟩,
  ⟨some 60, false, .mov (.l 7), none⟩,
  ⟨some 61, false, .mov (.g 0), (some (8, true))⟩,
  ⟨some 62, false, .call (.k 7) .no none [.l 9], (some (8, true))⟩,
  ⟨some 63, false, .mov (.g 7), (some (8, true))⟩,
  ⟨some 64, false, .eqb false (.l 10) (.l 11), (some (8, true))⟩,
  ⟨some 65, false, .pick (.l 8) (.l 12) (.c (.bool false)), none⟩,
  ⟨some 66, false, .mov (.l 13), none⟩,
  ⟨some 67, false, .call (.k 2) .no none [], (some (14, true))⟩,
  ⟨some 68, false, .pick (.l 14) (.l 15) (.c (.bool false)), none⟩,
  ⟨some 4, true, .mov (.l 16), none⟩]
def r1_14 : List Op := [
  ⟨some 69, false, .mov (.g 5), none⟩,
  ⟨some 70, false, .len false (.l 0), none⟩,
  ⟨some 71, false, .mov (.g 0), none⟩,
  ⟨some 72, false, .len false (.l 2), none⟩,
  ⟨some 73, false, .bin .add (.l 3) (.c (.int .i64 1)), none⟩,
  ⟨some 74, false, .bin .eql (.l 1) (.l 4), none⟩,
  ⟨some 75, false, .mov (.l 5), none⟩,
  ⟨some 76, false, .mov (.g 5), (some (6, true))⟩,
  ⟨some 77, false, .mov (.g 0), (some (6, true))⟩,
  ⟨some 78, false, .len false (.l 8), (some (6, true))⟩,
  ⟨some 79, false, .sl false 5 (.l 7) none (some (.l 9)), (some (6, true))⟩,
  ⟨some 80, false, .mov (.g 0), (some (6, true))⟩,
  ⟨some 81, false, .call (.k 8) .no none [.l 10, .l 11], (some (6, true))⟩,
  ⟨some 82, false, .pick (.l 6) (.l 12) (.c (.bool false)), none⟩,
  ⟨some 83, false, .mov (.l 13), none⟩,
  ⟨some 84, false, .mov (.g 5), (some (14, true))⟩,
  ⟨some 85, false, .mov (.g 0), (some (14, true))⟩,
  ⟨some 86, false, .len false (.l 16), (some (14, true))⟩,
  ⟨some 87, false, .iad 5 (.l 15) (.l 17), (some (14, true))⟩,
  ⟨some 88, false, .load (.c) (some 5) (.l 18), (some (14, true))⟩,
  ⟨some 89, false, .load (.v 3) (some 5) (.g 3), (some (14, true))⟩,
  ⟨some 90, false, .eqa false [.i, .i, .i, .b, .s] (.l 19) (.l 20), (some (14, true))⟩,
  ⟨some 91, false, .pick (.l 14) (.l 21) (.c (.bool false)), none⟩,
  ⟨some 92, false, .mov (.l 22), none⟩,
  ⟨some 93, false, .mov (.g 6), (some (23, true))⟩,
  ⟨some 94, false, .bin .eql (.l 24) (.c (.int .i64 0)), (some (23, true))⟩,
  ⟨some 95, false, .pick (.l 23) (.l 25) (.c (.bool false)), none⟩,
  ⟨some 96, false, .mov (.l 26), none⟩,
  ⟨some 97, false, .mov (.g 0), (some (27, true))⟩,
  ⟨some 98, false, .call (.k 7) .no none [.l 28], (some (27, true))⟩,
  ⟨some 99, false, .pick (.l 27) (.l 29) (.c (.bool false)), none⟩,
  ⟨some 100, false, .mov (.l 30), none⟩,
  ⟨some 101, false, .call (.k 2) .no none [], (some (31, true))⟩,
  ⟨some 102, false, .pick (.l 31) (.l 32) (.c (.bool false)), none⟩,
  ⟨some 4, true, .mov (.l 33), none⟩]
def c1 : C := .seq (.region false r1_0) (.seq (.seq (.region false r1_1) (.cond (.g 11) (.seq (.region false r1_2) (.ret)) (.skip))) (.seq (.region false r1_3) (.seq (.region false r1_4) (.seq (.region false r1_5) (.seq (.block 0 (.seq (.region false r1_6) (.cond (.g 21) (.region false r1_7) (.seq (.region true r1_8) (.cond (.g 29) (.region false r1_9) (.seq (.region false r1_10) (.cond (.g 46) (.region false r1_11) (.skip)))))))) (.seq (.seq (.region false r1_12) (.cond (.g 51) (.seq (.region false r1_13) (.ret)) (.skip))) (.seq (.region true r1_14) (.ret))))))))
/-- stratigraph.stratigraphlaw07.ChainAdds -/
def F1 : F := ⟨2, [0, 1, 3, 4, 5, 6, 7, 8, 11, 21, 29, 46, 51], [.t 4], none, c1⟩
attribute [go_sem] r1_0 r1_1 r1_2 r1_3 r1_4 r1_5 r1_6 r1_7 r1_8 r1_9 r1_10 r1_11 r1_12 r1_13 r1_14 c1 F1
def r9_0 : List Op := [
  ⟨some 3, true, .box (.g 1), none⟩,
  ⟨some 4, true, .mov (.c (.bool false)), none⟩]
def r9_1 : List Op := [
  ⟨some 13, false, .mov (.g 0), none⟩,
  ⟨some 14, false, .len false (.l 0), none⟩,
  ⟨some 15, true, .bin .gtr (.l 1) (.c (.int .i64 100)), none⟩]
def r9_2 : List Op := [
  ⟨some 16, false, .call (.k 2) .no none [], none⟩,
  ⟨some 4, true, .mov (.l 0), none⟩]
def r9_3 : List Op := [
  ⟨some 18, false, .mov (.g 0), none⟩,
  ⟨some 19, false, .load (.v 3) (some 3) (.g 3), none⟩,
  ⟨some 20, false, .call (.k 10) .no none [.l 0, .l 1], none⟩,
  ⟨some 17, false, .mov (.l 2), none⟩,
  ⟨some 21, false, .ext (.l 3) 0, none⟩,
  ⟨some 22, false, .ext (.l 3) 1, none⟩,
  ⟨some 5, true, .alloc [.int .i64 0, .int .i64 0, .int .i64 0, .bool false, .str []], none⟩,
  ⟨none, false, .store (.v 5) 5 (.l 6) (.l 4), none⟩,
  ⟨some 6, true, .mov (.l 5), none⟩]
def r9_4 : List Op := [
  ⟨some 24, false, .mov (.g 0), none⟩,
  ⟨some 25, false, .load (.v 3) (some 3) (.g 3), none⟩,
  ⟨some 26, false, .call (.k 11) .no none [.l 0, .l 1], none⟩,
  ⟨some 23, false, .mov (.l 2), none⟩,
  ⟨some 27, false, .ext (.l 3) 0, none⟩,
  ⟨some 28, false, .ext (.l 3) 1, none⟩,
  ⟨some 7, true, .alloc [.int .i64 0, .int .i64 0, .int .i64 0, .bool false, .str []], none⟩,
  ⟨none, false, .store (.v 7) 5 (.l 6) (.l 4), none⟩,
  ⟨some 8, true, .mov (.l 5), none⟩]
def r9_5 : List Op := [
  ⟨some 30, false, .mov (.g 0), none⟩,
  ⟨some 31, false, .load (.v 3) (some 3) (.g 3), none⟩,
  ⟨some 32, false, .call (.k 12) .no none [.l 0, .l 1], none⟩,
  ⟨some 29, false, .mov (.l 2), none⟩,
  ⟨some 33, false, .ext (.l 3) 0, none⟩,
  ⟨some 34, false, .ext (.l 3) 1, none⟩,
  ⟨some 9, true, .mov (.l 4), none⟩,
  ⟨some 10, true, .mov (.l 5), none⟩]
def r9_6 : List Op := [
  ⟨some 36, false, .mov (.g 0), none⟩,
  ⟨some 37, false, .load (.v 3) (some 3) (.g 3), none⟩,
  ⟨some 38, false, .call (.k 13) .no none [.l 0, .l 1], none⟩,
  ⟨some 35, false, .mov (.l 2), none⟩,
  ⟨some 39, false, .ext (.l 3) 0, none⟩,
  ⟨some 40, false, .ext (.l 3) 1, none⟩,
  ⟨some 11, true, .mov (.l 4), none⟩,
  ⟨some 12, true, .mov (.l 5), none⟩]
def r9_7 : List Op := [
  ⟨some 41, false, .load (.v 5) (some 5) (.g 5), none⟩,
  ⟨some 42, false, .load (.v 7) (some 5) (.g 7), none⟩,
  ⟨some 43, false, .eqa false [.i, .i, .i, .b, .s] (.l 0) (.l 1), none⟩,
  ⟨some 44, false, .mov (.l 2), none⟩,
  ⟨some 45, false, .mov (.g 6), (some (3, true))⟩,
  ⟨some 46, false, .mov (.g 8), (some (3, true))⟩,
  ⟨some 47, false, .eqb false (.l 4) (.l 5), (some (3, true))⟩,
  ⟨some 48, false, .pick (.l 3) (.l 6) (.c (.bool false)), none⟩,
  ⟨some 49, false, .mov (.l 7), none⟩,
  ⟨some 50, false, .mov (.g 9), (some (8, true))⟩,
  ⟨some 51, false, .mov (.g 11), (some (8, true))⟩,
  ⟨some 52, false, .bin .eql (.l 9) (.l 10), (some (8, true))⟩,
  ⟨some 53, false, .pick (.l 8) (.l 11) (.c (.bool false)), none⟩,
  ⟨some 54, false, .mov (.l 12), none⟩,
  ⟨some 55, false, .mov (.g 10), (some (13, true))⟩,
  ⟨some 56, false, .mov (.g 12), (some (13, true))⟩,
  ⟨some 57, false, .eqb false (.l 14) (.l 15), (some (13, true))⟩,
  ⟨some 58, false, .pick (.l 13) (.l 16) (.c (.bool false)), none⟩,
  ⟨some 59, false, .mov (.l 17), none⟩,
  ⟨some 60, false, .call (.k 2) .no none [], (some (18, true))⟩,
  ⟨some 61, false, .pick (.l 18) (.l 19) (.c (.bool false)), none⟩,
  ⟨some 4, true, .mov (.l 20), none⟩]
def c9 : C := .seq (.region false r9_0) (.seq (.seq (.region false r9_1) (.cond (.g 15) (.seq (.region false r9_2) (.ret)) (.skip))) (.seq (.region false r9_3) (.seq (.region false r9_4) (.seq (.region false r9_5) (.seq (.region false r9_6) (.seq (.region false r9_7) (.ret)))))))
/-- stratigraph.stratigraphlaw07.ChainReads -/
def F9 : F := ⟨2, [0, 1, 3, 4, 5, 6, 7, 8, 9, 10, 11, 12, 15], [.t 4], none, c9⟩
attribute [go_sem] r9_0 r9_1 r9_2 r9_3 r9_4 r9_5 r9_6 r9_7 c9 F9
def r14_0 : List Op := [
  ⟨some 4, true, .box (.g 1), none⟩,
  ⟨some 5, true, .box (.g 2), none⟩,
  ⟨some 6, true, .mov (.c (.bool false)), none⟩]
def r14_1 : List Op := [
  ⟨some 13, false, .mov (.g 0), none⟩,
  ⟨some 14, false, .len false (.l 0), none⟩,
  ⟨some 15, true, .bin .gtr (.l 1) (.c (.int .i64 100)), none⟩]
def r14_2 : List Op := [
  ⟨some 16, false, .call (.k 2) .no none [], none⟩,
  ⟨some 6, true, .mov (.l 0), none⟩]
def r14_3 : List Op := [
  ⟨some 18, false, .mov (.g 0), none⟩,
  ⟨some 19, false, .load (.v 4) (some 5) (.g 4), none⟩,
  ⟨some 20, false, .call (.k 3) .no none [.l 0, .l 1], none⟩,
  ⟨some 17, false, .mov (.l 2), none⟩,
  ⟨some 21, false, .ext (.l 3) 0, none⟩,
  ⟨some 22, false, .ext (.l 3) 1, none⟩,
  ⟨some 7, true, .mov (.l 4), none⟩,
  ⟨some 8, true, .mov (.l 5), none⟩]
def r14_4 : List Op := [
  ⟨some 23, false, .mov (.g 8), none⟩,
  ⟨some 24, true, .bin .neq (.l 0) (.c (.int .i64 0)), none⟩]
def r14_5 : List Op := [
  ⟨some 25, false, .mov (.g 7), none⟩,
  ⟨some 26, false, .len false (.l 0), none⟩,
  ⟨some 27, false, .bin .eql (.l 1) (.c (.int .i64 0)), none⟩,
  ⟨some 28, false, .mov (.l 2), none⟩,
  ⟨some 29, false, .call (.k 2) .no none [], (some (3, true))⟩,
  ⟨some 30, false, .pick (.l 3) (.l 4) (.c (.bool false)), none⟩,
  ⟨some 6, true, .mov (.l 5), none⟩]
def r14_6 : List Op := [
  ⟨some 32, false, .mov (.g 7), none⟩,
  ⟨some 33, false, .load (.v 5) (some 3) (.g 5), none⟩,
  ⟨some 34, false, .call (.k 12) .no none [.l 0, .l 1], none⟩,
  ⟨some 31, false, .mov (.l 2), none⟩,
  ⟨some 35, false, .ext (.l 3) 0, none⟩,
  ⟨some 36, false, .ext (.l 3) 1, none⟩,
  ⟨some 9, true, .mov (.l 4), none⟩,
  ⟨some 10, true, .mov (.l 5), none⟩]
def r14_7 : List Op := [
  ⟨some 37, false, .load (.v 5) (some 3) (.g 5), none⟩,
  ⟨some 38, false, .fad (.g 4) 0, none⟩,
  ⟨some 39, false, .load (.v 4) (some 3) (.l 1), none⟩,
  ⟨some 40, false, .call (.k 15) .no none [.l 0, .l 2], none⟩,
  ⟨some 41, true, .bin .geq (.l 3) (.c (.int .i64 0)), none⟩]
def r14_8 : List Op := [
  ⟨some 42, false, .mov (.g 9), none⟩,
  ⟨some 43, false, .fad (.g 4) 4, none⟩,
  ⟨some 44, false, .load (.v 4) none (.l 1), none⟩,
  ⟨some 45, false, .bin .eql (.l 0) (.l 2), none⟩,
  ⟨some 46, false, .mov (.l 3), none⟩,
  ⟨some 47, false, .mov (.g 10), (some (4, true))⟩,
  ⟨some 48, false, .fad (.g 4) 3, (some (4, true))⟩,
  ⟨some 49, false, .load (.v 4) none (.l 6), (some (4, true))⟩,
  ⟨some 50, false, .un .not (.l 7), (some (4, true))⟩,
  ⟨some 51, false, .eqb false (.l 5) (.l 8), (some (4, true))⟩,
  ⟨some 52, false, .pick (.l 4) (.l 9) (.c (.bool false)), none⟩,
  ⟨some 53, false, .mov (.l 10), none⟩,
  ⟨some 54, false, .mov (.g 7), (some (11, true))⟩,
  ⟨some 55, false, .call (.k 7) .no none [.l 12], (some (11, true))⟩,
  ⟨some 56, false, .pick (.l 11) (.l 13) (.c (.bool false)), none⟩,
  ⟨some 57, false, .mov (.l 14), none⟩,
  ⟨some 58, false, .call (.k 2) .no none [], (some (15, true))⟩,
  ⟨some 59, false, .pick (.l 15) (.l 16) (.c (.bool false)), none⟩,
  ⟨some 6, true, .mov (.l 17), none⟩]
def r14_9 : List Op := [
  ⟨some 61, false, .mov (.g 0), none⟩,
  ⟨some 62, false, .load (.v 5) (some 3) (.g 5), none⟩,
  ⟨some 63, false, .call (.k 12) .no none [.l 0, .l 1], none⟩,
  ⟨some 60, false, .mov (.l 2), none⟩,
  ⟨some 64, false, .ext (.l 3) 0, none⟩,
  ⟨some 65, false, .ext (.l 3) 1, none⟩,
  ⟨some 11, true, .mov (.l 4), none⟩,
  ⟨some 12, true, .mov (.l 5), none⟩]
def r14_10 : List Op := [
  ⟨some 66, false, .mov (.g 9), none⟩,
  ⟨some 67, false, .mov (.g 11), none⟩,
  ⟨some 68, false, .bin .eql (.l 0) (.l 1), none⟩,
  ⟨some 69, false, .mov (.l 2), none⟩,
  ⟨some 70, false, .mov (.g 10), (some (3, true))⟩,
  ⟨some 71, false, .mov (.g 12), (some (3, true))⟩,
  ⟨some 72, false, .eqb false (.l 4) (.l 5), (some (3, true))⟩,
  ⟨some 73, false, .pick (.l 3) (.l 6) (.c (.bool false)), none⟩,
  ⟨some 74, false, .mov (.l 7), none⟩,
  ⟨some 75, false, .call (.k 2) .no none [], (some (8, true))⟩,
  ⟨some 76, false, .pick (.l 8) (.l 9) (.c (.bool false)), none⟩,
  ⟨some 6, true, .mov (.l 10), none⟩]
def c14 : C := .seq (.region false r14_0) (.seq (.seq (.region false r14_1) (.cond (.g 15) (.seq (.region false r14_2) (.ret)) (.skip))) (.seq (.region false r14_3) (.seq (.seq (.region false r14_4) (.cond (.g 24) (.seq (.region false r14_5) (.ret)) (.skip))) (.seq (.region false r14_6) (.seq (.seq (.region false r14_7) (.cond (.g 41) (.seq (.region false r14_8) (.ret)) (.skip))) (.seq (.region false r14_9) (.seq (.region false r14_10) (.ret))))))))
/-- stratigraph.stratigraphlaw07.ChainBehind -/
def F14 : F := ⟨3, [0, 1, 2, 4, 5, 6, 7, 8, 9, 10, 11, 12, 15, 24, 41], [.t 6], none, c14⟩
attribute [go_sem] r14_0 r14_1 r14_2 r14_3 r14_4 r14_5 r14_6 r14_7 r14_8 r14_9 r14_10 c14 F14
def r16_0 : List Op := [
  ⟨some 3, true, .box (.g 1), none⟩,
  ⟨some 4, true, .mov (.c (.bool false)), none⟩]
def r16_1 : List Op := [
  ⟨some 6, false, .mov (.g 0), none⟩,
  ⟨some 7, false, .len false (.l 0), none⟩,
  ⟨some 8, true, .bin .gtr (.l 1) (.c (.int .i64 100)), none⟩]
def r16_2 : List Op := [
  ⟨some 9, false, .call (.k 2) .no none [], none⟩,
  ⟨some 4, true, .mov (.l 0), none⟩]
def r16_3 : List Op := [
  ⟨some 10, false, .mov (.g 0), none⟩,
  ⟨some 11, false, .load (.v 3) (some 3) (.g 3), none⟩,
  ⟨some 12, false, .call (.k 17) .no none [.l 0, .l 1], none⟩,
  ⟨some 5, true, .mov (.l 2), none⟩]
def r16_4 : List Op := [
  ⟨some 13, false, .mov (.g 0), none⟩,
  ⟨some 14, false, .call (.k 4) .no none [.l 0], none⟩,
  ⟨some 15, true, .un .not (.l 1), none⟩]
def r16_5 : List Op := [
  ⟨some 16, false, .mov (.g 5), none⟩,
  ⟨some 17, false, .len false (.l 0), none⟩,
  ⟨some 18, false, .bin .eql (.l 1) (.c (.int .i64 0)), none⟩,
  ⟨some 19, false, .mov (.l 2), none⟩,
  ⟨some 20, false, .call (.k 2) .no none [], (some (3, true))⟩,
  ⟨some 21, false, .pick (.l 3) (.l 4) (.c (.bool false)), none⟩,
  ⟨some 4, true, .mov (.l 5), none⟩]
def r16_6 : List Op := [
  ⟨some 22, false, .mov (.g 5), none⟩,
  ⟨some 23, false, .mov (.g 0), none⟩,
  ⟨some 24, false, .load (.v 3) (some 3) (.g 3), none⟩,
  ⟨some 25, false, .call (.k 18) .no none [.l 1, .l 2], none⟩,
  ⟨some 26, false, .call (.k 8) .no none [.l 0, .l 3], none⟩,
  ⟨some 27, false, .mov (.l 4), none⟩,
  ⟨some 28, false, .call (.k 2) .no none [], (some (5, true))⟩,
  ⟨some 29, false, .pick (.l 5) (.l 6) (.c (.bool false)), none⟩,
  ⟨some 4, true, .mov (.l 7), none⟩]
def c16 : C := .seq (.region false r16_0) (.seq (.seq (.region false r16_1) (.cond (.g 8) (.seq (.region false r16_2) (.ret)) (.skip))) (.seq (.region false r16_3) (.seq (.seq (.region false r16_4) (.cond (.g 15) (.seq (.region false r16_5) (.ret)) (.skip))) (.seq (.region false r16_6) (.ret)))))
/-- stratigraph.stratigraphlaw07.ChainPrunes -/
def F16 : F := ⟨2, [0, 1, 3, 4, 5, 8, 15], [.t 4], none, c16⟩
attribute [go_sem] r16_0 r16_1 r16_2 r16_3 r16_4 r16_5 r16_6 c16 F16
def r19_0 : List Op := [
  ⟨some 4, true, .box (.g 1), none⟩,
  ⟨some 5, true, .box (.g 2), none⟩,
  ⟨some 6, true, .mov (.c (.bool false)), none⟩]
def r19_1 : List Op := [
  ⟨some 12, false, .mov (.g 0), none⟩,
  ⟨some 13, false, .len false (.l 0), none⟩,
  ⟨some 14, false, .bin .gtr (.l 1) (.c (.int .i64 100)), none⟩,
  ⟨some 15, false, .mov (.l 2), none⟩,
  ⟨some 16, false, .mov (.g 0), (some (3, false))⟩,
  ⟨some 17, false, .call (.k 7) .no none [.l 4], (some (3, false))⟩,
  ⟨some 18, false, .un .not (.l 5), (some (3, false))⟩,
  ⟨some 19, false, .pick (.l 3) (.c (.bool true)) (.l 6), none⟩,
  ⟨some 20, false, .mov (.l 7), none⟩,
  ⟨some 21, false, .load (.v 5) (some 3) (.g 5), (some (8, false))⟩,
  ⟨some 22, false, .load (.v 4) (some 3) (.g 4), (some (8, false))⟩,
  ⟨some 23, false, .call (.k 15) .no none [.l 9, .l 10], (some (8, false))⟩,
  ⟨some 24, false, .bin .lss (.l 11) (.c (.int .i64 0)), (some (8, false))⟩,
  ⟨some 25, true, .pick (.l 8) (.c (.bool true)) (.l 12), none⟩]
def r19_2 : List Op := [
  ⟨some 26, false, .call (.k 2) .no none [], none⟩,
  ⟨some 6, true, .mov (.l 0), none⟩]
def r19_3 : List Op := [
  ⟨some 27, false, .mov (.g 0), none⟩,
  ⟨some 28, false, .load (.v 4) (some 3) (.g 4), none⟩,
  ⟨some 29, false, .call (.k 17) .no none [.l 0, .l 1], none⟩,
  ⟨some 7, true, .mov (.l 2), none⟩]
def r19_4 : List Op := [
  ⟨some 31, false, .mov (.g 0), none⟩,
  ⟨some 32, false, .load (.v 5) (some 3) (.g 5), none⟩,
  ⟨some 33, false, .call (.k 12) .no none [.l 0, .l 1], none⟩,
  ⟨some 30, false, .mov (.l 2), none⟩,
  ⟨some 34, false, .ext (.l 3) 0, none⟩,
  ⟨some 35, false, .ext (.l 3) 1, none⟩,
  ⟨some 8, true, .mov (.l 4), none⟩,
  ⟨some 9, true, .mov (.l 5), none⟩]
def r19_5 : List Op := [
  ⟨some 37, false, .mov (.g 7), none⟩,
  ⟨some 38, false, .load (.v 5) (some 3) (.g 5), none⟩,
  ⟨some 39, false, .call (.k 12) .no none [.l 0, .l 1], none⟩,
  ⟨some 36, false, .mov (.l 2), none⟩,
  ⟨some 40, false, .ext (.l 3) 0, none⟩,
  ⟨some 41, false, .ext (.l 3) 1, none⟩,
  ⟨some 10, true, .mov (.l 4), none⟩,
  ⟨some 11, true, .mov (.l 5), none⟩]
def r19_6 : List Op := [
  ⟨some 42, false, .mov (.g 8), none⟩,
  ⟨some 43, false, .mov (.g 10), none⟩,
  ⟨some 44, false, .bin .eql (.l 0) (.l 1), none⟩,
  ⟨some 45, false, .mov (.l 2), none⟩,
  ⟨some 46, false, .mov (.g 9), (some (3, true))⟩,
  ⟨some 47, false, .mov (.g 11), (some (3, true))⟩,
  ⟨some 48, false, .eqb false (.l 4) (.l 5), (some (3, true))⟩,
  ⟨some 49, false, .pick (.l 3) (.l 6) (.c (.bool false)), none⟩,
  ⟨some 50, false, .mov (.l 7), none⟩,
  ⟨some 51, false, .mov (.g 7), (some (8, true))⟩,
  ⟨some 52, false, .len false (.l 9), (some (8, true))⟩,
  ⟨some 53, false, .mov (.g 0), (some (8, true))⟩,
  ⟨some 54, false, .len false (.l 11), (some (8, true))⟩,
  ⟨some 55, false, .bin .leq (.l 10) (.l 12), (some (8, true))⟩,
  ⟨some 56, false, .pick (.l 8) (.l 13) (.c (.bool false)), none⟩,
  ⟨some 57, false, .mov (.l 14), none⟩,
  ⟨some 58, false, .mov (.g 7), (some (15, true))⟩,
  ⟨some 59, false, .call (.k 7) .no none [.l 16], (some (15, true))⟩,
  ⟨some 60, false, .pick (.l 15) (.l 17) (.c (.bool false)), none⟩,
  ⟨some 61, false, .mov (.l 18), none⟩,
  ⟨some 62, false, .call (.k 2) .no none [], (some (19, true))⟩,
  ⟨some 63, false, .pick (.l 19) (.l 20) (.c (.bool false)), none⟩,
  ⟨some 6, true, .mov (.l 21), none⟩]
def c19 : C := .seq (.region false r19_0) (.seq (.seq (.region false r19_1) (.cond (.g 25) (.seq (.region false r19_2) (.ret)) (.skip))) (.seq (.region false r19_3) (.seq (.region false r19_4) (.seq (.region false r19_5) (.seq (.region false r19_6) (.ret))))))
/-- stratigraph.stratigraphlaw07.ChainKeeps -/
def F19 : F := ⟨3, [0, 1, 2, 4, 5, 6, 7, 8, 9, 10, 11, 25], [.t 6], none, c19⟩
attribute [go_sem] r19_0 r19_1 r19_2 r19_3 r19_4 r19_5 r19_6 c19 F19
def r20_0 : List Op := [
  ⟨some 4, true, .box (.g 1), none⟩,
  ⟨some 5, true, .box (.g 2), none⟩,
  ⟨some 6, true, .mov (.c (.bool false)), none⟩]
def r20_1 : List Op := [
  ⟨some 10, false, .mov (.g 0), none⟩,
  ⟨some 11, false, .len false (.l 0), none⟩,
  ⟨some 12, false, .bin .gtr (.l 1) (.c (.int .i64 100)), none⟩,
  ⟨some 13, false, .mov (.l 2), none⟩,
  ⟨some 14, false, .mov (.g 0), (some (3, false))⟩,
  ⟨some 15, false, .call (.k 7) .no none [.l 4], (some (3, false))⟩,
  ⟨some 16, false, .un .not (.l 5), (some (3, false))⟩,
  ⟨some 17, true, .pick (.l 3) (.c (.bool true)) (.l 6), none⟩]
def r20_2 : List Op := [
  ⟨some 18, false, .call (.k 2) .no none [], none⟩,
  ⟨some 6, true, .mov (.l 0), none⟩]
def r20_3 : List Op := [
  ⟨some 19, false, .mov (.g 0), none⟩,
  ⟨some 20, false, .load (.v 4) (some 3) (.g 4), none⟩,
  ⟨some 21, false, .call (.k 17) .no none [.l 0, .l 1], none⟩,
  ⟨some 22, false, .load (.v 5) (some 3) (.g 5), none⟩,
  ⟨some 23, false, .call (.k 17) .no none [.l 2, .l 3], none⟩,
  ⟨some 7, true, .mov (.l 4), none⟩]
def r20_4 : List Op := [
  ⟨some 24, false, .mov (.g 0), none⟩,
  ⟨some 25, false, .load (.v 5) (some 3) (.g 5), none⟩,
  ⟨some 26, false, .call (.k 17) .no none [.l 0, .l 1], none⟩,
  ⟨some 27, false, .load (.v 4) (some 3) (.g 4), none⟩,
  ⟨some 28, false, .call (.k 17) .no none [.l 2, .l 3], none⟩,
  ⟨some 8, true, .mov (.l 4), none⟩]
def r20_5 : List Op := [
  ⟨some 29, false, .mov (.g 0), none⟩,
  ⟨some 30, false, .load (.v 4) (some 3) (.g 4), none⟩,
  ⟨some 31, false, .load (.v 5) (some 3) (.g 5), none⟩,
  ⟨some 32, false, .call (.k 21) .no none [.l 1, .l 2], none⟩,
  ⟨some 33, false, .call (.k 17) .no none [.l 0, .l 3], none⟩,
  ⟨some 9, true, .mov (.l 4), none⟩]
def r20_6 : List Op := [
  ⟨some 34, false, .mov (.g 7), none⟩,
  ⟨some 35, false, .mov (.g 9), none⟩,
  ⟨some 36, false, .call (.k 8) .no none [.l 0, .l 1], none⟩,
  ⟨some 37, false, .mov (.l 2), none⟩,
  ⟨some 38, false, .mov (.g 8), (some (3, true))⟩,
  ⟨some 39, false, .mov (.g 9), (some (3, true))⟩,
  ⟨some 40, false, .call (.k 8) .no none [.l 4, .l 5], (some (3, true))⟩,
  ⟨some 41, false, .pick (.l 3) (.l 6) (.c (.bool false)), none⟩,
  ⟨some 42, false, .mov (.l 7), none⟩,
  ⟨some 43, false, .call (.k 2) .no none [], (some (8, true))⟩,
  ⟨some 44, false, .pick (.l 8) (.l 9) (.c (.bool false)), none⟩,
  ⟨some 6, true, .mov (.l 10), none⟩]
def c20 : C := .seq (.region false r20_0) (.seq (.seq (.region false r20_1) (.cond (.g 17) (.seq (.region false r20_2) (.ret)) (.skip))) (.seq (.region true r20_3) (.seq (.region true r20_4) (.seq (.region false r20_5) (.seq (.region false r20_6) (.ret))))))
/-- stratigraph.stratigraphlaw07.ChainTwice -/
def F20 : F := ⟨3, [0, 1, 2, 4, 5, 6, 7, 8, 9, 17], [.t 6], none, c20⟩
attribute [go_sem] r20_0 r20_1 r20_2 r20_3 r20_4 r20_5 r20_6 c20 F20
def r2_0 : List Op := [
  ⟨some 0, true, .mov (.c (.bool false)), none⟩]
def r2_1 : List Op := [
  ⟨some 6, false, .build [.int .i64 0, .int .i64 0, .int .i64 0] [(0, 1, .c (.int .i64 1))], none⟩,
  ⟨some 7, false, .build [.int .i64 0, .int .i64 0, .int .i64 0, .bool false, .str []] [(0, 3, .l 0), (4, 1, .c (.str [97]))], none⟩,
  ⟨some 8, false, .call (.k 3) .no none [.c (.slice 5 []), .l 1], none⟩,
  ⟨some 5, false, .mov (.l 2), none⟩,
  ⟨some 9, false, .ext (.l 3) 0, none⟩,
  ⟨some 10, false, .ext (.l 3) 1, none⟩,
  ⟨some 1, true, .mov (.l 4), none⟩,
  ⟨some 2, true, .mov (.l 5), none⟩]
def r2_2 : List Op := [
  ⟨some 12, false, .mov (.g 1), none⟩,
  ⟨some 13, false, .build [.int .i64 0, .int .i64 0, .int .i64 0] [(0, 1, .c (.int .i64 2))], none⟩,
  ⟨some 14, false, .call (.k 12) .no none [.l 0, .l 1], none⟩,
  ⟨some 11, false, .mov (.l 2), none⟩,
  ⟨some 15, false, .ext (.l 3) 0, none⟩,
  ⟨some 16, false, .ext (.l 3) 1, none⟩,
  ⟨some 3, true, .mov (.l 4), none⟩,
  ⟨some 4, true, .mov (.l 5), none⟩]
def r2_3 : List Op := [
  ⟨some 17, false, .mov (.g 1), none⟩,
  ⟨some 18, false, .len false (.l 0), none⟩,
  ⟨some 19, false, .bin .eql (.l 1) (.c (.int .i64 1)), none⟩,
  ⟨some 20, false, .mov (.l 2), none⟩,
  ⟨some 21, false, .mov (.g 2), (some (3, true))⟩,
  ⟨some 22, false, .bin .eql (.l 4) (.c (.int .i64 0)), (some (3, true))⟩,
  ⟨some 23, false, .pick (.l 3) (.l 5) (.c (.bool false)), none⟩,
  ⟨some 24, false, .mov (.l 6), none⟩,
  ⟨some 25, false, .mov (.g 3), (some (7, true))⟩,
  ⟨some 26, false, .bin .eql (.l 8) (.c (.str [97])), (some (7, true))⟩,
  ⟨some 27, false, .pick (.l 7) (.l 9) (.c (.bool false)), none⟩,
  ⟨some 28, false, .mov (.l 10), none⟩,
  ⟨some 29, false, .mov (.g 4), (some (11, true))⟩,
  ⟨some 30, false, .pick (.l 11) (.l 12) (.c (.bool false)), none⟩,
  ⟨some 31, false, .mov (.l 13), none⟩,
  ⟨some 32, false, .mov (.g 1), (some (14, true))⟩,
  ⟨some 33, false, .call (.k 7) .no none [.l 15], (some (14, true))⟩,
  ⟨some 34, false, .pick (.l 14) (.l 16) (.c (.bool false)), none⟩,
  ⟨some 0, true, .mov (.l 17), none⟩]
def c2 : C := .seq (.region false r2_0) (.seq (.region false r2_1) (.seq (.region false r2_2) (.seq (.region false r2_3) (.ret))))
/-- stratigraph.stratigraphlaw07.awake -/
def F2 : F := ⟨0, [0, 1, 2, 3, 4], [.t 0], none, c2⟩
attribute [go_sem] r2_0 r2_1 r2_2 r2_3 c2 F2
def r3_0 : List Op := [
  ⟨some 3, true, .box (.g 1), none⟩,
  ⟨some 4, true, .mov (.c (.slice 5 [])), none⟩,
  ⟨some 5, true, .mov (.c (.int .i64 0)), none⟩]
def r3_1 : List Op := [
  ⟨some 7, false, .mov (.g 0), none⟩,
  ⟨some 8, false, .call (.k 7) .no none [.l 0], none⟩,
  ⟨some 9, false, .un .not (.l 1), none⟩,
  ⟨some 10, false, .mov (.l 2), none⟩,
  ⟨some 11, false, .load (.v 3) (some 5) (.g 3), (some (3, false))⟩,
  ⟨some 12, false, .call (.k 22) .no none [.l 4], (some (3, false))⟩,
  ⟨some 13, false, .un .not (.l 5), (some (3, false))⟩,
  ⟨some 14, false, .pick (.l 3) (.c (.bool true)) (.l 6), none⟩,
  ⟨some 6, true, .mov (.l 7), none⟩]
def r3_2 : List Op := [
  ⟨some 4, true, .mov (.c (.slice 5 [])), none⟩,
  ⟨some 5, true, .mov (.c (.int .i64 1)), none⟩]
def r3_3 : List Op := [
  ⟨some 16, false, .mov (.g 0), none⟩,
  ⟨some 17, false, .len false (.l 0), none⟩,
  ⟨some 18, false, .bin .gtr (.l 1) (.c (.int .i64 0)), none⟩,
  ⟨some 19, false, .mov (.l 2), none⟩,
  ⟨some 20, false, .mov (.g 0), (some (3, true))⟩,
  ⟨some 21, false, .mov (.g 0), (some (3, true))⟩,
  ⟨some 22, false, .len false (.l 5), (some (3, true))⟩,
  ⟨some 23, false, .bin .sub (.l 6) (.c (.int .i64 1)), (some (3, true))⟩,
  ⟨some 24, false, .iad 5 (.l 4) (.l 7), (some (3, true))⟩,
  ⟨some 25, false, .fad (.l 8) 0, (some (3, true))⟩,
  ⟨some 26, false, .load (.c) (some 3) (.l 9), (some (3, true))⟩,
  ⟨some 27, false, .fad (.g 3) 0, (some (3, true))⟩,
  ⟨some 28, false, .load (.v 3) (some 3) (.l 11), (some (3, true))⟩,
  ⟨some 29, false, .call (.k 15) .no none [.l 10, .l 12], (some (3, true))⟩,
  ⟨some 30, false, .bin .geq (.l 13) (.c (.int .i64 0)), (some (3, true))⟩,
  ⟨some 31, false, .pick (.l 3) (.l 14) (.c (.bool false)), none⟩,
  ⟨some 15, true, .mov (.l 15), none⟩]
def r3_4 : List Op := [
  ⟨some 4, true, .mov (.c (.slice 5 [])), none⟩,
  ⟨some 5, true, .mov (.c (.int .i64 9)), none⟩]
def r3_5 : List Op := [
  ⟨some 33, false, .mov (.g 0), none⟩,
  ⟨some 34, false, .len false (.l 0), none⟩,
  ⟨some 35, false, .bin .eql (.l 1) (.c (.int .i64 64)), none⟩,
  ⟨some 32, true, .mov (.l 2), none⟩]
def r3_6 : List Op := [
  ⟨some 4, true, .mov (.c (.slice 5 [])), none⟩,
  ⟨some 5, true, .mov (.c (.int .i64 6)), none⟩]
def r3_7 : List Op := [
  ⟨some 36, false, .mov (.g 0), none⟩,
  ⟨some 37, false, .call (.k 23) .no (some 0) [.l 0], none⟩,
  ⟨some 38, false, .load (.v 3) (some 5) (.g 3), none⟩,
  ⟨some 39, false, .mks 5 1 [.int .i64 0, .int .i64 0, .int .i64 0, .bool false, .str []] [(0, .l 2)], none⟩,
  ⟨some 40, false, .app 37 5 (.l 1) (.l 3), none⟩,
  ⟨some 4, true, .mov (.l 4), none⟩,
  ⟨some 5, true, .mov (.c (.int .i64 0)), none⟩]
def c3 : C := .seq (.region false r3_0) (.seq (.block 0 (.seq (.region false r3_1) (.cond (.g 6) (.seq (.region false r3_2) (.ret)) (.seq (.region true r3_3) (.cond (.g 15) (.seq (.region false r3_4) (.ret)) (.seq (.region false r3_5) (.cond (.g 32) (.seq (.region false r3_6) (.ret)) (.skip)))))))) (.seq (.region true r3_7) (.ret)))
/-- stratigraph.chain.Add -/
def F3 : F := ⟨2, [0, 1, 3, 4, 5, 6, 15, 32], [.t 4, .t 5], none, c3⟩
attribute [go_sem] r3_0 r3_1 r3_2 r3_3 r3_4 r3_5 r3_6 r3_7 c3 F3
def r4_0 : List Op := [
  ⟨some 2, true, .mov (.c (.bool false)), none⟩]
def r4_1 : List Op := [
  ⟨some 4, false, .mov (.g 0), none⟩,
  ⟨some 5, false, .len false (.l 0), none⟩,
  ⟨some 6, true, .bin .gtr (.l 1) (.c (.int .i64 64)), none⟩]
def r4_2 : List Op := [
  ⟨some 2, true, .mov (.c (.bool false)), none⟩]
def r4_3 : List Op := [
  ⟨some 3, true, .mov (.c (.int .i64 0)), none⟩]
def r4_4 : List Op := [
  ⟨some 7, false, .mov (.g 3), none⟩,
  ⟨some 8, false, .mov (.g 0), none⟩,
  ⟨some 9, false, .len false (.l 1), none⟩,
  ⟨some 10, true, .bin .lss (.l 0) (.l 2), none⟩]
def r4_5 : List Op := [
  ⟨some 13, false, .mov (.g 0), none⟩,
  ⟨some 14, false, .mov (.g 3), none⟩,
  ⟨some 15, false, .iad 5 (.l 0) (.l 1), none⟩,
  ⟨some 16, false, .load (.c) (some 5) (.l 2), none⟩,
  ⟨some 17, false, .call (.k 5) .no none [.l 3], none⟩,
  ⟨some 18, true, .un .not (.l 4), none⟩]
def r4_6 : List Op := [
  ⟨some 2, true, .mov (.c (.bool false)), none⟩]
def r4_7 : List Op := [
  ⟨some 19, false, .mov (.g 3), none⟩,
  ⟨some 20, false, .bin .gtr (.l 0) (.c (.int .i64 0)), none⟩,
  ⟨some 21, false, .mov (.l 1), none⟩,
  ⟨some 22, false, .mov (.g 0), (some (2, true))⟩,
  ⟨some 23, false, .mov (.g 3), (some (2, true))⟩,
  ⟨some 24, false, .bin .sub (.l 4) (.c (.int .i64 1)), (some (2, true))⟩,
  ⟨some 25, false, .iad 5 (.l 3) (.l 5), (some (2, true))⟩,
  ⟨some 26, false, .fad (.l 6) 0, (some (2, true))⟩,
  ⟨some 27, false, .load (.c) (some 3) (.l 7), (some (2, true))⟩,
  ⟨some 28, false, .mov (.g 0), (some (2, true))⟩,
  ⟨some 29, false, .mov (.g 3), (some (2, true))⟩,
  ⟨some 30, false, .iad 5 (.l 9) (.l 10), (some (2, true))⟩,
  ⟨some 31, false, .fad (.l 11) 0, (some (2, true))⟩,
  ⟨some 32, false, .load (.c) (some 3) (.l 12), (some (2, true))⟩,
  ⟨some 33, false, .call (.k 6) .no none [.l 8, .l 13], (some (2, true))⟩,
  ⟨some 34, false, .un .not (.l 14), (some (2, true))⟩,
  ⟨some 35, true, .pick (.l 2) (.l 15) (.c (.bool false)), none⟩]
def r4_8 : List Op := [
  ⟨some 2, true, .mov (.c (.bool false)), none⟩]
def r4_9 : List Op := [
  ⟨some 11, false, .mov (.g 3), none⟩,
  ⟨some 12, false, .bin .add (.l 0) (.c (.int .i64 1)), none⟩,
  ⟨some 3, true, .mov (.l 1), none⟩]
def b4_0 : C := .seq (.seq (.region false r4_4) (.cond (.g 10) (.skip) (.exit 0))) (.seq (.block 1 (.seq (.seq (.region false r4_5) (.cond (.g 18) (.seq (.region false r4_6) (.ret)) (.skip))) (.seq (.region true r4_7) (.cond (.g 35) (.seq (.region false r4_8) (.ret)) (.skip))))) (.region false r4_9))
def l4_0 : C := .loop [] [] [] [] b4_0
def r4_10 : List Op := [
  ⟨some 2, true, .mov (.c (.bool true)), none⟩]
def c4 : C := .seq (.region false r4_0) (.seq (.seq (.region false r4_1) (.cond (.g 6) (.seq (.region false r4_2) (.ret)) (.skip))) (.seq (.seq (.region false r4_3) (.block 0 (l4_0))) (.seq (.region false r4_10) (.ret))))
/-- stratigraph.stratigraphref07.Right -/
def F4 : F := ⟨1, [0, 2, 3, 6, 10, 18, 35], [.t 2], none, c4⟩
attribute [go_sem] r4_0 r4_1 r4_2 r4_3 r4_4 r4_5 r4_6 r4_7 r4_8 r4_9 b4_0 r4_10 c4 F4
def r5_0 : List Op := [
  ⟨some 1, true, .box (.g 0), none⟩,
  ⟨some 2, true, .mov (.c (.bool false)), none⟩]
def r5_1 : List Op := [
  ⟨some 3, false, .fad (.g 1) 3, none⟩,
  ⟨some 4, false, .load (.v 1) none (.l 0), none⟩,
  ⟨some 5, false, .mov (.l 1), none⟩,
  ⟨some 6, false, .fad (.g 1) 4, (some (2, true))⟩,
  ⟨some 7, false, .load (.v 1) none (.l 3), (some (2, true))⟩,
  ⟨some 8, false, .len true (.l 4), (some (2, true))⟩,
  ⟨some 9, false, .bin .gtr (.l 5) (.c (.int .i64 0)), (some (2, true))⟩,
  ⟨some 10, true, .pick (.l 2) (.l 6) (.c (.bool false)), none⟩]
def r5_2 : List Op := [
  ⟨some 2, true, .mov (.c (.bool false)), none⟩]
def r5_3 : List Op := [
  ⟨some 11, false, .fad (.g 1) 0, none⟩,
  ⟨some 12, false, .load (.v 1) (some 3) (.l 0), none⟩,
  ⟨some 13, false, .call (.k 24) .no none [.l 1], none⟩,
  ⟨some 14, false, .mov (.l 2), none⟩,
  ⟨some 15, false, .fad (.g 1) 4, (some (3, true))⟩,
  ⟨some 16, false, .load (.v 1) none (.l 4), (some (3, true))⟩,
  ⟨some 17, false, .len true (.l 5), (some (3, true))⟩,
  ⟨some 18, false, .bin .lss (.l 6) (.c (.int .i64 17)), (some (3, true))⟩,
  ⟨some 19, false, .pick (.l 3) (.l 7) (.c (.bool false)), none⟩,
  ⟨some 2, true, .mov (.l 8), none⟩]
def c5 : C := .seq (.region false r5_0) (.seq (.seq (.region false r5_1) (.cond (.g 10) (.seq (.region false r5_2) (.ret)) (.skip))) (.seq (.region false r5_3) (.ret)))
/-- stratigraph.stratigraphref07.One -/
def F5 : F := ⟨1, [0, 1, 2, 10], [.t 2], none, c5⟩
attribute [go_sem] r5_0 r5_1 r5_2 r5_3 c5 F5
def r6_0 : List Op := [
  ⟨some 2, true, .box (.g 0), none⟩,
  ⟨some 3, true, .box (.g 1), none⟩,
  ⟨some 4, true, .mov (.c (.bool false)), none⟩]
def r6_1 : List Op := [
  ⟨some 5, false, .fad (.g 2) 0, none⟩,
  ⟨some 6, false, .load (.v 2) none (.l 0), none⟩,
  ⟨some 7, false, .fad (.g 3) 0, none⟩,
  ⟨some 8, false, .load (.v 3) none (.l 2), none⟩,
  ⟨some 9, true, .bin .neq (.l 1) (.l 3), none⟩]
def r6_2 : List Op := [
  ⟨some 10, false, .fad (.g 2) 0, none⟩,
  ⟨some 11, false, .load (.v 2) none (.l 0), none⟩,
  ⟨some 12, false, .fad (.g 3) 0, none⟩,
  ⟨some 13, false, .load (.v 3) none (.l 2), none⟩,
  ⟨some 14, false, .bin .lss (.l 1) (.l 3), none⟩,
  ⟨some 4, true, .mov (.l 4), none⟩]
def r6_3 : List Op := [
  ⟨some 15, false, .fad (.g 2) 1, none⟩,
  ⟨some 16, false, .load (.v 2) none (.l 0), none⟩,
  ⟨some 17, false, .fad (.g 3) 1, none⟩,
  ⟨some 18, false, .load (.v 3) none (.l 2), none⟩,
  ⟨some 19, true, .bin .neq (.l 1) (.l 3), none⟩]
def r6_4 : List Op := [
  ⟨some 20, false, .fad (.g 2) 1, none⟩,
  ⟨some 21, false, .load (.v 2) none (.l 0), none⟩,
  ⟨some 22, false, .fad (.g 3) 1, none⟩,
  ⟨some 23, false, .load (.v 3) none (.l 2), none⟩,
  ⟨some 24, false, .bin .lss (.l 1) (.l 3), none⟩,
  ⟨some 4, true, .mov (.l 4), none⟩]
def r6_5 : List Op := [
  ⟨some 25, false, .fad (.g 2) 2, none⟩,
  ⟨some 26, false, .load (.v 2) none (.l 0), none⟩,
  ⟨some 27, false, .fad (.g 3) 2, none⟩,
  ⟨some 28, false, .load (.v 3) none (.l 2), none⟩,
  ⟨some 29, false, .bin .lss (.l 1) (.l 3), none⟩,
  ⟨some 4, true, .mov (.l 4), none⟩]
def c6 : C := .seq (.region false r6_0) (.seq (.seq (.region false r6_1) (.cond (.g 9) (.seq (.region false r6_2) (.ret)) (.skip))) (.seq (.seq (.region false r6_3) (.cond (.g 19) (.seq (.region false r6_4) (.ret)) (.skip))) (.seq (.region false r6_5) (.ret))))
/-- stratigraph.stratigraphref05.Before -/
def F6 : F := ⟨2, [0, 1, 2, 3, 4, 9, 19], [.t 4], none, c6⟩
attribute [go_sem] r6_0 r6_1 r6_2 r6_3 r6_4 r6_5 c6 F6
def r7_0 : List Op := [
  ⟨some 2, true, .mov (.c (.bool false)), none⟩]
def r7_1 : List Op := [
  ⟨some 5, true, .mov (.g 0), none⟩,
  ⟨some 6, true, .len false (.l 0), none⟩,
  ⟨some 7, true, .mov (.c (.int .i64 0)), none⟩]
def r7_2 : List Op := [
  ⟨some 8, true, .bin .lss (.g 7) (.g 6), none⟩]
def r7_3 : List Op := [
  ⟨some 9, false, .mov (.g 7), none⟩,
  ⟨some 10, false, .iad 5 (.g 5) (.g 7), none⟩,
  ⟨some 11, false, .load (.c) (some 5) (.l 1), none⟩,
  ⟨some 4, true, .alloc [.int .i64 0, .int .i64 0, .int .i64 0, .bool false, .str []], none⟩,
  ⟨some 3, true, .mov (.l 0), none⟩,
  ⟨none, false, .store (.v 4) 5 (.l 3) (.l 2), none⟩]
def r7_4 : List Op := [
  ⟨some 12, false, .load (.v 4) (some 5) (.g 4), none⟩,
  ⟨some 13, false, .call (.k 22) .no none [.l 0], none⟩,
  ⟨some 14, false, .un .not (.l 1), none⟩,
  ⟨some 15, false, .mov (.l 2), none⟩,
  ⟨some 16, false, .mov (.g 3), (some (3, false))⟩,
  ⟨some 17, false, .bin .gtr (.l 4) (.c (.int .i64 0)), (some (3, false))⟩,
  ⟨some 18, false, .mov (.l 5), (some (3, false))⟩,
  ⟨some 19, false, .mov (.g 0), (some (6, true))⟩,
  ⟨some 20, false, .mov (.g 3), (some (6, true))⟩,
  ⟨some 21, false, .bin .sub (.l 8) (.c (.int .i64 1)), (some (6, true))⟩,
  ⟨some 22, false, .iad 5 (.l 7) (.l 9), (some (6, true))⟩,
  ⟨some 23, false, .fad (.l 10) 0, (some (6, true))⟩,
  ⟨some 24, false, .load (.c) (some 3) (.l 11), (some (6, true))⟩,
  ⟨some 25, false, .fad (.g 4) 0, (some (6, true))⟩,
  ⟨some 26, false, .load (.v 4) (some 3) (.l 13), (some (6, true))⟩,
  ⟨some 27, false, .call (.k 15) .no none [.l 12, .l 14], (some (6, true))⟩,
  ⟨some 28, false, .bin .geq (.l 15) (.c (.int .i64 0)), (some (6, true))⟩,
  ⟨some 29, false, .pick (.l 6) (.l 16) (.c (.bool false)), (some (3, false))⟩,
  ⟨some 30, true, .pick (.l 3) (.c (.bool true)) (.l 17), none⟩]
def r7_5 : List Op := [
  ⟨some 2, true, .mov (.c (.bool false)), none⟩]
def r7_6 : List Op := [
  ⟨some 31, false, .bin .add (.g 7) (.c (.int .i64 1)), none⟩,
  ⟨some 7, true, .mov (.l 0), none⟩]
def b7_0 : C := .seq (.region false r7_2) (.seq (.cond (.g 8) (.skip) (.exit 0)) (.seq (.block 1 (.seq (.region false r7_3) (.seq (.region true r7_4) (.cond (.g 30) (.seq (.region false r7_5) (.ret)) (.skip))))) (.region false r7_6)))
def l7_0 : C := .loop [] [] [4] [] b7_0
def r7_7 : List Op := [
  ⟨some 32, false, .mov (.g 0), none⟩,
  ⟨some 33, false, .len false (.l 0), none⟩,
  ⟨some 34, false, .bin .leq (.l 1) (.c (.int .i64 64)), none⟩,
  ⟨some 2, true, .mov (.l 2), none⟩]
def c7 : C := .seq (.region false r7_0) (.seq (.seq (.region false r7_1) (.block 0 (l7_0))) (.seq (.region false r7_7) (.ret)))
/-- stratigraph.chain.Right -/
def F7 : F := ⟨1, [0, 2, 3, 4, 5, 6, 7, 8, 30], [.t 2], none, c7⟩
attribute [go_sem] r7_0 r7_1 r7_2 r7_3 r7_4 r7_5 r7_6 b7_0 r7_7 c7 F7
def r8_0 : List Op := [
  ⟨some 4, true, .mov (.c (.bool false)), none⟩]
def r8_1 : List Op := [
  ⟨some 6, false, .mov (.g 0), none⟩,
  ⟨some 7, false, .len false (.l 0), none⟩,
  ⟨some 8, false, .mov (.g 1), none⟩,
  ⟨some 9, false, .len false (.l 2), none⟩,
  ⟨some 10, true, .bin .neq (.l 1) (.l 3), none⟩]
def r8_2 : List Op := [
  ⟨some 4, true, .mov (.c (.bool false)), none⟩]
def r8_3 : List Op := [
  ⟨some 5, true, .mov (.c (.int .i64 0)), none⟩]
def r8_4 : List Op := [
  ⟨some 11, false, .mov (.g 5), none⟩,
  ⟨some 12, false, .mov (.g 0), none⟩,
  ⟨some 13, false, .len false (.l 1), none⟩,
  ⟨some 14, true, .bin .lss (.l 0) (.l 2), none⟩]
def r8_5 : List Op := [
  ⟨some 17, false, .mov (.g 0), none⟩,
  ⟨some 18, false, .mov (.g 5), none⟩,
  ⟨some 19, false, .iad 5 (.l 0) (.l 1), none⟩,
  ⟨some 20, false, .load (.c) (some 5) (.l 2), none⟩,
  ⟨some 21, false, .mov (.g 1), none⟩,
  ⟨some 22, false, .mov (.g 5), none⟩,
  ⟨some 23, false, .iad 5 (.l 4) (.l 5), none⟩,
  ⟨some 24, false, .load (.c) (some 5) (.l 6), none⟩,
  ⟨some 25, true, .eqa true [.i, .i, .i, .b, .s] (.l 3) (.l 7), none⟩]
def r8_6 : List Op := [
  ⟨some 4, true, .mov (.c (.bool false)), none⟩]
def r8_7 : List Op := [
  ⟨some 15, false, .mov (.g 5), none⟩,
  ⟨some 16, false, .bin .add (.l 0) (.c (.int .i64 1)), none⟩,
  ⟨some 5, true, .mov (.l 1), none⟩]
def b8_0 : C := .seq (.seq (.region false r8_4) (.cond (.g 14) (.skip) (.exit 0))) (.seq (.block 1 (.seq (.region true r8_5) (.cond (.g 25) (.seq (.region false r8_6) (.ret)) (.skip)))) (.region false r8_7))
def l8_0 : C := .loop [] [] [] [] b8_0
def r8_8 : List Op := [
  ⟨some 4, true, .mov (.c (.bool true)), none⟩]
def c8 : C := .seq (.region false r8_0) (.seq (.seq (.region false r8_1) (.cond (.g 10) (.seq (.region false r8_2) (.ret)) (.skip))) (.seq (.seq (.region false r8_3) (.block 0 (l8_0))) (.seq (.region false r8_8) (.ret))))
/-- stratigraph.stratigraphref07.Equal -/
def F8 : F := ⟨2, [0, 1, 4, 5, 10, 14, 25], [.t 4], none, c8⟩
attribute [go_sem] r8_0 r8_1 r8_2 r8_3 r8_4 r8_5 r8_6 r8_7 b8_0 r8_8 c8 F8
def r10_0 : List Op := [
  ⟨some 3, true, .box (.g 1), none⟩,
  ⟨some 4, true, .alloc [.int .i64 0, .int .i64 0, .int .i64 0, .bool false, .str []], none⟩,
  ⟨some 5, true, .mov (.c (.bool false)), none⟩]
def r10_1 : List Op := [
  ⟨some 7, false, .mov (.g 0), none⟩,
  ⟨some 8, false, .call (.k 7) .no none [.l 0], none⟩,
  ⟨some 9, true, .un .not (.l 1), none⟩]
def r10_2 : List Op := [
  ⟨some 10, false, .build [.int .i64 0, .int .i64 0, .int .i64 0, .bool false, .str []] [], none⟩,
  ⟨none, false, .store (.v 4) 5 (.g 4) (.l 0), none⟩,
  ⟨some 5, true, .mov (.c (.bool false)), none⟩]
def r10_3 : List Op := [
  ⟨some 11, false, .mov (.g 0), none⟩,
  ⟨some 12, false, .load (.v 3) (some 3) (.g 3), none⟩,
  ⟨some 13, false, .call (.k 25) .no none [.l 0, .l 1], none⟩,
  ⟨some 6, true, .mov (.l 2), none⟩]
def r10_4 : List Op := [
  ⟨some 14, false, .mov (.g 6), none⟩,
  ⟨some 15, true, .bin .eql (.l 0) (.c (.int .i64 0)), none⟩]
def r10_5 : List Op := [
  ⟨some 16, false, .build [.int .i64 0, .int .i64 0, .int .i64 0, .bool false, .str []] [], none⟩,
  ⟨none, false, .store (.v 4) 5 (.g 4) (.l 0), none⟩,
  ⟨some 5, true, .mov (.c (.bool false)), none⟩]
def r10_6 : List Op := [
  ⟨some 17, false, .mov (.g 0), none⟩,
  ⟨some 18, false, .mov (.g 6), none⟩,
  ⟨some 19, false, .bin .sub (.l 1) (.c (.int .i64 1)), none⟩,
  ⟨some 20, false, .iad 5 (.l 0) (.l 2), none⟩,
  ⟨some 21, false, .load (.c) (some 5) (.l 3), none⟩,
  ⟨none, false, .store (.v 4) 5 (.g 4) (.l 4), none⟩,
  ⟨some 5, true, .mov (.c (.bool true)), none⟩]
def c10 : C := .seq (.region false r10_0) (.seq (.seq (.region false r10_1) (.cond (.g 9) (.seq (.region false r10_2) (.ret)) (.skip))) (.seq (.region false r10_3) (.seq (.seq (.region false r10_4) (.cond (.g 15) (.seq (.region false r10_5) (.ret)) (.skip))) (.seq (.region false r10_6) (.ret)))))
/-- stratigraph.chain.At -/
def F10 : F := ⟨2, [0, 1, 3, 4, 5, 6, 9, 15], [.cell 4 (some 5), .t 5], none, c10⟩
attribute [go_sem] r10_0 r10_1 r10_2 r10_3 r10_4 r10_5 r10_6 c10 F10
def r11_0 : List Op := [
  ⟨some 3, true, .box (.g 1), none⟩,
  ⟨some 4, true, .alloc [.int .i64 0, .int .i64 0, .int .i64 0, .bool false, .str []], none⟩,
  ⟨some 5, true, .mov (.c (.bool false)), none⟩]
def r11_1 : List Op := [
  ⟨some 9, false, .build [.int .i64 0, .int .i64 0, .int .i64 0, .bool false, .str []] [], none⟩,
  ⟨some 6, true, .alloc [.int .i64 0, .int .i64 0, .int .i64 0, .bool false, .str []], none⟩,
  ⟨none, false, .store (.v 6) 5 (.l 1) (.l 0), none⟩,
  ⟨some 7, true, .mov (.c (.bool false)), none⟩]
def r11_2 : List Op := [
  ⟨some 8, true, .mov (.c (.int .i64 0)), none⟩]
def r11_3 : List Op := [
  ⟨some 10, false, .mov (.g 8), none⟩,
  ⟨some 11, false, .mov (.g 0), none⟩,
  ⟨some 12, false, .len false (.l 1), none⟩,
  ⟨some 13, false, .bin .lss (.l 0) (.l 2), none⟩,
  ⟨some 14, false, .mov (.l 3), none⟩,
  ⟨some 15, false, .mov (.g 0), (some (4, true))⟩,
  ⟨some 16, false, .call (.k 4) .no none [.l 5], (some (4, true))⟩,
  ⟨some 17, true, .pick (.l 4) (.l 6) (.c (.bool false)), none⟩]
def r11_4 : List Op := [
  ⟨some 20, false, .load (.v 3) (some 3) (.g 3), none⟩,
  ⟨some 21, false, .mov (.g 0), none⟩,
  ⟨some 22, false, .mov (.g 8), none⟩,
  ⟨some 23, false, .iad 5 (.l 1) (.l 2), none⟩,
  ⟨some 24, false, .fad (.l 3) 0, none⟩,
  ⟨some 25, false, .load (.c) (some 3) (.l 4), none⟩,
  ⟨some 26, false, .call (.k 6) .no none [.l 0, .l 5], none⟩,
  ⟨some 27, true, .un .not (.l 6), none⟩]
def r11_5 : List Op := [
  ⟨some 28, false, .mov (.g 0), none⟩,
  ⟨some 29, false, .mov (.g 8), none⟩,
  ⟨some 30, false, .iad 5 (.l 0) (.l 1), none⟩,
  ⟨some 31, false, .load (.c) (some 5) (.l 2), none⟩,
  ⟨none, false, .store (.v 6) 5 (.g 6) (.l 3), none⟩,
  ⟨some 7, true, .mov (.c (.bool true)), none⟩]
def r11_6 : List Op := [
  ⟨some 18, false, .mov (.g 8), none⟩,
  ⟨some 19, false, .bin .add (.l 0) (.c (.int .i64 1)), none⟩,
  ⟨some 8, true, .mov (.l 1), none⟩]
def b11_0 : C := .seq (.seq (.region false r11_3) (.cond (.g 17) (.skip) (.exit 0))) (.seq (.block 1 (.seq (.region true r11_4) (.cond (.g 27) (.region false r11_5) (.skip)))) (.region false r11_6))
def l11_0 : C := .loop [] [] [] [] b11_0
def r11_7 : List Op := [
  ⟨some 32, false, .load (.v 6) (some 5) (.g 6), none⟩,
  ⟨some 33, false, .mov (.g 7), none⟩,
  ⟨none, false, .store (.v 4) 5 (.g 4) (.l 0), none⟩,
  ⟨some 5, true, .mov (.l 1), none⟩]
def c11 : C := .seq (.region false r11_0) (.seq (.region false r11_1) (.seq (.seq (.region false r11_2) (.block 0 (l11_0))) (.seq (.region false r11_7) (.ret))))
/-- stratigraph.stratigraphref07.At -/
def F11 : F := ⟨2, [0, 1, 3, 4, 5, 6, 7, 8, 17, 27], [.cell 4 (some 5), .t 5], none, c11⟩
attribute [go_sem] r11_0 r11_1 r11_2 r11_3 r11_4 r11_5 r11_6 b11_0 r11_7 c11 F11
def r12_0 : List Op := [
  ⟨some 3, true, .box (.g 1), none⟩,
  ⟨some 4, true, .mov (.c (.str [])), none⟩,
  ⟨some 5, true, .mov (.c (.bool false)), none⟩]
def r12_1 : List Op := [
  ⟨some 9, false, .mov (.g 0), none⟩,
  ⟨some 10, false, .load (.v 3) (some 3) (.g 3), none⟩,
  ⟨some 11, false, .call (.k 10) .no none [.l 0, .l 1], none⟩,
  ⟨some 8, false, .mov (.l 2), none⟩,
  ⟨some 12, false, .ext (.l 3) 0, none⟩,
  ⟨some 13, false, .ext (.l 3) 1, none⟩,
  ⟨some 6, true, .alloc [.int .i64 0, .int .i64 0, .int .i64 0, .bool false, .str []], none⟩,
  ⟨none, false, .store (.v 6) 5 (.l 6) (.l 4), none⟩,
  ⟨some 7, true, .mov (.l 5), none⟩]
def r12_2 : List Op := [
  ⟨some 14, false, .fad (.g 6) 4, none⟩,
  ⟨some 15, false, .load (.v 6) none (.l 0), none⟩,
  ⟨some 16, false, .mov (.g 7), none⟩,
  ⟨some 17, false, .mov (.l 2), none⟩,
  ⟨some 18, false, .fad (.g 6) 3, (some (3, true))⟩,
  ⟨some 19, false, .load (.v 6) none (.l 4), (some (3, true))⟩,
  ⟨some 20, false, .un .not (.l 5), (some (3, true))⟩,
  ⟨some 21, false, .pick (.l 3) (.l 6) (.c (.bool false)), none⟩,
  ⟨some 4, true, .mov (.l 1), none⟩,
  ⟨some 5, true, .mov (.l 7), none⟩]
def c12 : C := .seq (.region false r12_0) (.seq (.region false r12_1) (.seq (.region true r12_2) (.ret)))
/-- stratigraph.chain.Value -/
def F12 : F := ⟨2, [0, 1, 3, 4, 5, 6, 7], [.t 4, .t 5], none, c12⟩
attribute [go_sem] r12_0 r12_1 r12_2 c12 F12
def r13_0 : List Op := [
  ⟨some 3, true, .box (.g 1), none⟩,
  ⟨some 4, true, .mov (.c (.str [])), none⟩,
  ⟨some 5, true, .mov (.c (.bool false)), none⟩]
def r13_1 : List Op := [
  ⟨some 9, false, .mov (.g 0), none⟩,
  ⟨some 10, false, .load (.v 3) (some 3) (.g 3), none⟩,
  ⟨some 11, false, .call (.k 11) .no none [.l 0, .l 1], none⟩,
  ⟨some 8, false, .mov (.l 2), none⟩,
  ⟨some 12, false, .ext (.l 3) 0, none⟩,
  ⟨some 13, false, .ext (.l 3) 1, none⟩,
  ⟨some 6, true, .alloc [.int .i64 0, .int .i64 0, .int .i64 0, .bool false, .str []], none⟩,
  ⟨none, false, .store (.v 6) 5 (.l 6) (.l 4), none⟩,
  ⟨some 7, true, .mov (.l 5), none⟩]
def r13_2 : List Op := [
  ⟨some 14, false, .mov (.g 7), none⟩,
  ⟨some 15, false, .un .not (.l 0), none⟩,
  ⟨some 16, false, .mov (.l 1), none⟩,
  ⟨some 17, false, .fad (.g 6) 3, (some (2, false))⟩,
  ⟨some 18, false, .load (.v 6) none (.l 3), (some (2, false))⟩,
  ⟨some 19, true, .pick (.l 2) (.c (.bool true)) (.l 4), none⟩]
def r13_3 : List Op := [
  ⟨some 4, true, .mov (.c (.str [])), none⟩,
  ⟨some 5, true, .mov (.c (.bool false)), none⟩]
def r13_4 : List Op := [
  ⟨some 20, false, .fad (.g 6) 4, none⟩,
  ⟨some 21, false, .load (.v 6) none (.l 0), none⟩,
  ⟨some 4, true, .mov (.l 1), none⟩,
  ⟨some 5, true, .mov (.c (.bool true)), none⟩]
def c13 : C := .seq (.region false r13_0) (.seq (.region false r13_1) (.seq (.seq (.region false r13_2) (.cond (.g 19) (.seq (.region false r13_3) (.ret)) (.skip))) (.seq (.region false r13_4) (.ret))))
/-- stratigraph.stratigraphref07.Value -/
def F13 : F := ⟨2, [0, 1, 3, 4, 5, 6, 7, 19], [.t 4, .t 5], none, c13⟩
attribute [go_sem] r13_0 r13_1 r13_2 r13_3 r13_4 c13 F13
def r15_0 : List Op := [
  ⟨some 2, true, .box (.g 0), none⟩,
  ⟨some 3, true, .box (.g 1), none⟩,
  ⟨some 4, true, .mov (.c (.int .i64 0)), none⟩]
def r15_1 : List Op := [
  ⟨some 5, false, .fad (.g 2) 0, none⟩,
  ⟨some 6, false, .load (.v 2) none (.l 0), none⟩,
  ⟨some 7, false, .fad (.g 3) 0, none⟩,
  ⟨some 8, false, .load (.v 3) none (.l 2), none⟩,
  ⟨some 9, false, .call (.k 26) .no none [.l 1, .l 3], none⟩,
  ⟨some 10, false, .fad (.g 2) 1, none⟩,
  ⟨some 11, false, .load (.v 2) none (.l 5), none⟩,
  ⟨some 12, false, .fad (.g 3) 1, none⟩,
  ⟨some 13, false, .load (.v 3) none (.l 7), none⟩,
  ⟨some 14, false, .call (.k 26) .no none [.l 6, .l 8], none⟩,
  ⟨some 15, false, .fad (.g 2) 2, none⟩,
  ⟨some 16, false, .load (.v 2) none (.l 10), none⟩,
  ⟨some 17, false, .fad (.g 3) 2, none⟩,
  ⟨some 18, false, .load (.v 3) none (.l 12), none⟩,
  ⟨some 19, false, .call (.k 26) .no none [.l 11, .l 13], none⟩,
  ⟨some 20, false, .mks 1 3 [.int .i64 0] [(0, .l 4), (1, .l 9), (2, .l 14)], none⟩,
  ⟨some 21, false, .call (.k 27) .no none [.l 15], none⟩,
  ⟨some 4, true, .mov (.l 16), none⟩]
def c15 : C := .seq (.region false r15_0) (.seq (.region true r15_1) (.ret))
/-- stratigraph.stamp.Compare -/
def F15 : F := ⟨2, [0, 1, 2, 3, 4], [.t 4], none, c15⟩
attribute [go_sem] r15_0 r15_1 c15 F15
def r17_0 : List Op := [
  ⟨some 3, true, .box (.g 1), none⟩,
  ⟨some 4, true, .mov (.c (.slice 5 [])), none⟩]
def r17_1 : List Op := [
  ⟨some 6, false, .mov (.g 0), none⟩,
  ⟨some 7, false, .call (.k 7) .no none [.l 0], none⟩,
  ⟨some 8, true, .un .not (.l 1), none⟩]
def r17_2 : List Op := [
  ⟨some 4, true, .mov (.c (.slice 5 [])), none⟩]
def r17_3 : List Op := [
  ⟨some 9, false, .mov (.g 0), none⟩,
  ⟨some 10, false, .load (.v 3) (some 3) (.g 3), none⟩,
  ⟨some 11, false, .call (.k 25) .no none [.l 0, .l 1], none⟩,
  ⟨some 5, true, .mov (.l 2), none⟩]
def r17_4 : List Op := [
  ⟨some 12, false, .mov (.g 5), none⟩,
  ⟨some 13, false, .bin .gtr (.l 0) (.c (.int .i64 0)), none⟩,
  ⟨some 14, false, .mov (.l 1), none⟩,
  ⟨some 15, false, .mov (.g 0), (some (2, true))⟩,
  ⟨some 16, false, .mov (.g 5), (some (2, true))⟩,
  ⟨some 17, false, .bin .sub (.l 4) (.c (.int .i64 1)), (some (2, true))⟩,
  ⟨some 18, false, .iad 5 (.l 3) (.l 5), (some (2, true))⟩,
  ⟨some 19, false, .fad (.l 6) 3, (some (2, true))⟩,
  ⟨some 20, false, .load (.c) none (.l 7), (some (2, true))⟩,
  ⟨some 21, false, .un .not (.l 8), (some (2, true))⟩,
  ⟨some 22, true, .pick (.l 2) (.l 9) (.c (.bool false)), none⟩]
def r17_5 : List Op := [
  ⟨some 23, false, .mov (.g 5), none⟩,
  ⟨some 24, false, .bin .sub (.l 0) (.c (.int .i64 1)), none⟩,
  ⟨some 5, true, .mov (.l 1), none⟩]
def r17_6 : List Op := [
  ⟨some 25, false, .mov (.g 0), none⟩,
  ⟨some 26, false, .mov (.g 5), none⟩,
  ⟨some 27, false, .sl false 5 (.l 0) (some (.l 1)) none, none⟩,
  ⟨some 28, false, .call (.k 23) .no none [.l 2], none⟩,
  ⟨some 4, true, .mov (.l 3), none⟩]
def c17 : C := .seq (.region false r17_0) (.seq (.seq (.region false r17_1) (.cond (.g 8) (.seq (.region false r17_2) (.ret)) (.skip))) (.seq (.region false r17_3) (.seq (.seq (.region false r17_4) (.cond (.g 22) (.region false r17_5) (.skip))) (.seq (.region false r17_6) (.ret)))))
/-- stratigraph.chain.Prune -/
def F17 : F := ⟨2, [0, 1, 3, 4, 5, 8, 22], [.t 4], none, c17⟩
attribute [go_sem] r17_0 r17_1 r17_2 r17_3 r17_4 r17_5 r17_6 c17 F17
def r18_0 : List Op := [
  ⟨some 3, true, .box (.g 1), none⟩,
  ⟨some 4, true, .mov (.c (.slice 5 [])), none⟩]
def r18_1 : List Op := [
  ⟨some 10, false, .mov (.g 0), none⟩,
  ⟨some 11, false, .load (.v 3) (some 3) (.g 3), none⟩,
  ⟨some 12, false, .call (.k 11) .no none [.l 0, .l 1], none⟩,
  ⟨some 9, false, .mov (.l 2), none⟩,
  ⟨some 13, false, .ext (.l 3) 0, none⟩,
  ⟨some 14, false, .ext (.l 3) 1, none⟩,
  ⟨some 5, true, .alloc [.int .i64 0, .int .i64 0, .int .i64 0, .bool false, .str []], none⟩,
  ⟨none, false, .store (.v 5) 5 (.l 6) (.l 4), none⟩,
  ⟨some 6, true, .mov (.l 5), none⟩]
def r18_2 : List Op := [
  ⟨some 7, true, .mko 5, none⟩]
def r18_3 : List Op := [
  ⟨some 8, true, .mov (.c (.int .i64 0)), none⟩]
def r18_4 : List Op := [
  ⟨some 15, false, .mov (.g 8), none⟩,
  ⟨some 16, false, .mov (.g 0), none⟩,
  ⟨some 17, false, .len false (.l 1), none⟩,
  ⟨some 18, true, .bin .lss (.l 0) (.l 2), none⟩]
def r18_5 : List Op := [
  ⟨some 21, false, .mov (.g 6), none⟩,
  ⟨some 22, false, .mov (.l 0), none⟩,
  ⟨some 23, false, .mov (.g 0), (some (1, true))⟩,
  ⟨some 24, false, .mov (.g 8), (some (1, true))⟩,
  ⟨some 25, false, .iad 5 (.l 2) (.l 3), (some (1, true))⟩,
  ⟨some 26, false, .fad (.l 4) 0, (some (1, true))⟩,
  ⟨some 27, false, .load (.c) (some 3) (.l 5), (some (1, true))⟩,
  ⟨some 28, false, .fad (.g 5) 0, (some (1, true))⟩,
  ⟨some 29, false, .load (.v 5) (some 3) (.l 7), (some (1, true))⟩,
  ⟨some 30, false, .call (.k 6) .no none [.l 6, .l 8], (some (1, true))⟩,
  ⟨some 31, false, .mov (.l 9), (some (1, true))⟩,
  ⟨some 32, false, .fad (.g 5) 3, (some (10, false))⟩,
  ⟨some 33, false, .load (.v 5) none (.l 11), (some (10, false))⟩,
  ⟨some 34, false, .mov (.l 12), (some (10, false))⟩,
  ⟨some 35, false, .mov (.g 0), (some (13, true))⟩,
  ⟨some 36, false, .mov (.g 8), (some (13, true))⟩,
  ⟨some 37, false, .iad 5 (.l 14) (.l 15), (some (13, true))⟩,
  ⟨some 38, false, .fad (.l 16) 0, (some (13, true))⟩,
  ⟨some 39, false, .load (.c) (some 3) (.l 17), (some (13, true))⟩,
  ⟨some 40, false, .fad (.g 5) 0, (some (13, true))⟩,
  ⟨some 41, false, .load (.v 5) (some 3) (.l 19), (some (13, true))⟩,
  ⟨some 42, false, .eqa false [.i, .i, .i] (.l 18) (.l 20), (some (13, true))⟩,
  ⟨some 43, false, .pick (.l 13) (.l 21) (.c (.bool false)), (some (10, false))⟩,
  ⟨some 44, false, .pick (.l 10) (.c (.bool true)) (.l 22), (some (1, true))⟩,
  ⟨some 45, true, .pick (.l 1) (.l 23) (.c (.bool false)), none⟩]
def r18_6 : List Op := [
  ⟨some 46, false, .mov (.g 7), none⟩,
  ⟨some 47, false, .mov (.g 0), none⟩,
  ⟨some 48, false, .mov (.g 8), none⟩,
  ⟨some 49, false, .iad 5 (.l 1) (.l 2), none⟩,
  ⟨some 50, false, .load (.c) (some 5) (.l 3), none⟩,
  ⟨some 51, false, .mks 5 1 [.int .i64 0, .int .i64 0, .int .i64 0, .bool false, .str []] [(0, .l 4)], none⟩,
  ⟨some 52, false, .app 7 5 (.l 0) (.l 5), none⟩,
  ⟨some 7, true, .mov (.l 6), none⟩]
def r18_7 : List Op := [
  ⟨some 19, false, .mov (.g 8), none⟩,
  ⟨some 20, false, .bin .add (.l 0) (.c (.int .i64 1)), none⟩,
  ⟨some 8, true, .mov (.l 1), none⟩]
def b18_0 : C := .seq (.seq (.region false r18_4) (.cond (.g 18) (.skip) (.exit 0))) (.seq (.block 1 (.seq (.seq (.region true r18_5) (.cond (.g 45) (.exit 1) (.skip))) (.region false r18_6))) (.region false r18_7))
def l18_0 : C := .loop [] [] [] [] b18_0
def r18_8 : List Op := [
  ⟨some 53, false, .mov (.g 7), none⟩,
  ⟨some 4, true, .mov (.l 0), none⟩]
def c18 : C := .seq (.region false r18_0) (.seq (.region false r18_1) (.seq (.region false r18_2) (.seq (.seq (.region false r18_3) (.block 0 (l18_0))) (.seq (.region false r18_8) (.ret)))))
/-- stratigraph.stratigraphref07.Prune -/
def F18 : F := ⟨2, [0, 1, 3, 4, 5, 6, 7, 8, 18, 45], [.t 4], none, c18⟩
attribute [go_sem] r18_0 r18_1 r18_2 r18_3 r18_4 r18_5 r18_6 r18_7 b18_0 r18_8 c18 F18
def r21_0 : List Op := [
  ⟨some 2, true, .box (.g 0), none⟩,
  ⟨some 3, true, .box (.g 1), none⟩,
  ⟨some 4, true, .alloc [.int .i64 0, .int .i64 0, .int .i64 0], none⟩]
def r21_1 : List Op := [
  ⟨some 5, false, .load (.v 2) (some 3) (.g 2), none⟩,
  ⟨some 6, false, .load (.v 3) (some 3) (.g 3), none⟩,
  ⟨some 7, false, .call (.k 15) .no none [.l 0, .l 1], none⟩,
  ⟨some 8, true, .bin .lss (.l 2) (.c (.int .i64 0)), none⟩]
def r21_2 : List Op := [
  ⟨some 9, false, .load (.v 3) (some 3) (.g 3), none⟩,
  ⟨none, false, .store (.v 4) 3 (.g 4) (.l 0), none⟩]
def r21_3 : List Op := [
  ⟨some 10, false, .load (.v 2) (some 3) (.g 2), none⟩,
  ⟨none, false, .store (.v 4) 3 (.g 4) (.l 0), none⟩]
def c21 : C := .seq (.region false r21_0) (.seq (.seq (.region false r21_1) (.cond (.g 8) (.seq (.region false r21_2) (.ret)) (.skip))) (.seq (.region false r21_3) (.ret)))
/-- stratigraph.stamp.Later -/
def F21 : F := ⟨2, [0, 1, 2, 3, 4, 8], [.cell 4 (some 3)], none, c21⟩
attribute [go_sem] r21_0 r21_1 r21_2 r21_3 c21 F21
def r22_0 : List Op := [
  ⟨some 1, true, .box (.g 0), none⟩,
  ⟨some 2, true, .mov (.c (.bool false)), none⟩]
def r22_1 : List Op := [
  ⟨some 3, false, .fad (.g 1) 0, none⟩,
  ⟨some 4, false, .load (.v 1) (some 3) (.l 0), none⟩,
  ⟨some 5, false, .call (.k 28) .no none [.l 1], none⟩,
  ⟨some 6, false, .mov (.l 2), none⟩,
  ⟨some 7, false, .fad (.g 1) 4, (some (3, true))⟩,
  ⟨some 8, false, .load (.v 1) none (.l 4), (some (3, true))⟩,
  ⟨some 9, false, .len true (.l 5), (some (3, true))⟩,
  ⟨some 10, false, .bin .leq (.l 6) (.c (.int .i64 16)), (some (3, true))⟩,
  ⟨some 11, false, .pick (.l 3) (.l 7) (.c (.bool false)), none⟩,
  ⟨some 12, false, .mov (.l 8), none⟩,
  ⟨some 13, false, .fad (.g 1) 3, (some (9, true))⟩,
  ⟨some 14, false, .load (.v 1) none (.l 10), (some (9, true))⟩,
  ⟨some 15, false, .un .not (.l 11), (some (9, true))⟩,
  ⟨some 16, false, .mov (.l 12), (some (9, true))⟩,
  ⟨some 17, false, .fad (.g 1) 4, (some (13, false))⟩,
  ⟨some 18, false, .load (.v 1) none (.l 14), (some (13, false))⟩,
  ⟨some 19, false, .bin .eql (.l 15) (.c (.str [])), (some (13, false))⟩,
  ⟨some 20, false, .pick (.l 13) (.c (.bool true)) (.l 16), (some (9, true))⟩,
  ⟨some 21, false, .pick (.l 9) (.l 17) (.c (.bool false)), none⟩,
  ⟨some 2, true, .mov (.l 18), none⟩]
def c22 : C := .seq (.region false r22_0) (.seq (.region false r22_1) (.ret))
/-- stratigraph.chain.right -/
def F22 : F := ⟨1, [0, 1, 2], [.t 2], none, c22⟩
attribute [go_sem] r22_0 r22_1 c22 F22
def r24_0 : List Op := [
  ⟨some 1, true, .box (.g 0), none⟩,
  ⟨some 2, true, .mov (.c (.bool false)), none⟩]
def r24_1 : List Op := [
  ⟨some 3, false, .fad (.g 1) 0, none⟩,
  ⟨some 4, false, .load (.v 1) none (.l 0), none⟩,
  ⟨some 5, false, .bin .geq (.l 1) (.c (.int .i64 0)), none⟩,
  ⟨some 6, false, .mov (.l 2), none⟩,
  ⟨some 7, false, .fad (.g 1) 0, (some (3, true))⟩,
  ⟨some 8, false, .load (.v 1) none (.l 4), (some (3, true))⟩,
  ⟨some 9, false, .bin .leq (.l 5) (.c (.int .i64 1099511627776)), (some (3, true))⟩,
  ⟨some 10, false, .pick (.l 3) (.l 6) (.c (.bool false)), none⟩,
  ⟨some 11, false, .mov (.l 7), none⟩,
  ⟨some 12, false, .fad (.g 1) 1, (some (8, true))⟩,
  ⟨some 13, false, .load (.v 1) none (.l 9), (some (8, true))⟩,
  ⟨some 14, false, .bin .geq (.l 10) (.c (.int .i64 0)), (some (8, true))⟩,
  ⟨some 15, false, .pick (.l 8) (.l 11) (.c (.bool false)), none⟩,
  ⟨some 16, false, .mov (.l 12), none⟩,
  ⟨some 17, false, .fad (.g 1) 1, (some (13, true))⟩,
  ⟨some 18, false, .load (.v 1) none (.l 14), (some (13, true))⟩,
  ⟨some 19, false, .bin .leq (.l 15) (.c (.int .i64 1048576)), (some (13, true))⟩,
  ⟨some 20, false, .pick (.l 13) (.l 16) (.c (.bool false)), none⟩,
  ⟨some 21, false, .mov (.l 17), none⟩,
  ⟨some 22, false, .fad (.g 1) 2, (some (18, true))⟩,
  ⟨some 23, false, .load (.v 1) none (.l 19), (some (18, true))⟩,
  ⟨some 24, false, .bin .geq (.l 20) (.c (.int .i64 0)), (some (18, true))⟩,
  ⟨some 25, false, .pick (.l 18) (.l 21) (.c (.bool false)), none⟩,
  ⟨some 26, false, .mov (.l 22), none⟩,
  ⟨some 27, false, .fad (.g 1) 2, (some (23, true))⟩,
  ⟨some 28, false, .load (.v 1) none (.l 24), (some (23, true))⟩,
  ⟨some 29, false, .bin .leq (.l 25) (.c (.int .i64 255)), (some (23, true))⟩,
  ⟨some 30, false, .pick (.l 23) (.l 26) (.c (.bool false)), none⟩,
  ⟨some 2, true, .mov (.l 27), none⟩]
def c24 : C := .seq (.region false r24_0) (.seq (.region false r24_1) (.ret))
/-- stratigraph.stratigraphref05.Right -/
def F24 : F := ⟨1, [0, 1, 2], [.t 2], none, c24⟩
attribute [go_sem] r24_0 r24_1 c24 F24
def r25_0 : List Op := [
  ⟨some 3, true, .box (.g 1), none⟩,
  ⟨some 4, true, .mov (.c (.int .i64 0)), none⟩]
def r25_1 : List Op := [
  ⟨some 8, false, .mov (.g 0), none⟩,
  ⟨some 9, false, .load (.v 3) (some 3) (.g 3), none⟩,
  ⟨some 10, false, .call (.k 29) .no none [.l 0, .l 1, .f 30], none⟩,
  ⟨some 7, false, .mov (.l 2), none⟩,
  ⟨some 11, false, .ext (.l 3) 0, none⟩,
  ⟨some 12, false, .ext (.l 3) 1, none⟩,
  ⟨some 5, true, .mov (.l 4), none⟩,
  ⟨some 6, true, .mov (.l 5), none⟩]
def r25_2 : List Op := [
  ⟨some 13, true, .mov (.g 6), none⟩]
def r25_3 : List Op := [
  ⟨some 14, false, .mov (.g 5), none⟩,
  ⟨some 15, false, .bin .add (.l 0) (.c (.int .i64 1)), none⟩,
  ⟨some 5, true, .mov (.l 1), none⟩]
def r25_4 : List Op := [
  ⟨some 16, false, .mov (.g 5), none⟩,
  ⟨some 4, true, .mov (.l 0), none⟩]
def c25 : C := .seq (.region false r25_0) (.seq (.region false r25_1) (.seq (.seq (.region false r25_2) (.cond (.g 13) (.region false r25_3) (.skip))) (.seq (.region false r25_4) (.ret))))
/-- stratigraph.chain.upto -/
def F25 : F := ⟨2, [0, 1, 3, 4, 5, 6, 13], [.t 4], none, c25⟩
attribute [go_sem] r25_0 r25_1 r25_2 r25_3 r25_4 c25 F25
def r26_0 : List Op := [
  ⟨some 4, true, .mov (.c (.int .i64 0)), none⟩]
def r26_1 : List Op := [
  ⟨some 7, false, .mov (.g 0), none⟩,
  ⟨some 8, false, .call (.k 31) .no none [.l 0], none⟩,
  ⟨some 5, true, .mov (.l 1), none⟩]
def r26_2 : List Op := [
  ⟨some 9, false, .mov (.g 1), none⟩,
  ⟨some 10, false, .call (.k 31) .no none [.l 0], none⟩,
  ⟨some 6, true, .mov (.l 1), none⟩]
def r26_3 : List Op := [
  ⟨some 11, true, .mov (.g 5), none⟩]
def r26_4 : List Op := [
  ⟨some 12, true, .mov (.g 6), none⟩]
def r26_5 : List Op := [
  ⟨some 4, true, .mov (.c (.int .i64 0)), none⟩]
def r26_6 : List Op := [
  ⟨some 4, true, .mov (.c (.int .i64 (-1))), none⟩]
def r26_7 : List Op := [
  ⟨some 13, true, .mov (.g 6), none⟩]
def r26_8 : List Op := [
  ⟨some 4, true, .mov (.c (.int .i64 1)), none⟩]
def r26_9 : List Op := [
  ⟨some 14, false, .mov (.g 0), none⟩,
  ⟨some 15, false, .mov (.g 1), none⟩,
  ⟨some 16, true, .bin .lss (.l 0) (.l 1), none⟩]
def r26_10 : List Op := [
  ⟨some 4, true, .mov (.c (.int .i64 (-1))), none⟩]
def r26_11 : List Op := [
  ⟨some 17, false, .mov (.g 0), none⟩,
  ⟨some 18, false, .mov (.g 1), none⟩,
  ⟨some 19, true, .bin .gtr (.l 0) (.l 1), none⟩]
def r26_12 : List Op := [
  ⟨some 4, true, .mov (.c (.int .i64 1)), none⟩]
def r26_13 : List Op := [
  ⟨some 4, true, .mov (.c (.int .i64 0)), none⟩]
def c26 : C := .seq (.region false r26_0) (.seq (.region false r26_1) (.seq (.region false r26_2) (.seq (.seq (.region false r26_3) (.cond (.g 11) (.seq (.seq (.region false r26_4) (.cond (.g 12) (.seq (.region false r26_5) (.ret)) (.skip))) (.seq (.region false r26_6) (.ret))) (.skip))) (.seq (.seq (.region false r26_7) (.cond (.g 13) (.seq (.region false r26_8) (.ret)) (.skip))) (.seq (.seq (.region false r26_9) (.cond (.g 16) (.seq (.region false r26_10) (.ret)) (.skip))) (.seq (.seq (.region false r26_11) (.cond (.g 19) (.seq (.region false r26_12) (.ret)) (.skip))) (.seq (.region false r26_13) (.ret))))))))
/-- cmp.Compare[int] -/
def F26 : F := ⟨2, [0, 1, 4, 5, 6, 11, 12, 13, 16, 19], [.t 4], none, c26⟩
attribute [go_sem] r26_0 r26_1 r26_2 r26_3 r26_4 r26_5 r26_6 r26_7 r26_8 r26_9 r26_10 r26_11 r26_12 r26_13 c26 F26
def r27_0 : List Op := [
  ⟨some 2, true, .mov (.c (.int .i64 0)), none⟩]
def r27_1 : List Op := [
  ⟨some 3, true, .mov (.c (.int .i64 0)), none⟩]
def r27_2 : List Op := [
  ⟨some 6, true, .mov (.g 0), none⟩,
  ⟨some 7, true, .len false (.l 0), none⟩,
  ⟨some 8, true, .mov (.c (.int .i64 0)), none⟩]
def r27_3 : List Op := [
  ⟨some 9, true, .bin .lss (.g 8) (.g 7), none⟩]
def r27_4 : List Op := [
  ⟨some 10, false, .iad 1 (.g 6) (.g 8), none⟩,
  ⟨some 11, false, .load (.c) none (.l 0), none⟩,
  ⟨some 5, true, .mov (.l 1), none⟩]
def r27_5 : List Op := [
  ⟨some 12, false, .mov (.g 5), none⟩,
  ⟨some 13, false, .mov (.g 3), none⟩,
  ⟨some 14, true, .bin .neq (.l 0) (.l 1), none⟩]
def r27_6 : List Op := [
  ⟨some 15, false, .mov (.g 5), none⟩,
  ⟨some 2, true, .mov (.l 0), none⟩]
def r27_7 : List Op := [
  ⟨some 16, false, .bin .add (.g 8) (.c (.int .i64 1)), none⟩,
  ⟨some 8, true, .mov (.l 0), none⟩]
def b27_0 : C := .seq (.region false r27_3) (.seq (.cond (.g 9) (.skip) (.exit 0)) (.seq (.block 1 (.seq (.region false r27_4) (.seq (.region false r27_5) (.cond (.g 14) (.seq (.region false r27_6) (.ret)) (.skip))))) (.region false r27_7)))
def l27_0 : C := .loop [] [] [] [] b27_0
def r27_8 : List Op := [
  ⟨some 17, false, .mov (.g 3), none⟩,
  ⟨some 2, true, .mov (.l 0), none⟩]
def c27 : C := .seq (.region false r27_0) (.seq (.region false r27_1) (.seq (.seq (.region false r27_2) (.block 0 (l27_0))) (.seq (.region false r27_8) (.ret))))
/-- cmp.Or[int] -/
def F27 : F := ⟨1, [0, 2, 3, 5, 6, 7, 8, 9, 14], [.t 2], none, c27⟩
attribute [go_sem] r27_0 r27_1 r27_2 r27_3 r27_4 r27_5 r27_6 r27_7 b27_0 r27_8 c27 F27
def r28_0 : List Op := [
  ⟨some 1, true, .box (.g 0), none⟩,
  ⟨some 2, true, .mov (.c (.bool false)), none⟩]
def r28_1 : List Op := [
  ⟨some 3, false, .fad (.g 1) 0, none⟩,
  ⟨some 4, false, .load (.v 1) none (.l 0), none⟩,
  ⟨some 5, false, .call (.k 32) .no none [.l 1, .c (.int .i64 1099511627776)], none⟩,
  ⟨some 6, false, .mov (.l 2), none⟩,
  ⟨some 7, false, .fad (.g 1) 1, (some (3, true))⟩,
  ⟨some 8, false, .load (.v 1) none (.l 4), (some (3, true))⟩,
  ⟨some 9, false, .call (.k 32) .no none [.l 5, .c (.int .i64 1048576)], (some (3, true))⟩,
  ⟨some 10, false, .pick (.l 3) (.l 6) (.c (.bool false)), none⟩,
  ⟨some 11, false, .mov (.l 7), none⟩,
  ⟨some 12, false, .fad (.g 1) 2, (some (8, true))⟩,
  ⟨some 13, false, .load (.v 1) none (.l 9), (some (8, true))⟩,
  ⟨some 14, false, .call (.k 32) .no none [.l 10, .c (.int .i64 255)], (some (8, true))⟩,
  ⟨some 15, false, .pick (.l 8) (.l 11) (.c (.bool false)), none⟩,
  ⟨some 2, true, .mov (.l 12), none⟩]
def c28 : C := .seq (.region false r28_0) (.seq (.region false r28_1) (.ret))
/-- stratigraph.stamp.Right -/
def F28 : F := ⟨1, [0, 1, 2], [.t 2], none, c28⟩
attribute [go_sem] r28_0 r28_1 c28 F28
def r29_0 : List Op := [
  ⟨some 4, true, .box (.g 1), none⟩,
  ⟨some 6, true, .mov (.c (.int .i64 0)), none⟩,
  ⟨some 7, true, .mov (.c (.bool false)), none⟩]
def r29_1 : List Op := [
  ⟨some 12, false, .mov (.g 0), none⟩,
  ⟨some 13, false, .len false (.l 0), none⟩,
  ⟨some 8, true, .mov (.l 1), none⟩]
def r29_2 : List Op := [
  ⟨some 14, false, .mov (.g 8), none⟩,
  ⟨some 9, true, .mov (.c (.int .i64 0)), none⟩,
  ⟨some 10, true, .mov (.l 0), none⟩]
def r29_3 : List Op := [
  ⟨some 15, false, .mov (.g 9), none⟩,
  ⟨some 16, false, .mov (.g 10), none⟩,
  ⟨some 17, true, .bin .lss (.l 0) (.l 1), none⟩]
def r29_4 : List Op := [
  ⟨some 18, false, .mov (.g 9), none⟩,
  ⟨some 19, false, .mov (.g 10), none⟩,
  ⟨some 20, false, .bin .add (.l 0) (.l 1), none⟩,
  ⟨some 21, false, .conv (.int .u64) (.l 2), none⟩,
  ⟨some 22, false, .sh .shr (.l 3) (.c (.int .u64 1)), none⟩,
  ⟨some 23, false, .conv (.int .i64) (.l 4), none⟩,
  ⟨some 11, true, .mov (.l 5), none⟩]
def r29_5 : List Op := [
  ⟨some 24, false, .mov (.g 2), none⟩,
  ⟨some 25, false, .mov (.g 0), none⟩,
  ⟨some 26, false, .mov (.g 11), none⟩,
  ⟨some 27, false, .iad 5 (.l 1) (.l 2), none⟩,
  ⟨some 28, false, .load (.c) (some 5) (.l 3), none⟩,
  ⟨some 29, false, .load (.v 4) (some 3) (.g 4), none⟩,
  ⟨some 30, false, .call (.v (.l 0)) .no none [.l 4, .l 5], none⟩,
  ⟨some 31, true, .bin .lss (.l 6) (.c (.int .i64 0)), none⟩]
def r29_6 : List Op := [
  ⟨some 32, false, .mov (.g 11), none⟩,
  ⟨some 33, false, .bin .add (.l 0) (.c (.int .i64 1)), none⟩,
  ⟨some 9, true, .mov (.l 1), none⟩]
def r29_7 : List Op := [
  ⟨some 34, false, .mov (.g 11), none⟩,
  ⟨some 10, true, .mov (.l 0), none⟩]
def b29_0 : C := .seq (.seq (.region false r29_3) (.cond (.g 17) (.skip) (.exit 0))) (.block 1 (.seq (.region false r29_4) (.seq (.region true r29_5) (.cond (.g 31) (.region false r29_6) (.region false r29_7)))))
def l29_0 : C := .loop [] [] [] [] b29_0
def r29_8 : List Op := [
  ⟨some 35, false, .mov (.g 9), none⟩,
  ⟨some 36, false, .mov (.g 9), none⟩,
  ⟨some 37, false, .mov (.g 8), none⟩,
  ⟨some 38, false, .bin .lss (.l 1) (.l 2), none⟩,
  ⟨some 39, false, .mov (.l 3), none⟩,
  ⟨some 40, false, .mov (.g 2), (some (4, true))⟩,
  ⟨some 41, false, .mov (.g 0), (some (4, true))⟩,
  ⟨some 42, false, .mov (.g 9), (some (4, true))⟩,
  ⟨some 43, false, .iad 5 (.l 6) (.l 7), (some (4, true))⟩,
  ⟨some 44, false, .load (.c) (some 5) (.l 8), (some (4, true))⟩,
  ⟨some 45, false, .load (.v 4) (some 3) (.g 4), (some (4, true))⟩,
  ⟨some 46, false, .call (.v (.l 5)) .no none [.l 9, .l 10], (some (4, true))⟩,
  ⟨some 47, false, .bin .eql (.l 11) (.c (.int .i64 0)), (some (4, true))⟩,
  ⟨some 48, false, .pick (.l 4) (.l 12) (.c (.bool false)), none⟩,
  ⟨some 6, true, .mov (.l 0), none⟩,
  ⟨some 7, true, .mov (.l 13), none⟩]
def c29 : C := .seq (.region false r29_0) (.seq (.region false r29_1) (.seq (.region false r29_2) (.seq (.block 0 (l29_0)) (.seq (.region true r29_8) (.ret)))))
/-- slices.BinarySearchFunc[[]stratigraph.api.Version,stratigraph.api.Version,stratigraph.api.Stamp] -/
def F29 : F := ⟨3, [0, 1, 2, 4, 6, 7, 8, 9, 10, 11, 17, 31], [.t 6, .t 7], none, c29⟩
attribute [go_sem] r29_0 r29_1 r29_2 r29_3 r29_4 r29_5 r29_6 r29_7 b29_0 r29_8 c29 F29
def r30_0 : List Op := [
  ⟨some 2, true, .box (.g 0), none⟩,
  ⟨some 3, true, .box (.g 1), none⟩,
  ⟨some 4, true, .mov (.c (.int .i64 0)), none⟩]
def r30_1 : List Op := [
  ⟨some 5, false, .fad (.g 2) 0, none⟩,
  ⟨some 6, false, .load (.v 2) (some 3) (.l 0), none⟩,
  ⟨some 7, false, .load (.v 3) (some 3) (.g 3), none⟩,
  ⟨some 8, false, .call (.k 15) .no none [.l 1, .l 2], none⟩,
  ⟨some 4, true, .mov (.l 3), none⟩]
def c30 : C := .seq (.region false r30_0) (.seq (.region false r30_1) (.ret))
/-- stratigraph.chain.upto fn 1 -/
def F30 : F := ⟨2, [0, 1, 2, 3, 4], [.t 4], none, c30⟩
attribute [go_sem] r30_0 r30_1 c30 F30
def r31_0 : List Op := [
  ⟨some 2, true, .mov (.c (.bool false)), none⟩]
def r31_1 : List Op := [
  ⟨some 3, false, .mov (.g 0), none⟩,
  ⟨some 4, false, .mov (.g 0), none⟩,
  ⟨some 5, false, .bin .neq (.l 0) (.l 1), none⟩,
  ⟨some 2, true, .mov (.l 2), none⟩]
def c31 : C := .seq (.region false r31_0) (.seq (.region false r31_1) (.ret))
/-- cmp.isNaN[int] -/
def F31 : F := ⟨1, [0, 2], [.t 2], none, c31⟩
attribute [go_sem] r31_0 r31_1 c31 F31
def r32_0 : List Op := [
  ⟨some 4, true, .mov (.c (.bool false)), none⟩]
def r32_1 : List Op := [
  ⟨some 5, false, .mov (.g 0), none⟩,
  ⟨some 6, false, .bin .geq (.l 0) (.c (.int .i64 0)), none⟩,
  ⟨some 7, false, .mov (.l 1), none⟩,
  ⟨some 8, false, .mov (.g 0), (some (2, true))⟩,
  ⟨some 9, false, .mov (.g 1), (some (2, true))⟩,
  ⟨some 10, false, .bin .leq (.l 3) (.l 4), (some (2, true))⟩,
  ⟨some 11, false, .pick (.l 2) (.l 5) (.c (.bool false)), none⟩,
  ⟨some 4, true, .mov (.l 6), none⟩]
def c32 : C := .seq (.region false r32_0) (.seq (.region false r32_1) (.ret))
/-- stratigraph.stamp.within -/
def F32 : F := ⟨2, [0, 1, 4], [.t 4], none, c32⟩
attribute [go_sem] r32_0 r32_1 c32 F32
end Sg
