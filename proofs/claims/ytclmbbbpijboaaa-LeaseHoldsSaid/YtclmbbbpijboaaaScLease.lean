/- The compact functions, printed by wip/gen/seat.py. -/
import Derived.Test.YtclmbbbpijboaaaSgRun
import Derived.Test.YtclmbbbpijboaaaScChain
namespace Sg
open _root_.Go (IntKind BinOp UnOp)

def r107_0 : List Op := [
  ⟨some 3, true, .box (.g 0), none⟩,
  ⟨some 6, true, .mov (.c (.bool false)), none⟩]
def r107_1 : List Op := [
  ⟨some 7, false, .mov (.g 2), none⟩,
  ⟨some 8, false, .len false (.l 0), none⟩,
  ⟨some 9, false, .bin .gtr (.l 1) (.c (.int .i64 20)), none⟩,
  ⟨some 10, false, .mov (.l 2), none⟩,
  ⟨some 11, false, .mov (.g 1), (some (3, false))⟩,
  ⟨some 12, false, .len false (.l 4), (some (3, false))⟩,
  ⟨some 13, false, .bin .gtr (.l 5) (.c (.int .i64 20)), (some (3, false))⟩,
  ⟨some 14, true, .pick (.l 3) (.c (.bool true)) (.l 6), none⟩]
def r107_2 : List Op := [
  ⟨some 15, false, .call (.k 108) .no none [], none⟩,
  ⟨some 6, true, .mov (.l 0), none⟩]
def r107_3 : List Op := [
  ⟨some 16, false, .load (.v 3) (some 3) (.g 3), none⟩,
  ⟨some 17, false, .mov (.g 1), none⟩,
  ⟨some 18, false, .mov (.g 2), none⟩,
  ⟨some 19, false, .call (.k 109) .no none [.l 0, .l 1, .l 2], none⟩,
  ⟨some 20, false, .load (.v 3) (some 3) (.g 3), none⟩,
  ⟨some 21, false, .mov (.g 1), none⟩,
  ⟨some 22, false, .mov (.g 2), none⟩,
  ⟨some 23, false, .call (.k 110) .no none [.l 4, .l 5, .l 6], none⟩,
  ⟨some 24, false, .eqa false [.i, .i, .i] (.l 3) (.l 7), none⟩,
  ⟨some 25, false, .mov (.l 8), none⟩,
  ⟨some 26, false, .call (.k 108) .no none [], (some (9, true))⟩,
  ⟨some 27, false, .pick (.l 9) (.l 10) (.c (.bool false)), none⟩,
  ⟨some 6, true, .mov (.l 11), none⟩]
def c107 : C := .seq (.region false r107_0) (.seq (.seq (.region false r107_1) (.cond (.g 14) (.seq (.region false r107_2) (.ret)) (.skip))) (.seq (.region true r107_3) (.ret)))
/-- stratigraph.stratigraphlaw16.LeaseMarks -/
def F107 : F := ⟨3, [0, 1, 2, 3, 6, 14], [.t 6], none, c107⟩
attribute [go_sem] r107_0 r107_1 r107_2 r107_3 c107 F107
def r111_0 : List Op := [
  ⟨some 2, true, .mov (.c (.bool false)), none⟩]
def r111_1 : List Op := [
  ⟨some 9, false, .mov (.g 0), none⟩,
  ⟨some 10, false, .len false (.l 0), none⟩,
  ⟨some 11, true, .bin .gtr (.l 1) (.c (.int .i64 20)), none⟩]
def r111_2 : List Op := [
  ⟨some 12, false, .call (.k 108) .no none [], none⟩,
  ⟨some 2, true, .mov (.l 0), none⟩]
def r111_3 : List Op := [
  ⟨some 13, false, .mov (.g 0), none⟩,
  ⟨some 14, false, .call (.k 112) .no none [.l 0], none⟩,
  ⟨some 3, true, .mov (.l 1), none⟩]
def r111_4 : List Op := [
  ⟨some 16, false, .mov (.g 0), none⟩,
  ⟨some 17, false, .call (.k 113) .no none [.l 0], none⟩,
  ⟨some 15, false, .mov (.l 1), none⟩,
  ⟨some 18, false, .ext (.l 2) 0, none⟩,
  ⟨some 19, false, .ext (.l 2) 1, none⟩,
  ⟨some 4, true, .alloc [.int .i64 0, .int .i64 0, .int .i64 0], none⟩,
  ⟨none, false, .store (.v 4) 3 (.l 5) (.l 3), none⟩,
  ⟨some 5, true, .mov (.l 4), none⟩]
def r111_5 : List Op := [
  ⟨some 20, false, .mov (.g 0), none⟩,
  ⟨some 21, false, .call (.k 114) .no none [.l 0], none⟩,
  ⟨some 22, true, .un .not (.l 1), none⟩]
def r111_6 : List Op := [
  ⟨some 23, false, .mov (.g 3), none⟩,
  ⟨some 24, false, .len false (.l 0), none⟩,
  ⟨some 25, false, .bin .eql (.l 1) (.c (.int .i64 0)), none⟩,
  ⟨some 26, false, .mov (.l 2), none⟩,
  ⟨some 27, false, .load (.v 4) (some 3) (.g 4), (some (3, true))⟩,
  ⟨some 28, false, .build [.int .i64 0, .int .i64 0, .int .i64 0] [], (some (3, true))⟩,
  ⟨some 29, false, .eqa false [.i, .i, .i] (.l 4) (.l 5), (some (3, true))⟩,
  ⟨some 30, false, .pick (.l 3) (.l 6) (.c (.bool false)), none⟩,
  ⟨some 31, false, .mov (.l 7), none⟩,
  ⟨some 32, false, .mov (.g 5), (some (8, true))⟩,
  ⟨some 33, false, .un .not (.l 9), (some (8, true))⟩,
  ⟨some 34, false, .pick (.l 8) (.l 10) (.c (.bool false)), none⟩,
  ⟨some 35, false, .mov (.l 11), none⟩,
  ⟨some 36, false, .call (.k 108) .no none [], (some (12, true))⟩,
  ⟨some 37, false, .pick (.l 12) (.l 13) (.c (.bool false)), none⟩,
  ⟨some 2, true, .mov (.l 14), none⟩]
def r111_7 : List Op := [
  ⟨some 38, false, .mov (.g 3), none⟩,
  ⟨some 39, false, .mov (.g 0), none⟩,
  ⟨some 40, false, .call (.k 115) .no none [.l 1], none⟩,
  ⟨some 41, false, .call (.k 116) .no none [.l 0, .l 2], none⟩,
  ⟨some 42, false, .un .not (.l 3), none⟩,
  ⟨some 43, false, .mov (.l 4), none⟩,
  ⟨some 44, false, .mov (.g 5), (some (5, false))⟩,
  ⟨some 45, false, .mov (.g 0), (some (5, false))⟩,
  ⟨some 46, false, .len false (.l 7), (some (5, false))⟩,
  ⟨some 47, false, .bin .gtr (.l 8) (.c (.int .i64 0)), (some (5, false))⟩,
  ⟨some 48, false, .eqb true (.l 6) (.l 9), (some (5, false))⟩,
  ⟨some 49, true, .pick (.l 5) (.c (.bool true)) (.l 10), none⟩]
def r111_8 : List Op := [
  ⟨some 2, true, .mov (.c (.bool false)), none⟩]
def r111_9 : List Op := [
  ⟨some 50, false, .mov (.g 0), none⟩,
  ⟨some 51, false, .len false (.l 0), none⟩,
  ⟨some 52, false, .bin .eql (.l 1) (.c (.int .i64 0)), none⟩,
  ⟨some 6, true, .mov (.l 2), none⟩]
def r111_10 : List Op := [
  ⟨some 53, true, .mov (.g 0), none⟩,
  ⟨some 54, true, .len false (.l 0), none⟩,
  ⟨some 55, true, .mov (.c (.int .i64 0)), none⟩]
def r111_11 : List Op := [
  ⟨some 56, true, .bin .lss (.g 55) (.g 54), none⟩]
def r111_12 : List Op := [
  ⟨some 57, false, .iad 5 (.g 53) (.g 55), none⟩,
  ⟨some 58, false, .load (.c) (some 5) (.l 0), none⟩,
  ⟨some 8, true, .alloc [.int .i64 0, .int .i64 0, .int .i64 0, .int .i64 0, .int .i64 0], none⟩,
  ⟨none, false, .store (.v 8) 5 (.l 2) (.l 1), none⟩]
def r111_13 : List Op := [
  ⟨some 59, false, .load (.v 4) (some 3) (.g 4), none⟩,
  ⟨some 60, false, .fad (.g 8) 2, none⟩,
  ⟨some 61, false, .load (.v 8) (some 3) (.l 1), none⟩,
  ⟨some 62, false, .call (.k 15) .no none [.l 0, .l 2], none⟩,
  ⟨some 63, true, .bin .gtr (.l 3) (.c (.int .i64 0)), none⟩]
def r111_14 : List Op := [
  ⟨some 2, true, .mov (.c (.bool false)), none⟩]
def r111_15 : List Op := [
  ⟨some 64, false, .mov (.g 6), none⟩,
  ⟨some 65, false, .mov (.l 0), none⟩,
  ⟨some 66, false, .fad (.g 8) 2, (some (1, false))⟩,
  ⟨some 67, false, .load (.v 8) (some 3) (.l 2), (some (1, false))⟩,
  ⟨some 68, false, .load (.v 4) (some 3) (.g 4), (some (1, false))⟩,
  ⟨some 69, false, .eqa false [.i, .i, .i] (.l 3) (.l 4), (some (1, false))⟩,
  ⟨some 70, false, .pick (.l 1) (.c (.bool true)) (.l 5), none⟩,
  ⟨some 6, true, .mov (.l 6), none⟩]
def r111_16 : List Op := [
  ⟨some 71, false, .bin .add (.g 55) (.c (.int .i64 1)), none⟩,
  ⟨some 55, true, .mov (.l 0), none⟩]
def b111_0 : C := .seq (.region false r111_11) (.seq (.cond (.g 56) (.skip) (.exit 0)) (.seq (.block 1 (.seq (.region false r111_12) (.seq (.seq (.region false r111_13) (.cond (.g 63) (.seq (.region false r111_14) (.ret)) (.skip))) (.region false r111_15)))) (.region false r111_16)))
def l111_0 : C := .loop [] [] [8] [] b111_0
def r111_17 : List Op := [
  ⟨some 72, false, .mov (.g 6), none⟩,
  ⟨some 73, false, .mov (.l 0), none⟩,
  ⟨some 74, false, .call (.k 108) .no none [], (some (1, true))⟩,
  ⟨some 75, false, .pick (.l 1) (.l 2) (.c (.bool false)), none⟩,
  ⟨some 2, true, .mov (.l 3), none⟩]
def c111 : C := .seq (.region false r111_0) (.seq (.seq (.region false r111_1) (.cond (.g 11) (.seq (.region false r111_2) (.ret)) (.skip))) (.seq (.region false r111_3) (.seq (.region false r111_4) (.seq (.seq (.region false r111_5) (.cond (.g 22) (.seq (.region false r111_6) (.ret)) (.skip))) (.seq (.seq (.region false r111_7) (.cond (.g 49) (.seq (.region false r111_8) (.ret)) (.skip))) (.seq (.region false r111_9) (.seq (.seq (.region false r111_10) (.block 0 (l111_0))) (.seq (.region false r111_17) (.ret)))))))))
/-- stratigraph.stratigraphlaw16.LeaseTicks -/
def F111 : F := ⟨1, [0, 2, 3, 4, 5, 6, 8, 11, 22, 49, 53, 54, 55, 56, 63], [.t 2], none, c111⟩
attribute [go_sem] r111_0 r111_1 r111_2 r111_3 r111_4 r111_5 r111_6 r111_7 r111_8 r111_9 r111_10 r111_11 r111_12 r111_13 r111_14 r111_15 r111_16 b111_0 r111_17 c111 F111
def r117_0 : List Op := [
  ⟨some 4, true, .mov (.c (.bool false)), none⟩]
def r117_1 : List Op := [
  ⟨some 12, false, .mov (.g 0), none⟩,
  ⟨some 13, false, .len false (.l 0), none⟩,
  ⟨some 14, true, .bin .gtr (.l 1) (.c (.int .i64 20)), none⟩]
def r117_2 : List Op := [
  ⟨some 15, false, .call (.k 108) .no none [], none⟩,
  ⟨some 4, true, .mov (.l 0), none⟩]
def r117_3 : List Op := [
  ⟨some 17, false, .mov (.g 0), none⟩,
  ⟨some 18, false, .mov (.g 1), none⟩,
  ⟨some 19, false, .call (.k 118) .no none [.l 0, .l 1], none⟩,
  ⟨some 16, false, .mov (.l 2), none⟩,
  ⟨some 20, false, .ext (.l 3) 0, none⟩,
  ⟨some 21, false, .ext (.l 3) 1, none⟩,
  ⟨some 5, true, .alloc [.int .i64 0, .int .i64 0, .int .i64 0, .int .i64 0, .int .i64 0], none⟩,
  ⟨none, false, .store (.v 5) 5 (.l 6) (.l 4), none⟩,
  ⟨some 6, true, .mov (.l 5), none⟩]
def r117_4 : List Op := [
  ⟨some 22, false, .mov (.g 6), none⟩,
  ⟨some 23, true, .un .not (.l 0), none⟩]
def r117_5 : List Op := [
  ⟨some 24, false, .load (.v 5) (some 5) (.g 5), none⟩,
  ⟨some 25, false, .build [.int .i64 0, .int .i64 0, .int .i64 0, .int .i64 0, .int .i64 0] [], none⟩,
  ⟨some 26, false, .eqa false [.i, .i, .i, .i, .i] (.l 0) (.l 1), none⟩,
  ⟨some 27, false, .mov (.l 2), none⟩,
  ⟨some 28, false, .call (.k 108) .no none [], (some (3, true))⟩,
  ⟨some 29, false, .pick (.l 3) (.l 4) (.c (.bool false)), none⟩,
  ⟨some 4, true, .mov (.l 5), none⟩]
def r117_6 : List Op := [
  ⟨some 30, false, .fad (.g 5) 1, none⟩,
  ⟨some 31, false, .load (.v 5) none (.l 0), none⟩,
  ⟨some 7, true, .mov (.l 1), none⟩]
def r117_7 : List Op := [
  ⟨some 32, false, .mov (.g 7), none⟩,
  ⟨some 33, true, .bin .gtr (.l 0) (.c (.int .i64 0)), none⟩]
def r117_8 : List Op := [
  ⟨some 37, false, .mov (.g 0), none⟩,
  ⟨some 38, false, .mov (.g 1), none⟩,
  ⟨some 39, false, .call (.k 118) .no none [.l 0, .l 1], none⟩,
  ⟨some 36, false, .mov (.l 2), none⟩,
  ⟨some 40, false, .ext (.l 3) 0, none⟩,
  ⟨some 41, false, .ext (.l 3) 1, none⟩,
  ⟨some 8, true, .alloc [.int .i64 0, .int .i64 0, .int .i64 0, .int .i64 0, .int .i64 0], none⟩,
  ⟨none, false, .store (.v 8) 5 (.l 6) (.l 4), none⟩,
  ⟨some 9, true, .mov (.l 5), none⟩]
def r117_9 : List Op := [
  ⟨some 42, false, .mov (.g 9), none⟩,
  ⟨some 43, false, .un .not (.l 0), none⟩,
  ⟨some 44, false, .mov (.l 1), none⟩,
  ⟨some 45, false, .fad (.g 8) 1, (some (2, false))⟩,
  ⟨some 46, false, .load (.v 8) none (.l 3), (some (2, false))⟩,
  ⟨some 47, false, .mov (.g 7), (some (2, false))⟩,
  ⟨some 48, false, .bin .neq (.l 4) (.l 5), (some (2, false))⟩,
  ⟨some 49, false, .pick (.l 2) (.c (.bool true)) (.l 6), none⟩,
  ⟨some 50, false, .mov (.l 7), none⟩,
  ⟨some 51, false, .fad (.g 8) 2, (some (8, false))⟩,
  ⟨some 52, false, .load (.v 8) (some 3) (.l 9), (some (8, false))⟩,
  ⟨some 53, false, .fad (.g 5) 2, (some (8, false))⟩,
  ⟨some 54, false, .load (.v 5) (some 3) (.l 11), (some (8, false))⟩,
  ⟨some 55, false, .eqa true [.i, .i, .i] (.l 10) (.l 12), (some (8, false))⟩,
  ⟨some 56, true, .pick (.l 8) (.c (.bool true)) (.l 13), none⟩]
def r117_10 : List Op := [
  ⟨some 4, true, .mov (.c (.bool false)), none⟩]
def r117_11 : List Op := [
  ⟨some 57, false, .mov (.g 0), none⟩,
  ⟨some 58, false, .call (.k 112) .no none [.l 0], none⟩,
  ⟨some 0, true, .mov (.l 1), none⟩]
def r117_12 : List Op := [
  ⟨some 34, false, .mov (.g 7), none⟩,
  ⟨some 35, false, .bin .sub (.l 0) (.c (.int .i64 1)), none⟩,
  ⟨some 7, true, .mov (.l 1), none⟩]
def b117_0 : C := .seq (.seq (.region false r117_7) (.cond (.g 33) (.skip) (.exit 0))) (.seq (.block 1 (.seq (.region false r117_8) (.seq (.seq (.region false r117_9) (.cond (.g 56) (.seq (.region false r117_10) (.ret)) (.skip))) (.region false r117_11)))) (.region false r117_12))
def l117_0 : C := .loop [] [] [8] [] b117_0
def r117_13 : List Op := [
  ⟨some 60, false, .mov (.g 0), none⟩,
  ⟨some 61, false, .mov (.g 1), none⟩,
  ⟨some 62, false, .call (.k 118) .no none [.l 0, .l 1], none⟩,
  ⟨some 59, false, .mov (.l 2), none⟩,
  ⟨some 63, false, .ext (.l 3) 0, none⟩,
  ⟨some 64, false, .ext (.l 3) 1, none⟩,
  ⟨some 10, false, .alloc [.int .i64 0, .int .i64 0, .int .i64 0, .int .i64 0, .int .i64 0], none⟩,
  ⟨none, false, .store (.v 10) 5 (.l 6) (.l 4), none⟩,
  ⟨some 11, true, .mov (.l 5), none⟩]
def r117_14 : List Op := [
  ⟨some 65, false, .mov (.g 11), none⟩,
  ⟨some 66, false, .un .not (.l 0), none⟩,
  ⟨some 67, false, .mov (.l 1), none⟩,
  ⟨some 68, false, .call (.k 108) .no none [], (some (2, true))⟩,
  ⟨some 69, false, .pick (.l 2) (.l 3) (.c (.bool false)), none⟩,
  ⟨some 4, true, .mov (.l 4), none⟩]
def c117 : C := .seq (.region false r117_0) (.seq (.seq (.region false r117_1) (.cond (.g 14) (.seq (.region false r117_2) (.ret)) (.skip))) (.seq (.region false r117_3) (.seq (.seq (.region false r117_4) (.cond (.g 23) (.seq (.region false r117_5) (.ret)) (.skip))) (.seq (.seq (.region false r117_6) (.block 0 (l117_0))) (.seq (.region false r117_13) (.seq (.region false r117_14) (.ret)))))))
/-- stratigraph.stratigraphlaw16.LeaseEnds -/
def F117 : F := ⟨2, [0, 1, 4, 5, 6, 7, 8, 9, 11, 14, 23, 33, 56], [.t 4], none, c117⟩
attribute [go_sem] r117_0 r117_1 r117_2 r117_3 r117_4 r117_5 r117_6 r117_7 r117_8 r117_9 r117_10 r117_11 r117_12 b117_0 r117_13 r117_14 c117 F117
def r119_0 : List Op := [
  ⟨some 5, true, .box (.g 2), none⟩,
  ⟨some 6, true, .mov (.c (.bool false)), none⟩]
def r119_1 : List Op := [
  ⟨some 13, false, .mov (.g 0), none⟩,
  ⟨some 14, false, .len false (.l 0), none⟩,
  ⟨some 15, true, .bin .gtr (.l 1) (.c (.int .i64 20)), none⟩]
def r119_2 : List Op := [
  ⟨some 16, false, .call (.k 108) .no none [], none⟩,
  ⟨some 6, true, .mov (.l 0), none⟩]
def r119_3 : List Op := [
  ⟨some 18, false, .mov (.g 0), none⟩,
  ⟨some 19, false, .mov (.g 1), none⟩,
  ⟨some 20, false, .load (.v 5) (some 3) (.g 5), none⟩,
  ⟨some 21, false, .call (.k 120) .no none [.l 0, .l 1, .l 2], none⟩,
  ⟨some 17, false, .mov (.l 3), none⟩,
  ⟨some 22, false, .ext (.l 4) 0, none⟩,
  ⟨some 23, false, .ext (.l 4) 1, none⟩,
  ⟨some 7, true, .mov (.l 5), none⟩,
  ⟨some 8, true, .mov (.l 6), none⟩]
def r119_4 : List Op := [
  ⟨some 24, false, .mov (.g 8), none⟩,
  ⟨some 25, true, .bin .neq (.l 0) (.c (.int .i64 0)), none⟩]
def r119_5 : List Op := [
  ⟨some 26, false, .mov (.g 7), none⟩,
  ⟨some 27, false, .len false (.l 0), none⟩,
  ⟨some 28, false, .bin .eql (.l 1) (.c (.int .i64 0)), none⟩,
  ⟨some 29, false, .mov (.l 2), none⟩,
  ⟨some 30, false, .call (.k 108) .no none [], (some (3, true))⟩,
  ⟨some 31, false, .pick (.l 3) (.l 4) (.c (.bool false)), none⟩,
  ⟨some 6, true, .mov (.l 5), none⟩]
def r119_6 : List Op := [
  ⟨some 33, false, .mov (.g 7), none⟩,
  ⟨some 34, false, .mov (.g 1), none⟩,
  ⟨some 35, false, .call (.k 121) .no none [.l 0, .l 1], none⟩,
  ⟨some 32, false, .mov (.l 2), none⟩,
  ⟨some 36, false, .ext (.l 3) 0, none⟩,
  ⟨some 37, false, .ext (.l 3) 1, none⟩,
  ⟨some 9, true, .mov (.l 4), none⟩,
  ⟨some 10, true, .mov (.l 5), none⟩]
def r119_7 : List Op := [
  ⟨some 39, false, .mov (.g 9), none⟩,
  ⟨some 40, false, .mov (.g 1), none⟩,
  ⟨some 41, false, .call (.k 121) .no none [.l 0, .l 1], none⟩,
  ⟨some 38, false, .mov (.l 2), none⟩,
  ⟨some 42, false, .ext (.l 3) 0, none⟩,
  ⟨some 43, false, .ext (.l 3) 1, none⟩,
  ⟨some 11, false, .mov (.l 4), none⟩,
  ⟨some 12, true, .mov (.l 5), none⟩]
def r119_8 : List Op := [
  ⟨some 44, false, .mov (.g 9), none⟩,
  ⟨some 45, false, .mov (.g 0), none⟩,
  ⟨some 46, false, .call (.k 116) .no none [.l 0, .l 1], none⟩,
  ⟨some 47, false, .mov (.l 2), none⟩,
  ⟨some 48, false, .mov (.g 10), (some (3, true))⟩,
  ⟨some 49, false, .bin .eql (.l 4) (.c (.int .i64 0)), (some (3, true))⟩,
  ⟨some 50, false, .pick (.l 3) (.l 5) (.c (.bool false)), none⟩,
  ⟨some 51, false, .mov (.l 6), none⟩,
  ⟨some 52, false, .mov (.g 12), (some (7, true))⟩,
  ⟨some 53, false, .bin .eql (.l 8) (.c (.int .i64 7)), (some (7, true))⟩,
  ⟨some 54, false, .pick (.l 7) (.l 9) (.c (.bool false)), none⟩,
  ⟨some 55, false, .mov (.l 10), none⟩,
  ⟨some 56, false, .call (.k 108) .no none [], (some (11, true))⟩,
  ⟨some 57, false, .pick (.l 11) (.l 12) (.c (.bool false)), none⟩,
  ⟨some 6, true, .mov (.l 13), none⟩]
def c119 : C := .seq (.region false r119_0) (.seq (.seq (.region false r119_1) (.cond (.g 15) (.seq (.region false r119_2) (.ret)) (.skip))) (.seq (.region false r119_3) (.seq (.seq (.region false r119_4) (.cond (.g 25) (.seq (.region false r119_5) (.ret)) (.skip))) (.seq (.region false r119_6) (.seq (.region false r119_7) (.seq (.region false r119_8) (.ret)))))))
/-- stratigraph.stratigraphlaw16.LeaseBack -/
def F119 : F := ⟨3, [0, 1, 2, 5, 6, 7, 8, 9, 10, 12, 15, 25], [.t 6], none, c119⟩
attribute [go_sem] r119_0 r119_1 r119_2 r119_3 r119_4 r119_5 r119_6 r119_7 r119_8 c119 F119
def r122_0 : List Op := [
  ⟨some 5, true, .box (.g 2), none⟩,
  ⟨some 6, true, .mov (.c (.bool false)), none⟩]
def r122_1 : List Op := [
  ⟨some 20, false, .mov (.g 0), none⟩,
  ⟨some 21, false, .len false (.l 0), none⟩,
  ⟨some 22, true, .bin .gtr (.l 1) (.c (.int .i64 20)), none⟩]
def r122_2 : List Op := [
  ⟨some 23, false, .call (.k 108) .no none [], none⟩,
  ⟨some 6, true, .mov (.l 0), none⟩]
def r122_3 : List Op := [
  ⟨some 25, false, .mov (.g 0), none⟩,
  ⟨some 26, false, .mov (.g 1), none⟩,
  ⟨some 27, false, .load (.v 5) (some 3) (.g 5), none⟩,
  ⟨some 28, false, .call (.k 120) .no none [.l 0, .l 1, .l 2], none⟩,
  ⟨some 24, false, .mov (.l 3), none⟩,
  ⟨some 29, false, .ext (.l 4) 0, none⟩,
  ⟨some 30, false, .ext (.l 4) 1, none⟩,
  ⟨some 7, true, .mov (.l 5), none⟩,
  ⟨some 8, true, .mov (.l 6), none⟩]
def r122_4 : List Op := [
  ⟨some 32, false, .mov (.g 0), none⟩,
  ⟨some 33, false, .mov (.g 1), none⟩,
  ⟨some 34, false, .load (.v 5) (some 3) (.g 5), none⟩,
  ⟨some 35, false, .call (.k 123) .no none [.l 0, .l 1, .l 2], none⟩,
  ⟨some 31, false, .mov (.l 3), none⟩,
  ⟨some 36, false, .ext (.l 4) 0, none⟩,
  ⟨some 37, false, .ext (.l 4) 1, none⟩,
  ⟨some 9, true, .mov (.l 5), none⟩,
  ⟨some 10, true, .mov (.l 6), none⟩]
def r122_5 : List Op := [
  ⟨some 39, false, .mov (.g 0), none⟩,
  ⟨some 40, false, .mov (.g 1), none⟩,
  ⟨some 41, false, .call (.k 121) .no none [.l 0, .l 1], none⟩,
  ⟨some 38, false, .mov (.l 2), none⟩,
  ⟨some 42, false, .ext (.l 3) 0, none⟩,
  ⟨some 43, false, .ext (.l 3) 1, none⟩,
  ⟨some 11, true, .mov (.l 4), none⟩,
  ⟨some 12, true, .mov (.l 5), none⟩]
def r122_6 : List Op := [
  ⟨some 45, false, .mov (.g 0), none⟩,
  ⟨some 46, false, .mov (.g 1), none⟩,
  ⟨some 47, false, .call (.k 124) .no none [.l 0, .l 1], none⟩,
  ⟨some 44, false, .mov (.l 2), none⟩,
  ⟨some 48, false, .ext (.l 3) 0, none⟩,
  ⟨some 49, false, .ext (.l 3) 1, none⟩,
  ⟨some 13, true, .mov (.l 4), none⟩,
  ⟨some 14, true, .mov (.l 5), none⟩]
def r122_7 : List Op := [
  ⟨some 51, false, .mov (.g 0), none⟩,
  ⟨some 52, false, .mov (.g 1), none⟩,
  ⟨some 53, false, .call (.k 118) .no none [.l 0, .l 1], none⟩,
  ⟨some 50, false, .mov (.l 2), none⟩,
  ⟨some 54, false, .ext (.l 3) 0, none⟩,
  ⟨some 55, false, .ext (.l 3) 1, none⟩,
  ⟨some 15, true, .alloc [.int .i64 0, .int .i64 0, .int .i64 0, .int .i64 0, .int .i64 0], none⟩,
  ⟨none, false, .store (.v 15) 5 (.l 6) (.l 4), none⟩,
  ⟨some 16, true, .mov (.l 5), none⟩]
def r122_8 : List Op := [
  ⟨some 56, false, .mov (.g 0), none⟩,
  ⟨some 57, false, .call (.k 114) .no none [.l 0], none⟩,
  ⟨some 17, true, .mov (.l 1), none⟩]
def r122_9 : List Op := [
  ⟨some 58, false, .mov (.g 16), none⟩,
  ⟨some 59, false, .mov (.g 17), none⟩,
  ⟨some 60, false, .mov (.l 1), none⟩,
  ⟨some 61, false, .mov (.g 0), (some (2, true))⟩,
  ⟨some 62, false, .mov (.g 1), (some (2, true))⟩,
  ⟨some 63, false, .call (.k 125) .no none [.l 3, .l 4], (some (2, true))⟩,
  ⟨some 64, false, .pick (.l 2) (.l 5) (.c (.bool false)), none⟩,
  ⟨some 65, false, .eqb true (.l 0) (.l 6), none⟩,
  ⟨some 66, false, .mov (.l 7), none⟩,
  ⟨some 67, false, .mov (.g 16), (some (8, false))⟩,
  ⟨some 68, false, .un .not (.l 9), (some (8, false))⟩,
  ⟨some 69, false, .mov (.l 10), (some (8, false))⟩,
  ⟨some 70, false, .load (.v 15) (some 5) (.g 15), (some (11, true))⟩,
  ⟨some 71, false, .build [.int .i64 0, .int .i64 0, .int .i64 0, .int .i64 0, .int .i64 0] [], (some (11, true))⟩,
  ⟨some 72, false, .eqa true [.i, .i, .i, .i, .i] (.l 12) (.l 13), (some (11, true))⟩,
  ⟨some 73, false, .pick (.l 11) (.l 14) (.c (.bool false)), (some (8, false))⟩,
  ⟨some 74, true, .pick (.l 8) (.c (.bool true)) (.l 15), none⟩]
def r122_10 : List Op := [
  ⟨some 6, true, .mov (.c (.bool false)), none⟩]
def r122_11 : List Op := [
  ⟨some 75, true, .mov (.g 0), none⟩,
  ⟨some 76, true, .len false (.l 0), none⟩,
  ⟨some 77, true, .mov (.c (.int .i64 0)), none⟩]
def r122_12 : List Op := [
  ⟨some 78, true, .bin .lss (.g 77) (.g 76), none⟩]
def r122_13 : List Op := [
  ⟨some 79, false, .iad 5 (.g 75) (.g 77), none⟩,
  ⟨some 80, false, .load (.c) (some 5) (.l 0), none⟩,
  ⟨some 19, true, .alloc [.int .i64 0, .int .i64 0, .int .i64 0, .int .i64 0, .int .i64 0], none⟩,
  ⟨none, false, .store (.v 19) 5 (.l 2) (.l 1), none⟩]
def r122_14 : List Op := [
  ⟨some 81, false, .mov (.g 16), none⟩,
  ⟨some 82, false, .mov (.l 0), none⟩,
  ⟨some 83, false, .fad (.g 19) 0, (some (1, true))⟩,
  ⟨some 84, false, .load (.v 19) none (.l 2), (some (1, true))⟩,
  ⟨some 85, false, .mov (.g 1), (some (1, true))⟩,
  ⟨some 86, false, .bin .eql (.l 3) (.l 4), (some (1, true))⟩,
  ⟨some 87, false, .pick (.l 1) (.l 5) (.c (.bool false)), none⟩,
  ⟨some 88, false, .mov (.l 6), none⟩,
  ⟨some 89, false, .load (.v 19) (some 5) (.g 19), (some (7, true))⟩,
  ⟨some 90, false, .load (.v 15) (some 5) (.g 15), (some (7, true))⟩,
  ⟨some 91, false, .eqa true [.i, .i, .i, .i, .i] (.l 8) (.l 9), (some (7, true))⟩,
  ⟨some 92, true, .pick (.l 7) (.l 10) (.c (.bool false)), none⟩]
def r122_15 : List Op := [
  ⟨some 6, true, .mov (.c (.bool false)), none⟩]
def r122_16 : List Op := [
  ⟨some 93, false, .bin .add (.g 77) (.c (.int .i64 1)), none⟩,
  ⟨some 77, true, .mov (.l 0), none⟩]
def b122_0 : C := .seq (.region false r122_12) (.seq (.cond (.g 78) (.skip) (.exit 0)) (.seq (.block 1 (.seq (.region false r122_13) (.seq (.region false r122_14) (.cond (.g 92) (.seq (.region false r122_15) (.ret)) (.skip))))) (.region false r122_16)))
def l122_0 : C := .loop [] [] [19] [] b122_0
def r122_17 : List Op := [
  ⟨some 94, false, .mov (.g 7), none⟩,
  ⟨some 95, false, .mov (.g 9), none⟩,
  ⟨some 96, false, .call (.k 116) .no none [.l 0, .l 1], none⟩,
  ⟨some 97, false, .mov (.l 2), none⟩,
  ⟨some 98, false, .mov (.g 8), (some (3, true))⟩,
  ⟨some 99, false, .mov (.g 10), (some (3, true))⟩,
  ⟨some 100, false, .bin .eql (.l 4) (.l 5), (some (3, true))⟩,
  ⟨some 101, false, .pick (.l 3) (.l 6) (.c (.bool false)), none⟩,
  ⟨some 102, false, .mov (.l 7), none⟩,
  ⟨some 103, false, .mov (.g 11), (some (8, true))⟩,
  ⟨some 104, false, .mov (.g 13), (some (8, true))⟩,
  ⟨some 105, false, .call (.k 116) .no none [.l 9, .l 10], (some (8, true))⟩,
  ⟨some 106, false, .pick (.l 8) (.l 11) (.c (.bool false)), none⟩,
  ⟨some 107, false, .mov (.l 12), none⟩,
  ⟨some 108, false, .mov (.g 12), (some (13, true))⟩,
  ⟨some 109, false, .mov (.g 14), (some (13, true))⟩,
  ⟨some 110, false, .bin .eql (.l 14) (.l 15), (some (13, true))⟩,
  ⟨some 111, false, .pick (.l 13) (.l 16) (.c (.bool false)), none⟩,
  ⟨some 112, false, .mov (.l 17), none⟩,
  ⟨some 113, false, .mov (.g 0), (some (18, true))⟩,
  ⟨some 114, false, .call (.k 126) .no none [.l 19], (some (18, true))⟩,
  ⟨some 115, false, .mov (.g 17), (some (18, true))⟩,
  ⟨some 116, false, .eqb false (.l 20) (.l 21), (some (18, true))⟩,
  ⟨some 117, false, .pick (.l 18) (.l 22) (.c (.bool false)), none⟩,
  ⟨some 118, false, .mov (.l 23), none⟩,
  ⟨some 119, false, .call (.k 108) .no none [], (some (24, true))⟩,
  ⟨some 120, false, .pick (.l 24) (.l 25) (.c (.bool false)), none⟩,
  ⟨some 6, true, .mov (.l 26), none⟩]
def c122 : C := .seq (.region false r122_0) (.seq (.seq (.region false r122_1) (.cond (.g 22) (.seq (.region false r122_2) (.ret)) (.skip))) (.seq (.region false r122_3) (.seq (.region false r122_4) (.seq (.region false r122_5) (.seq (.region false r122_6) (.seq (.region false r122_7) (.seq (.region false r122_8) (.seq (.seq (.region false r122_9) (.cond (.g 74) (.seq (.region false r122_10) (.ret)) (.skip))) (.seq (.seq (.region false r122_11) (.block 0 (l122_0))) (.seq (.region false r122_17) (.ret)))))))))))
/-- stratigraph.stratigraphlaw16.LeaseOpens -/
def F122 : F := ⟨3, [0, 1, 2, 5, 6, 7, 8, 9, 10, 11, 12, 13, 14, 15, 16, 17, 19, 22, 74, 75, 76, 77, 78, 92], [.t 6], none, c122⟩
attribute [go_sem] r122_0 r122_1 r122_2 r122_3 r122_4 r122_5 r122_6 r122_7 r122_8 r122_9 r122_10 r122_11 r122_12 r122_13 r122_14 r122_15 r122_16 b122_0 r122_17 c122 F122
def r127_0 : List Op := [
  ⟨some 2, true, .mov (.c (.bool false)), none⟩]
def r127_1 : List Op := [
  ⟨some 3, true, .mov (.c (.slice 5 [])), none⟩]
def r127_2 : List Op := [
  ⟨some 16, false, .build [.int .i64 0, .int .i64 0, .int .i64 0] [], none⟩,
  ⟨some 4, true, .alloc [.int .i64 0, .int .i64 0, .int .i64 0], none⟩,
  ⟨none, false, .store (.v 4) 3 (.l 1) (.l 0), none⟩]
def r127_3 : List Op := [
  ⟨some 5, true, .mov (.c (.int .i64 0)), none⟩]
def r127_4 : List Op := [
  ⟨some 17, false, .mov (.g 5), none⟩,
  ⟨some 18, false, .mov (.g 0), none⟩,
  ⟨some 19, false, .len false (.l 1), none⟩,
  ⟨some 20, false, .bin .lss (.l 0) (.l 2), none⟩,
  ⟨some 21, false, .mov (.l 3), none⟩,
  ⟨some 22, false, .mov (.g 5), (some (4, true))⟩,
  ⟨some 23, false, .bin .lss (.l 5) (.c (.int .i64 60)), (some (4, true))⟩,
  ⟨some 24, true, .pick (.l 4) (.l 6) (.c (.bool false)), none⟩]
def r127_5 : List Op := [
  ⟨some 27, false, .mov (.g 0), none⟩,
  ⟨some 28, false, .mov (.g 5), none⟩,
  ⟨some 29, false, .iad 4 (.l 0) (.l 1), none⟩,
  ⟨some 30, false, .fad (.l 2) 3, none⟩,
  ⟨some 31, false, .load (.c) none (.l 3), none⟩,
  ⟨some 32, false, .len false (.l 4), none⟩,
  ⟨some 33, true, .bin .gtr (.l 5) (.c (.int .i64 20)), none⟩]
def r127_6 : List Op := [
  ⟨some 34, false, .call (.k 108) .no none [], none⟩,
  ⟨some 2, true, .mov (.l 0), none⟩]
def r127_7 : List Op := [
  ⟨some 35, false, .load (.v 4) (some 3) (.g 4), none⟩,
  ⟨some 6, true, .alloc [.int .i64 0, .int .i64 0, .int .i64 0], none⟩,
  ⟨none, false, .store (.v 6) 3 (.l 1) (.l 0), none⟩]
def r127_8 : List Op := [
  ⟨some 36, false, .mov (.g 0), none⟩,
  ⟨some 37, false, .mov (.g 5), none⟩,
  ⟨some 38, false, .iad 4 (.l 0) (.l 1), none⟩,
  ⟨some 39, false, .fad (.l 2) 0, none⟩,
  ⟨some 40, false, .load (.c) none (.l 3), none⟩,
  ⟨some 41, false, .conv (.int .u64) (.l 4), none⟩,
  ⟨some 42, true, .bin .rem (.l 5) (.c (.int .u64 4)), none⟩]
def r127_9 : List Op := [
  ⟨some 72, false, .bin .eql (.g 42) (.c (.int .u64 0)), none⟩,
  ⟨some 71, true, .mov (.l 0), none⟩]
def r127_10 : List Op := [
  ⟨some 73, false, .fad (.g 4) 0, none⟩,
  ⟨some 74, false, .load (.v 4) none (.l 0), none⟩,
  ⟨some 75, false, .mov (.g 0), none⟩,
  ⟨some 76, false, .mov (.g 5), none⟩,
  ⟨some 77, false, .iad 4 (.l 2) (.l 3), none⟩,
  ⟨some 78, false, .fad (.l 4) 2, none⟩,
  ⟨some 79, false, .load (.c) none (.l 5), none⟩,
  ⟨some 80, false, .conv (.int .u64) (.l 6), none⟩,
  ⟨some 81, false, .bin .rem (.l 7) (.c (.int .u64 100)), none⟩,
  ⟨some 82, false, .conv (.int .i64) (.l 8), none⟩,
  ⟨some 83, false, .bin .add (.l 1) (.l 9), none⟩,
  ⟨some 84, false, .mm false (.l 10) (.c (.int .i64 1099511627776)), none⟩,
  ⟨some 85, false, .fad (.g 4) 1, none⟩,
  ⟨some 86, false, .load (.v 4) none (.l 12), none⟩,
  ⟨some 87, false, .fad (.g 4) 2, none⟩,
  ⟨some 88, false, .load (.v 4) none (.l 14), none⟩,
  ⟨some 89, false, .build [.int .i64 0, .int .i64 0, .int .i64 0] [(0, 1, .l 11), (1, 1, .l 13), (2, 1, .l 15)], none⟩,
  ⟨some 7, true, .alloc [.int .i64 0, .int .i64 0, .int .i64 0], none⟩,
  ⟨none, false, .store (.v 7) 3 (.l 17) (.l 16), none⟩]
def r127_11 : List Op := [
  ⟨some 91, false, .mov (.g 3), none⟩,
  ⟨some 92, false, .mov (.g 0), none⟩,
  ⟨some 93, false, .mov (.g 5), none⟩,
  ⟨some 94, false, .iad 4 (.l 1) (.l 2), none⟩,
  ⟨some 95, false, .fad (.l 3) 1, none⟩,
  ⟨some 96, false, .load (.c) none (.l 4), none⟩,
  ⟨some 97, false, .load (.v 7) (some 3) (.g 7), none⟩,
  ⟨some 98, false, .call (.k 120) .no none [.l 0, .l 5, .l 6], none⟩,
  ⟨some 90, false, .mov (.l 7), none⟩,
  ⟨some 99, false, .ext (.l 8) 0, none⟩,
  ⟨some 100, false, .ext (.l 8) 1, none⟩,
  ⟨some 8, true, .mov (.l 9), none⟩,
  ⟨some 9, true, .mov (.l 10), none⟩]
def r127_12 : List Op := [
  ⟨some 101, false, .mov (.g 9), none⟩,
  ⟨some 102, true, .bin .eql (.l 0) (.c (.int .i64 0)), none⟩]
def r127_13 : List Op := [
  ⟨some 103, false, .mov (.g 8), none⟩,
  ⟨some 3, true, .mov (.l 0), none⟩]
def r127_14 : List Op := [
  ⟨some 105, false, .bin .eql (.g 42) (.c (.int .u64 1)), none⟩,
  ⟨some 104, true, .mov (.l 0), none⟩]
def r127_15 : List Op := [
  ⟨some 107, false, .mov (.g 3), none⟩,
  ⟨some 108, false, .mov (.g 0), none⟩,
  ⟨some 109, false, .mov (.g 5), none⟩,
  ⟨some 110, false, .iad 4 (.l 1) (.l 2), none⟩,
  ⟨some 111, false, .fad (.l 3) 1, none⟩,
  ⟨some 112, false, .load (.c) none (.l 4), none⟩,
  ⟨some 113, false, .call (.k 121) .no none [.l 0, .l 5], none⟩,
  ⟨some 106, false, .mov (.l 6), none⟩,
  ⟨some 114, false, .ext (.l 7) 0, none⟩,
  ⟨some 115, false, .ext (.l 7) 1, none⟩,
  ⟨some 10, true, .mov (.l 8), none⟩,
  ⟨some 11, true, .mov (.l 9), none⟩]
def r127_16 : List Op := [
  ⟨some 116, false, .mov (.g 11), none⟩,
  ⟨some 117, true, .bin .eql (.l 0) (.c (.int .i64 0)), none⟩]
def r127_17 : List Op := [
  ⟨some 118, false, .mov (.g 10), none⟩,
  ⟨some 3, true, .mov (.l 0), none⟩]
def r127_18 : List Op := [
  ⟨some 120, false, .bin .eql (.g 42) (.c (.int .u64 2)), none⟩,
  ⟨some 119, true, .mov (.l 0), none⟩]
def r127_19 : List Op := [
  ⟨some 121, false, .mov (.g 3), none⟩,
  ⟨some 122, false, .call (.k 112) .no none [.l 0], none⟩,
  ⟨some 3, true, .mov (.l 1), none⟩]
def r127_20 : List Op := [
  ⟨some 43, false, .load (.v 4) (some 3) (.g 4), none⟩,
  ⟨some 44, false, .mov (.g 0), none⟩,
  ⟨some 45, false, .mov (.g 5), none⟩,
  ⟨some 46, false, .iad 4 (.l 1) (.l 2), none⟩,
  ⟨some 47, false, .fad (.l 3) 3, none⟩,
  ⟨some 48, false, .load (.c) none (.l 4), none⟩,
  ⟨some 49, false, .mov (.g 3), none⟩,
  ⟨some 50, false, .call (.k 109) .no none [.l 0, .l 5, .l 6], none⟩,
  ⟨none, false, .store (.v 4) 3 (.g 4) (.l 7), none⟩]
def r127_21 : List Op := [
  ⟨some 51, false, .mov (.g 0), none⟩,
  ⟨some 52, false, .mov (.g 5), none⟩,
  ⟨some 53, false, .iad 4 (.l 0) (.l 1), none⟩,
  ⟨some 54, false, .fad (.l 2) 3, none⟩,
  ⟨some 55, true, .load (.c) none (.l 3), none⟩,
  ⟨some 56, true, .len false (.l 4), none⟩,
  ⟨some 57, true, .mov (.c (.int .i64 0)), none⟩]
def r127_22 : List Op := [
  ⟨some 58, true, .bin .lss (.g 57) (.g 56), none⟩]
def r127_23 : List Op := [
  ⟨some 59, false, .iad 3 (.g 55) (.g 57), none⟩,
  ⟨some 60, false, .load (.c) (some 3) (.l 0), none⟩,
  ⟨some 13, true, .alloc [.int .i64 0, .int .i64 0, .int .i64 0], none⟩,
  ⟨none, false, .store (.v 13) 3 (.l 2) (.l 1), none⟩]
def r127_24 : List Op := [
  ⟨some 61, false, .load (.v 4) (some 3) (.g 4), none⟩,
  ⟨some 62, false, .load (.v 6) (some 3) (.g 6), none⟩,
  ⟨some 63, false, .eqa true [.i, .i, .i] (.l 0) (.l 1), none⟩,
  ⟨some 64, false, .mov (.l 2), none⟩,
  ⟨some 65, false, .load (.v 4) (some 3) (.g 4), (some (3, true))⟩,
  ⟨some 66, false, .load (.v 13) (some 3) (.g 13), (some (3, true))⟩,
  ⟨some 67, false, .call (.k 15) .no none [.l 4, .l 5], (some (3, true))⟩,
  ⟨some 68, false, .bin .gtr (.l 6) (.c (.int .i64 0)), (some (3, true))⟩,
  ⟨some 69, true, .pick (.l 3) (.l 7) (.c (.bool false)), none⟩]
def r127_25 : List Op := [
  ⟨some 2, true, .mov (.c (.bool false)), none⟩]
def r127_26 : List Op := [
  ⟨some 70, false, .bin .add (.g 57) (.c (.int .i64 1)), none⟩,
  ⟨some 57, true, .mov (.l 0), none⟩]
def b127_1 : C := .seq (.region false r127_22) (.seq (.cond (.g 58) (.skip) (.exit 3)) (.seq (.block 4 (.seq (.region false r127_23) (.seq (.region false r127_24) (.cond (.g 69) (.seq (.region false r127_25) (.ret)) (.skip))))) (.region false r127_26)))
def l127_1 : C := .loop [] [] [13] [] b127_1
def r127_27 : List Op := [
  ⟨some 123, false, .load (.v 4) (some 3) (.g 4), none⟩,
  ⟨some 124, false, .load (.v 6) (some 3) (.g 6), none⟩,
  ⟨some 125, false, .call (.k 15) .no none [.l 0, .l 1], none⟩,
  ⟨some 126, false, .bin .lss (.l 2) (.c (.int .i64 0)), none⟩,
  ⟨some 127, false, .mov (.l 3), none⟩,
  ⟨some 128, false, .mov (.g 3), (some (4, false))⟩,
  ⟨some 129, false, .call (.k 126) .no none [.l 5], (some (4, false))⟩,
  ⟨some 130, false, .un .not (.l 6), (some (4, false))⟩,
  ⟨some 131, true, .pick (.l 4) (.c (.bool true)) (.l 7), none⟩]
def r127_28 : List Op := [
  ⟨some 2, true, .mov (.c (.bool false)), none⟩]
def r127_29 : List Op := [
  ⟨some 133, false, .mov (.g 3), none⟩,
  ⟨some 134, false, .call (.k 113) .no none [.l 0], none⟩,
  ⟨some 132, false, .mov (.l 1), none⟩,
  ⟨some 135, false, .ext (.l 2) 0, none⟩,
  ⟨some 136, false, .ext (.l 2) 1, none⟩,
  ⟨some 14, true, .alloc [.int .i64 0, .int .i64 0, .int .i64 0], none⟩,
  ⟨none, false, .store (.v 14) 3 (.l 5) (.l 3), none⟩,
  ⟨some 15, true, .mov (.l 4), none⟩]
def r127_30 : List Op := [
  ⟨some 137, false, .mov (.g 15), none⟩,
  ⟨some 138, false, .mov (.l 0), none⟩,
  ⟨some 139, false, .load (.v 4) (some 3) (.g 4), (some (1, true))⟩,
  ⟨some 140, false, .load (.v 14) (some 3) (.g 14), (some (1, true))⟩,
  ⟨some 141, false, .call (.k 15) .no none [.l 2, .l 3], (some (1, true))⟩,
  ⟨some 142, false, .bin .gtr (.l 4) (.c (.int .i64 0)), (some (1, true))⟩,
  ⟨some 143, true, .pick (.l 1) (.l 5) (.c (.bool false)), none⟩]
def r127_31 : List Op := [
  ⟨some 2, true, .mov (.c (.bool false)), none⟩]
def r127_32 : List Op := [
  ⟨some 25, false, .mov (.g 5), none⟩,
  ⟨some 26, false, .bin .add (.l 0) (.c (.int .i64 1)), none⟩,
  ⟨some 5, true, .mov (.l 1), none⟩]
def b127_0 : C := .seq (.seq (.region false r127_4) (.cond (.g 24) (.skip) (.exit 0))) (.seq (.block 1 (.seq (.seq (.region false r127_5) (.cond (.g 33) (.seq (.region false r127_6) (.ret)) (.skip))) (.seq (.region false r127_7) (.seq (.seq (.region false r127_8) (.block 2 (.seq (.region false r127_9) (.cond (.g 71) (.seq (.region true r127_10) (.seq (.region true r127_11) (.seq (.region false r127_12) (.cond (.g 102) (.region false r127_13) (.skip))))) (.seq (.region false r127_14) (.cond (.g 104) (.seq (.region false r127_15) (.seq (.region false r127_16) (.cond (.g 117) (.region false r127_17) (.skip)))) (.seq (.region false r127_18) (.cond (.g 119) (.region false r127_19) (.seq (.region true r127_20) (.seq (.region false r127_21) (.block 3 (l127_1)))))))))))) (.seq (.seq (.region false r127_27) (.cond (.g 131) (.seq (.region false r127_28) (.ret)) (.skip))) (.seq (.region false r127_29) (.seq (.region false r127_30) (.cond (.g 143) (.seq (.region false r127_31) (.ret)) (.skip))))))))) (.region false r127_32))
def l127_0 : C := .loop [] [] [6, 7, 13, 14] [] b127_0
def r127_33 : List Op := [
  ⟨some 144, false, .call (.k 108) .no none [], none⟩,
  ⟨some 2, true, .mov (.l 0), none⟩]
def c127 : C := .seq (.region false r127_0) (.seq (.region false r127_1) (.seq (.region false r127_2) (.seq (.seq (.region false r127_3) (.block 0 (l127_0))) (.seq (.region false r127_33) (.ret)))))
/-- stratigraph.stratigraphlaw16.LeaseHolds -/
def F127 : F := ⟨1, [0, 2, 3, 4, 5, 6, 7, 8, 9, 10, 11, 13, 14, 15, 24, 33, 42, 55, 56, 57, 58, 69, 71, 102, 104, 117, 119, 131, 143], [.t 2], none, c127⟩
attribute [go_sem] r127_0 r127_1 r127_2 r127_3 r127_4 r127_5 r127_6 r127_7 r127_8 r127_9 r127_10 r127_11 r127_12 r127_13 r127_14 r127_15 r127_16 r127_17 r127_18 r127_19 r127_20 r127_21 r127_22 r127_23 r127_24 r127_25 r127_26 b127_1 r127_27 r127_28 r127_29 r127_30 r127_31 r127_32 b127_0 r127_33 c127 F127
def r108_0 : List Op := [
  ⟨some 0, true, .mov (.c (.bool false)), none⟩]
def r108_1 : List Op := [
  ⟨some 4, false, .build [.int .i64 0, .int .i64 0, .int .i64 0] [(0, 1, .c (.int .i64 5))], none⟩,
  ⟨some 5, false, .call (.k 120) .no none [.c (.slice 5 []), .c (.int .i64 3), .l 0], none⟩,
  ⟨some 3, false, .mov (.l 1), none⟩,
  ⟨some 6, false, .ext (.l 2) 0, none⟩,
  ⟨some 7, false, .ext (.l 2) 1, none⟩,
  ⟨some 1, true, .mov (.l 3), none⟩,
  ⟨some 2, true, .mov (.l 4), none⟩]
def r108_2 : List Op := [
  ⟨some 8, false, .mov (.g 1), none⟩,
  ⟨some 9, false, .len false (.l 0), none⟩,
  ⟨some 10, false, .bin .eql (.l 1) (.c (.int .i64 1)), none⟩,
  ⟨some 11, false, .mov (.l 2), none⟩,
  ⟨some 12, false, .mov (.g 2), (some (3, true))⟩,
  ⟨some 13, false, .bin .eql (.l 4) (.c (.int .i64 0)), (some (3, true))⟩,
  ⟨some 14, false, .pick (.l 3) (.l 5) (.c (.bool false)), none⟩,
  ⟨some 15, false, .mov (.l 6), none⟩,
  ⟨some 16, false, .mov (.g 1), (some (7, true))⟩,
  ⟨some 17, false, .iad 5 (.l 8) (.c (.int .i64 0)), (some (7, true))⟩,
  ⟨some 18, false, .load (.c) (some 5) (.l 9), (some (7, true))⟩,
  ⟨some 19, false, .build [.int .i64 0, .int .i64 0, .int .i64 0] [(0, 1, .c (.int .i64 5))], (some (7, true))⟩,
  ⟨some 20, false, .build [.int .i64 0, .int .i64 0, .int .i64 0, .int .i64 0, .int .i64 0] [(0, 1, .c (.int .i64 3)), (1, 1, .c (.int .i64 20)), (2, 3, .l 11)], (some (7, true))⟩,
  ⟨some 21, false, .eqa false [.i, .i, .i, .i, .i] (.l 10) (.l 12), (some (7, true))⟩,
  ⟨some 22, false, .pick (.l 7) (.l 13) (.c (.bool false)), none⟩,
  ⟨some 23, false, .mov (.l 14), none⟩,
  ⟨some 24, false, .build [.int .i64 0, .int .i64 0, .int .i64 0] [(0, 1, .c (.int .i64 2))], (some (15, true))⟩,
  ⟨some 25, false, .build [.int .i64 0, .int .i64 0, .int .i64 0] [(0, 1, .c (.int .i64 9))], (some (15, true))⟩,
  ⟨some 26, false, .build [.int .i64 0, .int .i64 0, .int .i64 0] [(0, 1, .c (.int .i64 7))], (some (15, true))⟩,
  ⟨some 27, false, .mks 3 2 [.int .i64 0, .int .i64 0, .int .i64 0] [(0, .l 17), (1, .l 18)], (some (15, true))⟩,
  ⟨some 28, false, .mov (.g 1), (some (15, true))⟩,
  ⟨some 29, false, .call (.k 109) .no none [.l 16, .l 19, .l 20], (some (15, true))⟩,
  ⟨some 30, false, .build [.int .i64 0, .int .i64 0, .int .i64 0] [(0, 1, .c (.int .i64 5))], (some (15, true))⟩,
  ⟨some 31, false, .eqa false [.i, .i, .i] (.l 21) (.l 22), (some (15, true))⟩,
  ⟨some 32, false, .pick (.l 15) (.l 23) (.c (.bool false)), none⟩,
  ⟨some 0, true, .mov (.l 24), none⟩]
def c108 : C := .seq (.region false r108_0) (.seq (.region false r108_1) (.seq (.region false r108_2) (.ret)))
/-- stratigraph.stratigraphlaw16.awake -/
def F108 : F := ⟨0, [0, 1, 2], [.t 0], none, c108⟩
attribute [go_sem] r108_0 r108_1 r108_2 c108 F108
def r109_0 : List Op := [
  ⟨some 3, true, .box (.g 0), none⟩,
  ⟨some 6, true, .alloc [.int .i64 0, .int .i64 0, .int .i64 0], none⟩]
def r109_1 : List Op := [
  ⟨some 10, false, .mov (.g 2), none⟩,
  ⟨some 11, false, .call (.k 126) .no none [.l 0], none⟩,
  ⟨some 12, false, .un .not (.l 1), none⟩,
  ⟨some 13, false, .mov (.l 2), none⟩,
  ⟨some 14, false, .mov (.g 1), (some (3, false))⟩,
  ⟨some 15, false, .len false (.l 4), (some (3, false))⟩,
  ⟨some 16, false, .bin .eql (.l 5) (.c (.int .i64 0)), (some (3, false))⟩,
  ⟨some 17, false, .pick (.l 3) (.c (.bool true)) (.l 6), none⟩,
  ⟨some 18, false, .mov (.l 7), none⟩,
  ⟨some 19, false, .load (.v 3) (some 3) (.g 3), (some (8, false))⟩,
  ⟨some 20, false, .call (.k 28) .no none [.l 9], (some (8, false))⟩,
  ⟨some 21, false, .un .not (.l 10), (some (8, false))⟩,
  ⟨some 22, false, .pick (.l 8) (.c (.bool true)) (.l 11), none⟩,
  ⟨some 23, false, .mov (.l 12), none⟩,
  ⟨some 24, false, .mov (.g 1), (some (13, false))⟩,
  ⟨some 25, false, .call (.k 128) .no none [.l 14, .f 129], (some (13, false))⟩,
  ⟨some 26, true, .pick (.l 13) (.c (.bool true)) (.l 15), none⟩]
def r109_2 : List Op := [
  ⟨some 27, false, .load (.v 3) (some 3) (.g 3), none⟩,
  ⟨none, false, .store (.v 6) 3 (.g 6) (.l 0), none⟩]
def r109_3 : List Op := [
  ⟨some 28, false, .mov (.g 1), none⟩,
  ⟨some 29, false, .call (.k 130) .no none [.l 0, .f 15], none⟩,
  ⟨some 7, true, .alloc [.int .i64 0, .int .i64 0, .int .i64 0], none⟩,
  ⟨none, false, .store (.v 7) 3 (.l 2) (.l 1), none⟩]
def r109_4 : List Op := [
  ⟨some 31, false, .mov (.g 2), none⟩,
  ⟨some 32, false, .call (.k 113) .no none [.l 0], none⟩,
  ⟨some 30, false, .mov (.l 1), none⟩,
  ⟨some 33, false, .ext (.l 2) 0, none⟩,
  ⟨some 34, false, .ext (.l 2) 1, none⟩,
  ⟨some 8, true, .alloc [.int .i64 0, .int .i64 0, .int .i64 0], none⟩,
  ⟨none, false, .store (.v 8) 3 (.l 5) (.l 3), none⟩,
  ⟨some 9, true, .mov (.l 4), none⟩]
def r109_5 : List Op := [
  ⟨some 35, true, .mov (.g 9), none⟩]
def r109_6 : List Op := [
  ⟨some 36, false, .load (.v 7) (some 3) (.g 7), none⟩,
  ⟨some 37, false, .load (.v 8) (some 3) (.g 8), none⟩,
  ⟨some 38, false, .call (.k 131) .no none [.l 0, .l 1], none⟩,
  ⟨none, false, .store (.v 7) 3 (.g 7) (.l 2), none⟩]
def r109_7 : List Op := [
  ⟨some 39, false, .load (.v 3) (some 3) (.g 3), none⟩,
  ⟨some 40, false, .load (.v 7) (some 3) (.g 7), none⟩,
  ⟨some 41, false, .call (.k 21) .no none [.l 0, .l 1], none⟩,
  ⟨none, false, .store (.v 6) 3 (.g 6) (.l 2), none⟩]
def c109 : C := .seq (.region false r109_0) (.seq (.seq (.region false r109_1) (.cond (.g 26) (.seq (.region false r109_2) (.ret)) (.skip))) (.seq (.region false r109_3) (.seq (.seq (.region false r109_4) (.seq (.region false r109_5) (.cond (.g 35) (.region false r109_6) (.skip)))) (.seq (.region false r109_7) (.ret)))))
/-- stratigraph.lease.Mark -/
def F109 : F := ⟨3, [0, 1, 2, 3, 6, 7, 8, 9, 26, 35], [.cell 6 (some 3)], none, c109⟩
attribute [go_sem] r109_0 r109_1 r109_2 r109_3 r109_4 r109_5 r109_6 r109_7 c109 F109
def r110_0 : List Op := [
  ⟨some 3, true, .box (.g 0), none⟩,
  ⟨some 6, true, .alloc [.int .i64 0, .int .i64 0, .int .i64 0], none⟩]
def r110_1 : List Op := [
  ⟨some 13, false, .mov (.g 1), none⟩,
  ⟨some 7, true, .mov (.l 0), none⟩]
def r110_2 : List Op := [
  ⟨some 8, true, .mov (.c (.int .i64 0)), none⟩]
def r110_3 : List Op := [
  ⟨some 14, false, .mov (.g 8), none⟩,
  ⟨some 15, false, .mov (.g 2), none⟩,
  ⟨some 16, false, .len false (.l 1), none⟩,
  ⟨some 17, true, .bin .lss (.l 0) (.l 2), none⟩]
def r110_4 : List Op := [
  ⟨some 9, true, .mko 3, none⟩]
def r110_5 : List Op := [
  ⟨some 20, false, .mov (.g 9), none⟩,
  ⟨some 21, false, .mov (.g 7), none⟩,
  ⟨some 22, false, .app 9 3 (.l 0) (.l 1), none⟩,
  ⟨some 23, false, .mov (.g 2), none⟩,
  ⟨some 24, false, .mov (.g 8), none⟩,
  ⟨some 25, false, .iad 5 (.l 3) (.l 4), none⟩,
  ⟨some 26, false, .fad (.l 5) 2, none⟩,
  ⟨some 27, false, .load (.c) (some 3) (.l 6), none⟩,
  ⟨some 28, false, .mks 3 1 [.int .i64 0, .int .i64 0, .int .i64 0] [(0, .l 7)], none⟩,
  ⟨some 29, false, .app 9 3 (.l 2) (.l 8), none⟩,
  ⟨some 7, true, .frz 9 (.l 9), none⟩]
def r110_6 : List Op := [
  ⟨some 18, false, .mov (.g 8), none⟩,
  ⟨some 19, false, .bin .add (.l 0) (.c (.int .i64 1)), none⟩,
  ⟨some 8, true, .mov (.l 1), none⟩]
def b110_0 : C := .seq (.seq (.region false r110_3) (.cond (.g 17) (.skip) (.exit 0))) (.seq (.block 1 (.seq (.region false r110_4) (.region true r110_5))) (.region false r110_6))
def l110_0 : C := .loop [] [] [] [9] b110_0
def r110_7 : List Op := [
  ⟨some 30, false, .mov (.g 2), none⟩,
  ⟨some 31, false, .call (.k 114) .no none [.l 0], none⟩,
  ⟨some 32, false, .un .not (.l 1), none⟩,
  ⟨some 33, false, .mov (.l 2), none⟩,
  ⟨some 34, false, .mov (.g 1), (some (3, false))⟩,
  ⟨some 35, false, .len false (.l 4), (some (3, false))⟩,
  ⟨some 36, false, .bin .eql (.l 5) (.c (.int .i64 0)), (some (3, false))⟩,
  ⟨some 37, false, .pick (.l 3) (.c (.bool true)) (.l 6), none⟩,
  ⟨some 38, false, .mov (.l 7), none⟩,
  ⟨some 39, false, .load (.v 3) (some 3) (.g 3), (some (8, false))⟩,
  ⟨some 40, false, .call (.k 24) .no none [.l 9], (some (8, false))⟩,
  ⟨some 41, false, .un .not (.l 10), (some (8, false))⟩,
  ⟨some 42, true, .pick (.l 8) (.c (.bool true)) (.l 11), none⟩]
def r110_8 : List Op := [
  ⟨some 43, false, .load (.v 3) (some 3) (.g 3), none⟩,
  ⟨none, false, .store (.v 6) 3 (.g 6) (.l 0), none⟩]
def r110_9 : List Op := [
  ⟨some 10, true, .mov (.c (.int .i64 0)), none⟩]
def r110_10 : List Op := [
  ⟨some 44, false, .mov (.g 10), none⟩,
  ⟨some 45, false, .mov (.g 7), none⟩,
  ⟨some 46, false, .len false (.l 1), none⟩,
  ⟨some 47, true, .bin .lss (.l 0) (.l 2), none⟩]
def r110_11 : List Op := [
  ⟨some 50, false, .mov (.g 7), none⟩,
  ⟨some 51, false, .mov (.g 10), none⟩,
  ⟨some 52, false, .iad 3 (.l 0) (.l 1), none⟩,
  ⟨some 53, false, .load (.c) (some 3) (.l 2), none⟩,
  ⟨some 54, false, .call (.k 24) .no none [.l 3], none⟩,
  ⟨some 55, false, .un .not (.l 4), none⟩,
  ⟨some 56, false, .mov (.l 5), none⟩,
  ⟨some 57, false, .load (.v 3) (some 3) (.g 3), (some (6, false))⟩,
  ⟨some 58, false, .mov (.g 7), (some (6, false))⟩,
  ⟨some 59, false, .mov (.g 10), (some (6, false))⟩,
  ⟨some 60, false, .iad 3 (.l 8) (.l 9), (some (6, false))⟩,
  ⟨some 61, false, .load (.c) (some 3) (.l 10), (some (6, false))⟩,
  ⟨some 62, false, .call (.k 6) .no none [.l 7, .l 11], (some (6, false))⟩,
  ⟨some 63, false, .un .not (.l 12), (some (6, false))⟩,
  ⟨some 64, true, .pick (.l 6) (.c (.bool true)) (.l 13), none⟩]
def r110_12 : List Op := [
  ⟨some 65, false, .load (.v 3) (some 3) (.g 3), none⟩,
  ⟨none, false, .store (.v 6) 3 (.g 6) (.l 0), none⟩]
def r110_13 : List Op := [
  ⟨some 48, false, .mov (.g 10), none⟩,
  ⟨some 49, false, .bin .add (.l 0) (.c (.int .i64 1)), none⟩,
  ⟨some 10, true, .mov (.l 1), none⟩]
def b110_1 : C := .seq (.seq (.region false r110_10) (.cond (.g 47) (.skip) (.exit 2))) (.seq (.block 3 (.seq (.region true r110_11) (.cond (.g 64) (.seq (.region false r110_12) (.ret)) (.skip)))) (.region false r110_13))
def l110_1 : C := .loop [] [] [] [] b110_1
def r110_14 : List Op := [
  ⟨some 66, false, .mov (.g 7), none⟩,
  ⟨some 67, false, .iad 3 (.l 0) (.c (.int .i64 0)), none⟩,
  ⟨some 68, false, .load (.c) (some 3) (.l 1), none⟩,
  ⟨some 11, true, .alloc [.int .i64 0, .int .i64 0, .int .i64 0], none⟩,
  ⟨none, false, .store (.v 11) 3 (.l 3) (.l 2), none⟩]
def r110_15 : List Op := [
  ⟨some 12, true, .mov (.c (.int .i64 0)), none⟩]
def r110_16 : List Op := [
  ⟨some 69, false, .mov (.g 12), none⟩,
  ⟨some 70, false, .mov (.g 7), none⟩,
  ⟨some 71, false, .len false (.l 1), none⟩,
  ⟨some 72, true, .bin .lss (.l 0) (.l 2), none⟩]
def r110_17 : List Op := [
  ⟨some 75, false, .load (.v 11) (some 3) (.g 11), none⟩,
  ⟨some 76, false, .mov (.g 7), none⟩,
  ⟨some 77, false, .mov (.g 12), none⟩,
  ⟨some 78, false, .iad 3 (.l 1) (.l 2), none⟩,
  ⟨some 79, false, .load (.c) (some 3) (.l 3), none⟩,
  ⟨some 80, false, .call (.k 132) .no none [.l 0, .l 4], none⟩,
  ⟨none, false, .store (.v 11) 3 (.g 11) (.l 5), none⟩]
def r110_18 : List Op := [
  ⟨some 73, false, .mov (.g 12), none⟩,
  ⟨some 74, false, .bin .add (.l 0) (.c (.int .i64 1)), none⟩,
  ⟨some 12, true, .mov (.l 1), none⟩]
def b110_2 : C := .seq (.seq (.region false r110_16) (.cond (.g 72) (.skip) (.exit 4))) (.seq (.block 5 (.region true r110_17)) (.region false r110_18))
def l110_2 : C := .loop [] [] [] [] b110_2
def r110_19 : List Op := [
  ⟨some 81, false, .load (.v 11) (some 3) (.g 11), none⟩,
  ⟨none, false, .store (.v 6) 3 (.g 6) (.l 0), none⟩]
def c110 : C := .seq (.region false r110_0) (.seq (.region false r110_1) (.seq (.seq (.region false r110_2) (.block 0 (l110_0))) (.seq (.seq (.region false r110_7) (.cond (.g 42) (.seq (.region false r110_8) (.ret)) (.skip))) (.seq (.seq (.region false r110_9) (.block 2 (l110_1))) (.seq (.region false r110_14) (.seq (.seq (.region false r110_15) (.block 4 (l110_2))) (.seq (.region false r110_19) (.ret))))))))
/-- stratigraph.stratigraphref16.Mark -/
def F110 : F := ⟨3, [0, 1, 2, 3, 6, 7, 8, 9, 10, 11, 12, 17, 42, 47, 64, 72], [.cell 6 (some 3)], none, c110⟩
attribute [go_sem] r110_0 r110_1 r110_2 r110_3 r110_4 r110_5 r110_6 b110_0 r110_7 r110_8 r110_9 r110_10 r110_11 r110_12 r110_13 b110_1 r110_14 r110_15 r110_16 r110_17 r110_18 b110_2 r110_19 c110 F110
def r112_0 : List Op := [
  ⟨some 2, true, .mov (.c (.slice 5 [])), none⟩]
def r112_1 : List Op := [
  ⟨some 6, false, .mov (.g 0), none⟩,
  ⟨some 7, false, .call (.k 126) .no none [.l 0], none⟩,
  ⟨some 8, true, .un .not (.l 1), none⟩]
def r112_2 : List Op := [
  ⟨some 2, true, .mov (.c (.slice 5 [])), none⟩]
def r112_3 : List Op := [
  ⟨some 3, true, .mko 5, none⟩]
def r112_4 : List Op := [
  ⟨some 9, true, .mov (.g 0), none⟩,
  ⟨some 10, true, .len false (.l 0), none⟩,
  ⟨some 11, true, .mov (.c (.int .i64 0)), none⟩]
def r112_5 : List Op := [
  ⟨some 12, true, .bin .lss (.g 11) (.g 10), none⟩]
def r112_6 : List Op := [
  ⟨some 13, false, .iad 5 (.g 9) (.g 11), none⟩,
  ⟨some 14, false, .load (.c) (some 5) (.l 0), none⟩,
  ⟨some 5, true, .alloc [.int .i64 0, .int .i64 0, .int .i64 0, .int .i64 0, .int .i64 0], none⟩,
  ⟨none, false, .store (.v 5) 5 (.l 2) (.l 1), none⟩]
def r112_7 : List Op := [
  ⟨some 15, false, .fad (.g 5) 1, none⟩,
  ⟨some 16, false, .load (.v 5) none (.l 0), none⟩,
  ⟨some 17, false, .bin .sub (.l 1) (.c (.int .i64 1)), none⟩,
  ⟨some 18, false, .fad (.g 5) 1, none⟩,
  ⟨none, false, .store (.v 5) 1 (.l 3) (.l 2), none⟩]
def r112_8 : List Op := [
  ⟨some 19, false, .fad (.g 5) 1, none⟩,
  ⟨some 20, false, .load (.v 5) none (.l 0), none⟩,
  ⟨some 21, true, .bin .gtr (.l 1) (.c (.int .i64 0)), none⟩]
def r112_9 : List Op := [
  ⟨some 22, false, .mov (.g 3), none⟩,
  ⟨some 23, false, .load (.v 5) (some 5) (.g 5), none⟩,
  ⟨some 24, false, .mks 5 1 [.int .i64 0, .int .i64 0, .int .i64 0, .int .i64 0, .int .i64 0] [(0, .l 1)], none⟩,
  ⟨some 25, false, .app 3 5 (.l 0) (.l 2), none⟩,
  ⟨some 3, true, .mov (.l 3), none⟩]
def r112_10 : List Op := [
  ⟨some 26, false, .bin .add (.g 11) (.c (.int .i64 1)), none⟩,
  ⟨some 11, true, .mov (.l 0), none⟩]
def b112_0 : C := .seq (.region false r112_5) (.seq (.cond (.g 12) (.skip) (.exit 0)) (.seq (.block 1 (.seq (.region false r112_6) (.seq (.region false r112_7) (.seq (.region false r112_8) (.cond (.g 21) (.region false r112_9) (.skip)))))) (.region false r112_10)))
def l112_0 : C := .loop [] [] [5] [] b112_0
def r112_11 : List Op := [
  ⟨some 27, false, .mov (.g 3), none⟩,
  ⟨some 2, true, .mov (.l 0), none⟩]
def c112 : C := .seq (.region false r112_0) (.seq (.seq (.region false r112_1) (.cond (.g 8) (.seq (.region false r112_2) (.ret)) (.skip))) (.seq (.region false r112_3) (.seq (.seq (.region false r112_4) (.block 0 (l112_0))) (.seq (.region false r112_11) (.ret)))))
/-- stratigraph.lease.Tick -/
def F112 : F := ⟨1, [0, 2, 3, 5, 8, 9, 10, 11, 12, 21], [.t 2], none, c112⟩
attribute [go_sem] r112_0 r112_1 r112_2 r112_3 r112_4 r112_5 r112_6 r112_7 r112_8 r112_9 r112_10 b112_0 r112_11 c112 F112
def r113_0 : List Op := [
  ⟨some 2, true, .alloc [.int .i64 0, .int .i64 0, .int .i64 0], none⟩,
  ⟨some 3, true, .mov (.c (.bool false)), none⟩]
def r113_1 : List Op := [
  ⟨some 7, false, .mov (.g 0), none⟩,
  ⟨some 8, false, .call (.k 126) .no none [.l 0], none⟩,
  ⟨some 9, false, .un .not (.l 1), none⟩,
  ⟨some 10, false, .mov (.l 2), none⟩,
  ⟨some 11, false, .mov (.g 0), (some (3, false))⟩,
  ⟨some 12, false, .len false (.l 4), (some (3, false))⟩,
  ⟨some 13, false, .bin .eql (.l 5) (.c (.int .i64 0)), (some (3, false))⟩,
  ⟨some 14, true, .pick (.l 3) (.c (.bool true)) (.l 6), none⟩]
def r113_2 : List Op := [
  ⟨some 15, false, .build [.int .i64 0, .int .i64 0, .int .i64 0] [], none⟩,
  ⟨none, false, .store (.v 2) 3 (.g 2) (.l 0), none⟩,
  ⟨some 3, true, .mov (.c (.bool false)), none⟩]
def r113_3 : List Op := [
  ⟨some 16, false, .mov (.g 0), none⟩,
  ⟨some 17, false, .iad 5 (.l 0) (.c (.int .i64 0)), none⟩,
  ⟨some 18, false, .fad (.l 1) 2, none⟩,
  ⟨some 19, false, .load (.c) (some 3) (.l 2), none⟩,
  ⟨some 4, true, .alloc [.int .i64 0, .int .i64 0, .int .i64 0], none⟩,
  ⟨none, false, .store (.v 4) 3 (.l 4) (.l 3), none⟩]
def r113_4 : List Op := [
  ⟨some 20, true, .mov (.g 0), none⟩,
  ⟨some 21, true, .len false (.l 0), none⟩,
  ⟨some 22, true, .mov (.c (.int .i64 0)), none⟩]
def r113_5 : List Op := [
  ⟨some 23, true, .bin .lss (.g 22) (.g 21), none⟩]
def r113_6 : List Op := [
  ⟨some 24, false, .iad 5 (.g 20) (.g 22), none⟩,
  ⟨some 25, false, .load (.c) (some 5) (.l 0), none⟩,
  ⟨some 6, true, .alloc [.int .i64 0, .int .i64 0, .int .i64 0, .int .i64 0, .int .i64 0], none⟩,
  ⟨none, false, .store (.v 6) 5 (.l 2) (.l 1), none⟩]
def r113_7 : List Op := [
  ⟨some 26, false, .load (.v 4) (some 3) (.g 4), none⟩,
  ⟨some 27, false, .fad (.g 6) 2, none⟩,
  ⟨some 28, false, .load (.v 6) (some 3) (.l 1), none⟩,
  ⟨some 29, false, .call (.k 131) .no none [.l 0, .l 2], none⟩,
  ⟨none, false, .store (.v 4) 3 (.g 4) (.l 3), none⟩]
def r113_8 : List Op := [
  ⟨some 30, false, .bin .add (.g 22) (.c (.int .i64 1)), none⟩,
  ⟨some 22, true, .mov (.l 0), none⟩]
def b113_0 : C := .seq (.region false r113_5) (.seq (.cond (.g 23) (.skip) (.exit 0)) (.seq (.block 1 (.seq (.region false r113_6) (.region false r113_7))) (.region false r113_8)))
def l113_0 : C := .loop [] [] [6] [] b113_0
def r113_9 : List Op := [
  ⟨some 31, false, .load (.v 4) (some 3) (.g 4), none⟩,
  ⟨none, false, .store (.v 2) 3 (.g 2) (.l 0), none⟩,
  ⟨some 3, true, .mov (.c (.bool true)), none⟩]
def c113 : C := .seq (.region false r113_0) (.seq (.seq (.region false r113_1) (.cond (.g 14) (.seq (.region false r113_2) (.ret)) (.skip))) (.seq (.region false r113_3) (.seq (.seq (.region false r113_4) (.block 0 (l113_0))) (.seq (.region false r113_9) (.ret)))))
/-- stratigraph.lease.Least -/
def F113 : F := ⟨1, [0, 2, 3, 4, 6, 14, 20, 21, 22, 23], [.cell 2 (some 3), .t 3], none, c113⟩
attribute [go_sem] r113_0 r113_1 r113_2 r113_3 r113_4 r113_5 r113_6 r113_7 r113_8 b113_0 r113_9 c113 F113
def r114_0 : List Op := [
  ⟨some 2, true, .mov (.c (.bool false)), none⟩]
def r114_1 : List Op := [
  ⟨some 4, false, .mov (.g 0), none⟩,
  ⟨some 5, false, .len false (.l 0), none⟩,
  ⟨some 6, true, .bin .gtr (.l 1) (.c (.int .i64 4)), none⟩]
def r114_2 : List Op := [
  ⟨some 2, true, .mov (.c (.bool false)), none⟩]
def r114_3 : List Op := [
  ⟨some 3, true, .mov (.c (.int .i64 0)), none⟩]
def r114_4 : List Op := [
  ⟨some 7, false, .mov (.g 3), none⟩,
  ⟨some 8, false, .mov (.g 0), none⟩,
  ⟨some 9, false, .len false (.l 1), none⟩,
  ⟨some 10, true, .bin .lss (.l 0) (.l 2), none⟩]
def r114_5 : List Op := [
  ⟨some 13, false, .mov (.g 0), none⟩,
  ⟨some 14, false, .mov (.g 3), none⟩,
  ⟨some 15, false, .iad 5 (.l 0) (.l 1), none⟩,
  ⟨some 16, false, .fad (.l 2) 0, none⟩,
  ⟨some 17, false, .load (.c) none (.l 3), none⟩,
  ⟨some 18, false, .bin .lss (.l 4) (.c (.int .i64 1)), none⟩,
  ⟨some 19, false, .mov (.l 5), none⟩,
  ⟨some 20, false, .mov (.g 0), (some (6, false))⟩,
  ⟨some 21, false, .mov (.g 3), (some (6, false))⟩,
  ⟨some 22, false, .iad 5 (.l 7) (.l 8), (some (6, false))⟩,
  ⟨some 23, false, .fad (.l 9) 0, (some (6, false))⟩,
  ⟨some 24, false, .load (.c) none (.l 10), (some (6, false))⟩,
  ⟨some 25, false, .bin .gtr (.l 11) (.c (.int .i64 1099511627776)), (some (6, false))⟩,
  ⟨some 26, false, .pick (.l 6) (.c (.bool true)) (.l 12), none⟩,
  ⟨some 27, false, .mov (.l 13), none⟩,
  ⟨some 28, false, .mov (.g 0), (some (14, false))⟩,
  ⟨some 29, false, .mov (.g 3), (some (14, false))⟩,
  ⟨some 30, false, .iad 5 (.l 15) (.l 16), (some (14, false))⟩,
  ⟨some 31, false, .fad (.l 17) 1, (some (14, false))⟩,
  ⟨some 32, false, .load (.c) none (.l 18), (some (14, false))⟩,
  ⟨some 33, false, .bin .lss (.l 19) (.c (.int .i64 1)), (some (14, false))⟩,
  ⟨some 34, false, .pick (.l 14) (.c (.bool true)) (.l 20), none⟩,
  ⟨some 35, false, .mov (.l 21), none⟩,
  ⟨some 36, false, .mov (.g 0), (some (22, false))⟩,
  ⟨some 37, false, .mov (.g 3), (some (22, false))⟩,
  ⟨some 38, false, .iad 5 (.l 23) (.l 24), (some (22, false))⟩,
  ⟨some 39, false, .fad (.l 25) 1, (some (22, false))⟩,
  ⟨some 40, false, .load (.c) none (.l 26), (some (22, false))⟩,
  ⟨some 41, false, .bin .gtr (.l 27) (.c (.int .i64 20)), (some (22, false))⟩,
  ⟨some 42, false, .pick (.l 22) (.c (.bool true)) (.l 28), none⟩,
  ⟨some 43, false, .mov (.l 29), none⟩,
  ⟨some 44, false, .mov (.g 0), (some (30, false))⟩,
  ⟨some 45, false, .mov (.g 3), (some (30, false))⟩,
  ⟨some 46, false, .iad 5 (.l 31) (.l 32), (some (30, false))⟩,
  ⟨some 47, false, .fad (.l 33) 2, (some (30, false))⟩,
  ⟨some 48, false, .load (.c) (some 3) (.l 34), (some (30, false))⟩,
  ⟨some 49, false, .call (.k 24) .no none [.l 35], (some (30, false))⟩,
  ⟨some 50, false, .un .not (.l 36), (some (30, false))⟩,
  ⟨some 51, true, .pick (.l 30) (.c (.bool true)) (.l 37), none⟩]
def r114_6 : List Op := [
  ⟨some 2, true, .mov (.c (.bool false)), none⟩]
def r114_7 : List Op := [
  ⟨some 52, false, .mov (.g 3), none⟩,
  ⟨some 53, false, .bin .gtr (.l 0) (.c (.int .i64 0)), none⟩,
  ⟨some 54, false, .mov (.l 1), none⟩,
  ⟨some 55, false, .mov (.g 0), (some (2, true))⟩,
  ⟨some 56, false, .mov (.g 3), (some (2, true))⟩,
  ⟨some 57, false, .bin .sub (.l 4) (.c (.int .i64 1)), (some (2, true))⟩,
  ⟨some 58, false, .iad 5 (.l 3) (.l 5), (some (2, true))⟩,
  ⟨some 59, false, .fad (.l 6) 0, (some (2, true))⟩,
  ⟨some 60, false, .load (.c) none (.l 7), (some (2, true))⟩,
  ⟨some 61, false, .mov (.g 0), (some (2, true))⟩,
  ⟨some 62, false, .mov (.g 3), (some (2, true))⟩,
  ⟨some 63, false, .iad 5 (.l 9) (.l 10), (some (2, true))⟩,
  ⟨some 64, false, .fad (.l 11) 0, (some (2, true))⟩,
  ⟨some 65, false, .load (.c) none (.l 12), (some (2, true))⟩,
  ⟨some 66, false, .bin .geq (.l 8) (.l 13), (some (2, true))⟩,
  ⟨some 67, true, .pick (.l 2) (.l 14) (.c (.bool false)), none⟩]
def r114_8 : List Op := [
  ⟨some 2, true, .mov (.c (.bool false)), none⟩]
def r114_9 : List Op := [
  ⟨some 11, false, .mov (.g 3), none⟩,
  ⟨some 12, false, .bin .add (.l 0) (.c (.int .i64 1)), none⟩,
  ⟨some 3, true, .mov (.l 1), none⟩]
def b114_0 : C := .seq (.seq (.region false r114_4) (.cond (.g 10) (.skip) (.exit 0))) (.seq (.block 1 (.seq (.seq (.region false r114_5) (.cond (.g 51) (.seq (.region false r114_6) (.ret)) (.skip))) (.seq (.region true r114_7) (.cond (.g 67) (.seq (.region false r114_8) (.ret)) (.skip))))) (.region false r114_9))
def l114_0 : C := .loop [] [] [] [] b114_0
def r114_10 : List Op := [
  ⟨some 2, true, .mov (.c (.bool true)), none⟩]
def c114 : C := .seq (.region false r114_0) (.seq (.seq (.region false r114_1) (.cond (.g 6) (.seq (.region false r114_2) (.ret)) (.skip))) (.seq (.seq (.region false r114_3) (.block 0 (l114_0))) (.seq (.region false r114_10) (.ret))))
/-- stratigraph.stratigraphref16.Right -/
def F114 : F := ⟨1, [0, 2, 3, 6, 10, 51, 67], [.t 2], none, c114⟩
attribute [go_sem] r114_0 r114_1 r114_2 r114_3 r114_4 r114_5 r114_6 r114_7 r114_8 r114_9 b114_0 r114_10 c114 F114
def r115_0 : List Op := [
  ⟨some 2, true, .mov (.c (.slice 5 [])), none⟩]
def r115_1 : List Op := [
  ⟨some 3, true, .mko 5, none⟩]
def r115_2 : List Op := [
  ⟨some 4, true, .mov (.c (.int .i64 0)), none⟩]
def r115_3 : List Op := [
  ⟨some 5, false, .mov (.g 4), none⟩,
  ⟨some 6, false, .mov (.g 0), none⟩,
  ⟨some 7, false, .len false (.l 1), none⟩,
  ⟨some 8, true, .bin .lss (.l 0) (.l 2), none⟩]
def r115_4 : List Op := [
  ⟨some 11, false, .mov (.g 0), none⟩,
  ⟨some 12, false, .mov (.g 4), none⟩,
  ⟨some 13, false, .iad 5 (.l 0) (.l 1), none⟩,
  ⟨some 14, false, .fad (.l 2) 1, none⟩,
  ⟨some 15, false, .load (.c) none (.l 3), none⟩,
  ⟨some 16, true, .bin .gtr (.l 4) (.c (.int .i64 1)), none⟩]
def r115_5 : List Op := [
  ⟨some 17, false, .mov (.g 3), none⟩,
  ⟨some 18, false, .mov (.g 0), none⟩,
  ⟨some 19, false, .mov (.g 4), none⟩,
  ⟨some 20, false, .iad 5 (.l 1) (.l 2), none⟩,
  ⟨some 21, false, .fad (.l 3) 0, none⟩,
  ⟨some 22, false, .load (.c) none (.l 4), none⟩,
  ⟨some 23, false, .mov (.g 0), none⟩,
  ⟨some 24, false, .mov (.g 4), none⟩,
  ⟨some 25, false, .iad 5 (.l 6) (.l 7), none⟩,
  ⟨some 26, false, .fad (.l 8) 1, none⟩,
  ⟨some 27, false, .load (.c) none (.l 9), none⟩,
  ⟨some 28, false, .bin .sub (.l 10) (.c (.int .i64 1)), none⟩,
  ⟨some 29, false, .mov (.g 0), none⟩,
  ⟨some 30, false, .mov (.g 4), none⟩,
  ⟨some 31, false, .iad 5 (.l 12) (.l 13), none⟩,
  ⟨some 32, false, .fad (.l 14) 2, none⟩,
  ⟨some 33, false, .load (.c) (some 3) (.l 15), none⟩,
  ⟨some 34, false, .build [.int .i64 0, .int .i64 0, .int .i64 0, .int .i64 0, .int .i64 0] [(0, 1, .l 5), (1, 1, .l 11), (2, 3, .l 16)], none⟩,
  ⟨some 35, false, .mks 5 1 [.int .i64 0, .int .i64 0, .int .i64 0, .int .i64 0, .int .i64 0] [(0, .l 17)], none⟩,
  ⟨some 36, false, .app 3 5 (.l 0) (.l 18), none⟩,
  ⟨some 3, true, .mov (.l 19), none⟩]
def r115_6 : List Op := [
  ⟨some 9, false, .mov (.g 4), none⟩,
  ⟨some 10, false, .bin .add (.l 0) (.c (.int .i64 1)), none⟩,
  ⟨some 4, true, .mov (.l 1), none⟩]
def b115_0 : C := .seq (.seq (.region false r115_3) (.cond (.g 8) (.skip) (.exit 0))) (.seq (.block 1 (.seq (.region false r115_4) (.cond (.g 16) (.region true r115_5) (.skip)))) (.region false r115_6))
def l115_0 : C := .loop [] [] [] [] b115_0
def r115_7 : List Op := [
  ⟨some 37, false, .mov (.g 3), none⟩,
  ⟨some 2, true, .mov (.l 0), none⟩]
def c115 : C := .seq (.region false r115_0) (.seq (.region false r115_1) (.seq (.seq (.region false r115_2) (.block 0 (l115_0))) (.seq (.region false r115_7) (.ret))))
/-- stratigraph.stratigraphref16.Tick -/
def F115 : F := ⟨1, [0, 2, 3, 4, 8, 16], [.t 2], none, c115⟩
attribute [go_sem] r115_0 r115_1 r115_2 r115_3 r115_4 r115_5 r115_6 b115_0 r115_7 c115 F115
def r116_0 : List Op := [
  ⟨some 4, true, .mov (.c (.bool false)), none⟩]
def r116_1 : List Op := [
  ⟨some 6, false, .mov (.g 0), none⟩,
  ⟨some 7, false, .len false (.l 0), none⟩,
  ⟨some 8, false, .mov (.g 1), none⟩,
  ⟨some 9, false, .len false (.l 2), none⟩,
  ⟨some 10, true, .bin .neq (.l 1) (.l 3), none⟩]
def r116_2 : List Op := [
  ⟨some 4, true, .mov (.c (.bool false)), none⟩]
def r116_3 : List Op := [
  ⟨some 5, true, .mov (.c (.int .i64 0)), none⟩]
def r116_4 : List Op := [
  ⟨some 11, false, .mov (.g 5), none⟩,
  ⟨some 12, false, .mov (.g 0), none⟩,
  ⟨some 13, false, .len false (.l 1), none⟩,
  ⟨some 14, true, .bin .lss (.l 0) (.l 2), none⟩]
def r116_5 : List Op := [
  ⟨some 17, false, .mov (.g 0), none⟩,
  ⟨some 18, false, .mov (.g 5), none⟩,
  ⟨some 19, false, .iad 5 (.l 0) (.l 1), none⟩,
  ⟨some 20, false, .load (.c) (some 5) (.l 2), none⟩,
  ⟨some 21, false, .mov (.g 1), none⟩,
  ⟨some 22, false, .mov (.g 5), none⟩,
  ⟨some 23, false, .iad 5 (.l 4) (.l 5), none⟩,
  ⟨some 24, false, .load (.c) (some 5) (.l 6), none⟩,
  ⟨some 25, true, .eqa true [.i, .i, .i, .i, .i] (.l 3) (.l 7), none⟩]
def r116_6 : List Op := [
  ⟨some 4, true, .mov (.c (.bool false)), none⟩]
def r116_7 : List Op := [
  ⟨some 15, false, .mov (.g 5), none⟩,
  ⟨some 16, false, .bin .add (.l 0) (.c (.int .i64 1)), none⟩,
  ⟨some 5, true, .mov (.l 1), none⟩]
def b116_0 : C := .seq (.seq (.region false r116_4) (.cond (.g 14) (.skip) (.exit 0))) (.seq (.block 1 (.seq (.region true r116_5) (.cond (.g 25) (.seq (.region false r116_6) (.ret)) (.skip)))) (.region false r116_7))
def l116_0 : C := .loop [] [] [] [] b116_0
def r116_8 : List Op := [
  ⟨some 4, true, .mov (.c (.bool true)), none⟩]
def c116 : C := .seq (.region false r116_0) (.seq (.seq (.region false r116_1) (.cond (.g 10) (.seq (.region false r116_2) (.ret)) (.skip))) (.seq (.seq (.region false r116_3) (.block 0 (l116_0))) (.seq (.region false r116_8) (.ret))))
/-- stratigraph.stratigraphref16.Equal -/
def F116 : F := ⟨2, [0, 1, 4, 5, 10, 14, 25], [.t 4], none, c116⟩
attribute [go_sem] r116_0 r116_1 r116_2 r116_3 r116_4 r116_5 r116_6 r116_7 b116_0 r116_8 c116 F116
def r118_0 : List Op := [
  ⟨some 4, true, .alloc [.int .i64 0, .int .i64 0, .int .i64 0, .int .i64 0, .int .i64 0], none⟩,
  ⟨some 5, true, .mov (.c (.bool false)), none⟩]
def r118_1 : List Op := [
  ⟨some 8, false, .mov (.g 0), none⟩,
  ⟨some 9, false, .call (.k 126) .no none [.l 0], none⟩,
  ⟨some 10, true, .un .not (.l 1), none⟩]
def r118_2 : List Op := [
  ⟨some 11, false, .build [.int .i64 0, .int .i64 0, .int .i64 0, .int .i64 0, .int .i64 0] [], none⟩,
  ⟨none, false, .store (.v 4) 5 (.g 4) (.l 0), none⟩,
  ⟨some 5, true, .mov (.c (.bool false)), none⟩]
def r118_3 : List Op := [
  ⟨some 13, false, .mov (.g 0), none⟩,
  ⟨some 14, false, .mov (.g 1), none⟩,
  ⟨some 15, false, .call (.k 133) .no none [.l 0, .l 1], none⟩,
  ⟨some 12, false, .mov (.l 2), none⟩,
  ⟨some 16, false, .ext (.l 3) 0, none⟩,
  ⟨some 17, false, .ext (.l 3) 1, none⟩,
  ⟨some 6, true, .mov (.l 4), none⟩,
  ⟨some 7, true, .mov (.l 5), none⟩]
def r118_4 : List Op := [
  ⟨some 18, false, .mov (.g 7), none⟩,
  ⟨some 19, true, .un .not (.l 0), none⟩]
def r118_5 : List Op := [
  ⟨some 20, false, .build [.int .i64 0, .int .i64 0, .int .i64 0, .int .i64 0, .int .i64 0] [], none⟩,
  ⟨none, false, .store (.v 4) 5 (.g 4) (.l 0), none⟩,
  ⟨some 5, true, .mov (.c (.bool false)), none⟩]
def r118_6 : List Op := [
  ⟨some 21, false, .mov (.g 0), none⟩,
  ⟨some 22, false, .mov (.g 6), none⟩,
  ⟨some 23, false, .iad 5 (.l 0) (.l 1), none⟩,
  ⟨some 24, false, .load (.c) (some 5) (.l 2), none⟩,
  ⟨none, false, .store (.v 4) 5 (.g 4) (.l 3), none⟩,
  ⟨some 5, true, .mov (.c (.bool true)), none⟩]
def c118 : C := .seq (.region false r118_0) (.seq (.seq (.region false r118_1) (.cond (.g 10) (.seq (.region false r118_2) (.ret)) (.skip))) (.seq (.region false r118_3) (.seq (.seq (.region false r118_4) (.cond (.g 19) (.seq (.region false r118_5) (.ret)) (.skip))) (.seq (.region false r118_6) (.ret)))))
/-- stratigraph.lease.Find -/
def F118 : F := ⟨2, [0, 1, 4, 5, 6, 7, 10, 19], [.cell 4 (some 5), .t 5], none, c118⟩
attribute [go_sem] r118_0 r118_1 r118_2 r118_3 r118_4 r118_5 r118_6 c118 F118
def r120_0 : List Op := [
  ⟨some 5, true, .box (.g 2), none⟩,
  ⟨some 6, true, .mov (.c (.slice 5 [])), none⟩,
  ⟨some 7, true, .mov (.c (.int .i64 0)), none⟩]
def r120_1 : List Op := [
  ⟨some 11, false, .mov (.g 1), none⟩,
  ⟨some 12, false, .load (.v 5) (some 3) (.g 5), none⟩,
  ⟨some 13, false, .build [.int .i64 0, .int .i64 0, .int .i64 0, .int .i64 0, .int .i64 0] [(0, 1, .l 0), (1, 1, .c (.int .i64 20)), (2, 3, .l 1)], none⟩,
  ⟨some 8, true, .alloc [.int .i64 0, .int .i64 0, .int .i64 0, .int .i64 0, .int .i64 0], none⟩,
  ⟨none, false, .store (.v 8) 5 (.l 3) (.l 2), none⟩]
def r120_2 : List Op := [
  ⟨some 14, false, .mov (.g 0), none⟩,
  ⟨some 15, false, .call (.k 126) .no none [.l 0], none⟩,
  ⟨some 16, false, .un .not (.l 1), none⟩,
  ⟨some 17, false, .mov (.l 2), none⟩,
  ⟨some 18, false, .load (.v 8) (some 5) (.g 8), (some (3, false))⟩,
  ⟨some 19, false, .mks 5 1 [.int .i64 0, .int .i64 0, .int .i64 0, .int .i64 0, .int .i64 0] [(0, .l 4)], (some (3, false))⟩,
  ⟨some 20, false, .call (.k 126) .no none [.l 5], (some (3, false))⟩,
  ⟨some 21, false, .un .not (.l 6), (some (3, false))⟩,
  ⟨some 22, true, .pick (.l 3) (.c (.bool true)) (.l 7), none⟩]
def r120_3 : List Op := [
  ⟨some 6, true, .mov (.c (.slice 5 [])), none⟩,
  ⟨some 7, true, .mov (.c (.int .i64 1)), none⟩]
def r120_4 : List Op := [
  ⟨some 24, false, .mov (.g 0), none⟩,
  ⟨some 25, false, .mov (.g 1), none⟩,
  ⟨some 26, false, .call (.k 133) .no none [.l 0, .l 1], none⟩,
  ⟨some 23, false, .mov (.l 2), none⟩,
  ⟨some 27, false, .ext (.l 3) 0, none⟩,
  ⟨some 28, false, .ext (.l 3) 1, none⟩,
  ⟨some 9, true, .mov (.l 4), none⟩,
  ⟨some 10, true, .mov (.l 5), none⟩]
def r120_5 : List Op := [
  ⟨some 30, false, .mov (.g 10), none⟩,
  ⟨some 29, true, .mov (.l 0), none⟩]
def r120_6 : List Op := [
  ⟨some 6, true, .mov (.c (.slice 5 [])), none⟩,
  ⟨some 7, true, .mov (.c (.int .i64 8)), none⟩]
def r120_7 : List Op := [
  ⟨some 32, false, .mov (.g 0), none⟩,
  ⟨some 33, false, .len false (.l 0), none⟩,
  ⟨some 34, false, .bin .eql (.l 1) (.c (.int .i64 4)), none⟩,
  ⟨some 31, true, .mov (.l 2), none⟩]
def r120_8 : List Op := [
  ⟨some 6, true, .mov (.c (.slice 5 [])), none⟩,
  ⟨some 7, true, .mov (.c (.int .i64 6)), none⟩]
def r120_9 : List Op := [
  ⟨some 35, false, .mov (.g 0), none⟩,
  ⟨some 36, false, .call (.k 134) .no (some 0) [.l 0], none⟩,
  ⟨some 37, false, .mov (.g 9), none⟩,
  ⟨some 38, false, .load (.v 8) (some 5) (.g 8), none⟩,
  ⟨some 39, false, .mks 5 1 [.int .i64 0, .int .i64 0, .int .i64 0, .int .i64 0, .int .i64 0] [(0, .l 3)], none⟩,
  ⟨some 40, false, .ins 135 36 5 (.l 1) (.l 2) (.l 4), none⟩,
  ⟨some 6, true, .mov (.l 5), none⟩,
  ⟨some 7, true, .mov (.c (.int .i64 0)), none⟩]
def c120 : C := .seq (.region false r120_0) (.seq (.region false r120_1) (.seq (.seq (.region false r120_2) (.cond (.g 22) (.seq (.region false r120_3) (.ret)) (.skip))) (.seq (.region false r120_4) (.seq (.block 0 (.seq (.region false r120_5) (.cond (.g 29) (.seq (.region false r120_6) (.ret)) (.seq (.region false r120_7) (.cond (.g 31) (.seq (.region false r120_8) (.ret)) (.skip)))))) (.seq (.region true r120_9) (.ret))))))
/-- stratigraph.lease.Open -/
def F120 : F := ⟨3, [0, 1, 2, 5, 6, 7, 8, 9, 10, 22, 29, 31], [.t 6, .t 7], none, c120⟩
attribute [go_sem] r120_0 r120_1 r120_2 r120_3 r120_4 r120_5 r120_6 r120_7 r120_8 r120_9 c120 F120
def r121_0 : List Op := [
  ⟨some 4, true, .mov (.c (.slice 5 [])), none⟩,
  ⟨some 5, true, .mov (.c (.int .i64 0)), none⟩]
def r121_1 : List Op := [
  ⟨some 8, false, .mov (.g 0), none⟩,
  ⟨some 9, false, .call (.k 126) .no none [.l 0], none⟩,
  ⟨some 10, true, .un .not (.l 1), none⟩]
def r121_2 : List Op := [
  ⟨some 4, true, .mov (.c (.slice 5 [])), none⟩,
  ⟨some 5, true, .mov (.c (.int .i64 1)), none⟩]
def r121_3 : List Op := [
  ⟨some 12, false, .mov (.g 0), none⟩,
  ⟨some 13, false, .mov (.g 1), none⟩,
  ⟨some 14, false, .call (.k 133) .no none [.l 0, .l 1], none⟩,
  ⟨some 11, false, .mov (.l 2), none⟩,
  ⟨some 15, false, .ext (.l 3) 0, none⟩,
  ⟨some 16, false, .ext (.l 3) 1, none⟩,
  ⟨some 6, true, .mov (.l 4), none⟩,
  ⟨some 7, true, .mov (.l 5), none⟩]
def r121_4 : List Op := [
  ⟨some 17, false, .mov (.g 7), none⟩,
  ⟨some 18, true, .un .not (.l 0), none⟩]
def r121_5 : List Op := [
  ⟨some 4, true, .mov (.c (.slice 5 [])), none⟩,
  ⟨some 5, true, .mov (.c (.int .i64 7)), none⟩]
def r121_6 : List Op := [
  ⟨some 19, false, .mov (.g 0), none⟩,
  ⟨some 20, false, .call (.k 134) .no (some 0) [.l 0], none⟩,
  ⟨some 21, false, .mov (.g 6), none⟩,
  ⟨some 22, false, .mov (.g 6), none⟩,
  ⟨some 23, false, .bin .add (.l 3) (.c (.int .i64 1)), none⟩,
  ⟨some 24, false, .del 136 20 5 (.l 1) (.l 2) (.l 4), none⟩,
  ⟨some 4, true, .mov (.l 5), none⟩,
  ⟨some 5, true, .mov (.c (.int .i64 0)), none⟩]
def c121 : C := .seq (.region false r121_0) (.seq (.seq (.region false r121_1) (.cond (.g 10) (.seq (.region false r121_2) (.ret)) (.skip))) (.seq (.region false r121_3) (.seq (.seq (.region false r121_4) (.cond (.g 18) (.seq (.region false r121_5) (.ret)) (.skip))) (.seq (.region false r121_6) (.ret)))))
/-- stratigraph.lease.Close -/
def F121 : F := ⟨2, [0, 1, 4, 5, 6, 7, 10, 18], [.t 4, .t 5], none, c121⟩
attribute [go_sem] r121_0 r121_1 r121_2 r121_3 r121_4 r121_5 r121_6 c121 F121
def r123_0 : List Op := [
  ⟨some 5, true, .box (.g 2), none⟩,
  ⟨some 6, true, .mov (.c (.slice 5 [])), none⟩,
  ⟨some 7, true, .mov (.c (.int .i64 0)), none⟩]
def r123_1 : List Op := [
  ⟨some 12, false, .mov (.g 1), none⟩,
  ⟨some 13, false, .load (.v 5) (some 3) (.g 5), none⟩,
  ⟨some 14, false, .build [.int .i64 0, .int .i64 0, .int .i64 0, .int .i64 0, .int .i64 0] [(0, 1, .l 0), (1, 1, .c (.int .i64 20)), (2, 3, .l 1)], none⟩,
  ⟨some 8, true, .alloc [.int .i64 0, .int .i64 0, .int .i64 0, .int .i64 0, .int .i64 0], none⟩,
  ⟨none, false, .store (.v 8) 5 (.l 3) (.l 2), none⟩]
def r123_2 : List Op := [
  ⟨some 15, false, .mov (.g 0), none⟩,
  ⟨some 16, false, .call (.k 114) .no none [.l 0], none⟩,
  ⟨some 17, false, .un .not (.l 1), none⟩,
  ⟨some 18, false, .mov (.l 2), none⟩,
  ⟨some 19, false, .load (.v 8) (some 5) (.g 8), (some (3, false))⟩,
  ⟨some 20, false, .mks 5 1 [.int .i64 0, .int .i64 0, .int .i64 0, .int .i64 0, .int .i64 0] [(0, .l 4)], (some (3, false))⟩,
  ⟨some 21, false, .call (.k 114) .no none [.l 5], (some (3, false))⟩,
  ⟨some 22, false, .un .not (.l 6), (some (3, false))⟩,
  ⟨some 23, true, .pick (.l 3) (.c (.bool true)) (.l 7), none⟩]
def r123_3 : List Op := [
  ⟨some 6, true, .mov (.c (.slice 5 [])), none⟩,
  ⟨some 7, true, .mov (.c (.int .i64 1)), none⟩]
def r123_4 : List Op := [
  ⟨some 24, false, .mov (.g 0), none⟩,
  ⟨some 25, false, .mov (.g 1), none⟩,
  ⟨some 26, true, .call (.k 125) .no none [.l 0, .l 1], none⟩]
def r123_5 : List Op := [
  ⟨some 6, true, .mov (.c (.slice 5 [])), none⟩,
  ⟨some 7, true, .mov (.c (.int .i64 8)), none⟩]
def r123_6 : List Op := [
  ⟨some 27, false, .mov (.g 0), none⟩,
  ⟨some 28, false, .len false (.l 0), none⟩,
  ⟨some 29, true, .bin .gtr (.l 1) (.c (.int .i64 3)), none⟩]
def r123_7 : List Op := [
  ⟨some 6, true, .mov (.c (.slice 5 [])), none⟩,
  ⟨some 7, true, .mov (.c (.int .i64 6)), none⟩]
def r123_8 : List Op := [
  ⟨some 9, true, .mko 5, none⟩]
def r123_9 : List Op := [
  ⟨some 10, true, .mov (.c (.int .i64 0)), none⟩]
def r123_10 : List Op := [
  ⟨some 30, false, .mov (.g 10), none⟩,
  ⟨some 31, false, .mov (.g 0), none⟩,
  ⟨some 32, false, .len false (.l 1), none⟩,
  ⟨some 33, true, .bin .lss (.l 0) (.l 2), none⟩]
def r123_11 : List Op := [
  ⟨some 36, false, .mov (.g 0), none⟩,
  ⟨some 37, false, .mov (.g 10), none⟩,
  ⟨some 38, false, .iad 5 (.l 0) (.l 1), none⟩,
  ⟨some 39, false, .fad (.l 2) 0, none⟩,
  ⟨some 40, false, .load (.c) none (.l 3), none⟩,
  ⟨some 41, false, .mov (.g 1), none⟩,
  ⟨some 42, true, .bin .lss (.l 4) (.l 5), none⟩]
def r123_12 : List Op := [
  ⟨some 43, false, .mov (.g 9), none⟩,
  ⟨some 44, false, .mov (.g 0), none⟩,
  ⟨some 45, false, .mov (.g 10), none⟩,
  ⟨some 46, false, .iad 5 (.l 1) (.l 2), none⟩,
  ⟨some 47, false, .load (.c) (some 5) (.l 3), none⟩,
  ⟨some 48, false, .mks 5 1 [.int .i64 0, .int .i64 0, .int .i64 0, .int .i64 0, .int .i64 0] [(0, .l 4)], none⟩,
  ⟨some 49, false, .app 9 5 (.l 0) (.l 5), none⟩,
  ⟨some 9, true, .mov (.l 6), none⟩]
def r123_13 : List Op := [
  ⟨some 34, false, .mov (.g 10), none⟩,
  ⟨some 35, false, .bin .add (.l 0) (.c (.int .i64 1)), none⟩,
  ⟨some 10, true, .mov (.l 1), none⟩]
def b123_0 : C := .seq (.seq (.region false r123_10) (.cond (.g 33) (.skip) (.exit 0))) (.seq (.block 1 (.seq (.region false r123_11) (.cond (.g 42) (.region false r123_12) (.skip)))) (.region false r123_13))
def l123_0 : C := .loop [] [] [] [] b123_0
def r123_14 : List Op := [
  ⟨some 50, false, .mov (.g 9), none⟩,
  ⟨some 51, false, .load (.v 8) (some 5) (.g 8), none⟩,
  ⟨some 52, false, .mks 5 1 [.int .i64 0, .int .i64 0, .int .i64 0, .int .i64 0, .int .i64 0] [(0, .l 1)], none⟩,
  ⟨some 53, false, .app 9 5 (.l 0) (.l 2), none⟩,
  ⟨some 9, true, .mov (.l 3), none⟩]
def r123_15 : List Op := [
  ⟨some 11, true, .mov (.c (.int .i64 0)), none⟩]
def r123_16 : List Op := [
  ⟨some 54, false, .mov (.g 11), none⟩,
  ⟨some 55, false, .mov (.g 0), none⟩,
  ⟨some 56, false, .len false (.l 1), none⟩,
  ⟨some 57, true, .bin .lss (.l 0) (.l 2), none⟩]
def r123_17 : List Op := [
  ⟨some 60, false, .mov (.g 0), none⟩,
  ⟨some 61, false, .mov (.g 11), none⟩,
  ⟨some 62, false, .iad 5 (.l 0) (.l 1), none⟩,
  ⟨some 63, false, .fad (.l 2) 0, none⟩,
  ⟨some 64, false, .load (.c) none (.l 3), none⟩,
  ⟨some 65, false, .mov (.g 1), none⟩,
  ⟨some 66, true, .bin .gtr (.l 4) (.l 5), none⟩]
def r123_18 : List Op := [
  ⟨some 67, false, .mov (.g 9), none⟩,
  ⟨some 68, false, .mov (.g 0), none⟩,
  ⟨some 69, false, .mov (.g 11), none⟩,
  ⟨some 70, false, .iad 5 (.l 1) (.l 2), none⟩,
  ⟨some 71, false, .load (.c) (some 5) (.l 3), none⟩,
  ⟨some 72, false, .mks 5 1 [.int .i64 0, .int .i64 0, .int .i64 0, .int .i64 0, .int .i64 0] [(0, .l 4)], none⟩,
  ⟨some 73, false, .app 9 5 (.l 0) (.l 5), none⟩,
  ⟨some 9, true, .mov (.l 6), none⟩]
def r123_19 : List Op := [
  ⟨some 58, false, .mov (.g 11), none⟩,
  ⟨some 59, false, .bin .add (.l 0) (.c (.int .i64 1)), none⟩,
  ⟨some 11, true, .mov (.l 1), none⟩]
def b123_1 : C := .seq (.seq (.region false r123_16) (.cond (.g 57) (.skip) (.exit 2))) (.seq (.block 3 (.seq (.region false r123_17) (.cond (.g 66) (.region false r123_18) (.skip)))) (.region false r123_19))
def l123_1 : C := .loop [] [] [] [] b123_1
def r123_20 : List Op := [
  ⟨some 74, false, .mov (.g 9), none⟩,
  ⟨some 6, true, .mov (.l 0), none⟩,
  ⟨some 7, true, .mov (.c (.int .i64 0)), none⟩]
def c123 : C := .seq (.region false r123_0) (.seq (.region false r123_1) (.seq (.seq (.region false r123_2) (.cond (.g 23) (.seq (.region false r123_3) (.ret)) (.skip))) (.seq (.seq (.region false r123_4) (.cond (.g 26) (.seq (.region false r123_5) (.ret)) (.skip))) (.seq (.seq (.region false r123_6) (.cond (.g 29) (.seq (.region false r123_7) (.ret)) (.skip))) (.seq (.region false r123_8) (.seq (.seq (.region false r123_9) (.block 0 (l123_0))) (.seq (.region false r123_14) (.seq (.seq (.region false r123_15) (.block 2 (l123_1))) (.seq (.region false r123_20) (.ret))))))))))
/-- stratigraph.stratigraphref16.Open -/
def F123 : F := ⟨3, [0, 1, 2, 5, 6, 7, 8, 9, 10, 11, 23, 26, 29, 33, 42, 57, 66], [.t 6, .t 7], none, c123⟩
attribute [go_sem] r123_0 r123_1 r123_2 r123_3 r123_4 r123_5 r123_6 r123_7 r123_8 r123_9 r123_10 r123_11 r123_12 r123_13 b123_0 r123_14 r123_15 r123_16 r123_17 r123_18 r123_19 b123_1 r123_20 c123 F123
def r124_0 : List Op := [
  ⟨some 4, true, .mov (.c (.slice 5 [])), none⟩,
  ⟨some 5, true, .mov (.c (.int .i64 0)), none⟩]
def r124_1 : List Op := [
  ⟨some 8, false, .mov (.g 0), none⟩,
  ⟨some 9, false, .call (.k 114) .no none [.l 0], none⟩,
  ⟨some 10, true, .un .not (.l 1), none⟩]
def r124_2 : List Op := [
  ⟨some 4, true, .mov (.c (.slice 5 [])), none⟩,
  ⟨some 5, true, .mov (.c (.int .i64 1)), none⟩]
def r124_3 : List Op := [
  ⟨some 11, false, .mov (.g 0), none⟩,
  ⟨some 12, false, .mov (.g 1), none⟩,
  ⟨some 13, false, .call (.k 125) .no none [.l 0, .l 1], none⟩,
  ⟨some 14, true, .un .not (.l 2), none⟩]
def r124_4 : List Op := [
  ⟨some 4, true, .mov (.c (.slice 5 [])), none⟩,
  ⟨some 5, true, .mov (.c (.int .i64 7)), none⟩]
def r124_5 : List Op := [
  ⟨some 6, true, .mko 5, none⟩]
def r124_6 : List Op := [
  ⟨some 7, true, .mov (.c (.int .i64 0)), none⟩]
def r124_7 : List Op := [
  ⟨some 15, false, .mov (.g 7), none⟩,
  ⟨some 16, false, .mov (.g 0), none⟩,
  ⟨some 17, false, .len false (.l 1), none⟩,
  ⟨some 18, true, .bin .lss (.l 0) (.l 2), none⟩]
def r124_8 : List Op := [
  ⟨some 21, false, .mov (.g 0), none⟩,
  ⟨some 22, false, .mov (.g 7), none⟩,
  ⟨some 23, false, .iad 5 (.l 0) (.l 1), none⟩,
  ⟨some 24, false, .fad (.l 2) 0, none⟩,
  ⟨some 25, false, .load (.c) none (.l 3), none⟩,
  ⟨some 26, false, .mov (.g 1), none⟩,
  ⟨some 27, true, .bin .neq (.l 4) (.l 5), none⟩]
def r124_9 : List Op := [
  ⟨some 28, false, .mov (.g 6), none⟩,
  ⟨some 29, false, .mov (.g 0), none⟩,
  ⟨some 30, false, .mov (.g 7), none⟩,
  ⟨some 31, false, .iad 5 (.l 1) (.l 2), none⟩,
  ⟨some 32, false, .load (.c) (some 5) (.l 3), none⟩,
  ⟨some 33, false, .mks 5 1 [.int .i64 0, .int .i64 0, .int .i64 0, .int .i64 0, .int .i64 0] [(0, .l 4)], none⟩,
  ⟨some 34, false, .app 6 5 (.l 0) (.l 5), none⟩,
  ⟨some 6, true, .mov (.l 6), none⟩]
def r124_10 : List Op := [
  ⟨some 19, false, .mov (.g 7), none⟩,
  ⟨some 20, false, .bin .add (.l 0) (.c (.int .i64 1)), none⟩,
  ⟨some 7, true, .mov (.l 1), none⟩]
def b124_0 : C := .seq (.seq (.region false r124_7) (.cond (.g 18) (.skip) (.exit 0))) (.seq (.block 1 (.seq (.region false r124_8) (.cond (.g 27) (.region false r124_9) (.skip)))) (.region false r124_10))
def l124_0 : C := .loop [] [] [] [] b124_0
def r124_11 : List Op := [
  ⟨some 35, false, .mov (.g 6), none⟩,
  ⟨some 4, true, .mov (.l 0), none⟩,
  ⟨some 5, true, .mov (.c (.int .i64 0)), none⟩]
def c124 : C := .seq (.region false r124_0) (.seq (.seq (.region false r124_1) (.cond (.g 10) (.seq (.region false r124_2) (.ret)) (.skip))) (.seq (.seq (.region false r124_3) (.cond (.g 14) (.seq (.region false r124_4) (.ret)) (.skip))) (.seq (.region false r124_5) (.seq (.seq (.region false r124_6) (.block 0 (l124_0))) (.seq (.region false r124_11) (.ret))))))
/-- stratigraph.stratigraphref16.Close -/
def F124 : F := ⟨2, [0, 1, 4, 5, 6, 7, 10, 14, 18, 27], [.t 4, .t 5], none, c124⟩
attribute [go_sem] r124_0 r124_1 r124_2 r124_3 r124_4 r124_5 r124_6 r124_7 r124_8 r124_9 r124_10 b124_0 r124_11 c124 F124
def r125_0 : List Op := [
  ⟨some 4, true, .mov (.c (.bool false)), none⟩]
def r125_1 : List Op := [
  ⟨some 5, true, .mov (.c (.int .i64 0)), none⟩]
def r125_2 : List Op := [
  ⟨some 6, false, .mov (.g 5), none⟩,
  ⟨some 7, false, .mov (.g 0), none⟩,
  ⟨some 8, false, .len false (.l 1), none⟩,
  ⟨some 9, true, .bin .lss (.l 0) (.l 2), none⟩]
def r125_3 : List Op := [
  ⟨some 12, false, .mov (.g 0), none⟩,
  ⟨some 13, false, .mov (.g 5), none⟩,
  ⟨some 14, false, .iad 5 (.l 0) (.l 1), none⟩,
  ⟨some 15, false, .fad (.l 2) 0, none⟩,
  ⟨some 16, false, .load (.c) none (.l 3), none⟩,
  ⟨some 17, false, .mov (.g 1), none⟩,
  ⟨some 18, true, .bin .eql (.l 4) (.l 5), none⟩]
def r125_4 : List Op := [
  ⟨some 4, true, .mov (.c (.bool true)), none⟩]
def r125_5 : List Op := [
  ⟨some 10, false, .mov (.g 5), none⟩,
  ⟨some 11, false, .bin .add (.l 0) (.c (.int .i64 1)), none⟩,
  ⟨some 5, true, .mov (.l 1), none⟩]
def b125_0 : C := .seq (.seq (.region false r125_2) (.cond (.g 9) (.skip) (.exit 0))) (.seq (.block 1 (.seq (.region false r125_3) (.cond (.g 18) (.seq (.region false r125_4) (.ret)) (.skip)))) (.region false r125_5))
def l125_0 : C := .loop [] [] [] [] b125_0
def r125_6 : List Op := [
  ⟨some 4, true, .mov (.c (.bool false)), none⟩]
def c125 : C := .seq (.region false r125_0) (.seq (.seq (.region false r125_1) (.block 0 (l125_0))) (.seq (.region false r125_6) (.ret)))
/-- stratigraph.stratigraphref16.Has -/
def F125 : F := ⟨2, [0, 1, 4, 5, 9, 18], [.t 4], none, c125⟩
attribute [go_sem] r125_0 r125_1 r125_2 r125_3 r125_4 r125_5 b125_0 r125_6 c125 F125
def r126_0 : List Op := [
  ⟨some 2, true, .mov (.c (.bool false)), none⟩]
def r126_1 : List Op := [
  ⟨some 3, true, .mov (.c (.int .i64 0)), none⟩]
def r126_2 : List Op := [
  ⟨some 6, true, .mov (.g 0), none⟩,
  ⟨some 7, true, .len false (.l 0), none⟩,
  ⟨some 8, true, .mov (.c (.int .i64 0)), none⟩]
def r126_3 : List Op := [
  ⟨some 9, true, .bin .lss (.g 8) (.g 7), none⟩]
def r126_4 : List Op := [
  ⟨some 10, false, .iad 5 (.g 6) (.g 8), none⟩,
  ⟨some 11, false, .load (.c) (some 5) (.l 0), none⟩,
  ⟨some 5, true, .alloc [.int .i64 0, .int .i64 0, .int .i64 0, .int .i64 0, .int .i64 0], none⟩,
  ⟨none, false, .store (.v 5) 5 (.l 2) (.l 1), none⟩]
def r126_5 : List Op := [
  ⟨some 12, false, .fad (.g 5) 0, none⟩,
  ⟨some 13, false, .load (.v 5) none (.l 0), none⟩,
  ⟨some 14, false, .mov (.g 3), none⟩,
  ⟨some 15, false, .bin .leq (.l 1) (.l 2), none⟩,
  ⟨some 16, false, .mov (.l 3), none⟩,
  ⟨some 17, false, .fad (.g 5) 0, (some (4, false))⟩,
  ⟨some 18, false, .load (.v 5) none (.l 5), (some (4, false))⟩,
  ⟨some 19, false, .bin .gtr (.l 6) (.c (.int .i64 1099511627776)), (some (4, false))⟩,
  ⟨some 20, false, .pick (.l 4) (.c (.bool true)) (.l 7), none⟩,
  ⟨some 21, false, .mov (.l 8), none⟩,
  ⟨some 22, false, .fad (.g 5) 1, (some (9, false))⟩,
  ⟨some 23, false, .load (.v 5) none (.l 10), (some (9, false))⟩,
  ⟨some 24, false, .bin .lss (.l 11) (.c (.int .i64 1)), (some (9, false))⟩,
  ⟨some 25, false, .pick (.l 9) (.c (.bool true)) (.l 12), none⟩,
  ⟨some 26, false, .mov (.l 13), none⟩,
  ⟨some 27, false, .fad (.g 5) 1, (some (14, false))⟩,
  ⟨some 28, false, .load (.v 5) none (.l 15), (some (14, false))⟩,
  ⟨some 29, false, .bin .gtr (.l 16) (.c (.int .i64 20)), (some (14, false))⟩,
  ⟨some 30, false, .pick (.l 14) (.c (.bool true)) (.l 17), none⟩,
  ⟨some 31, false, .mov (.l 18), none⟩,
  ⟨some 32, false, .fad (.g 5) 2, (some (19, false))⟩,
  ⟨some 33, false, .load (.v 5) (some 3) (.l 20), (some (19, false))⟩,
  ⟨some 34, false, .call (.k 28) .no none [.l 21], (some (19, false))⟩,
  ⟨some 35, false, .un .not (.l 22), (some (19, false))⟩,
  ⟨some 36, true, .pick (.l 19) (.c (.bool true)) (.l 23), none⟩]
def r126_6 : List Op := [
  ⟨some 2, true, .mov (.c (.bool false)), none⟩]
def r126_7 : List Op := [
  ⟨some 37, false, .fad (.g 5) 0, none⟩,
  ⟨some 38, false, .load (.v 5) none (.l 0), none⟩,
  ⟨some 3, true, .mov (.l 1), none⟩]
def r126_8 : List Op := [
  ⟨some 39, false, .bin .add (.g 8) (.c (.int .i64 1)), none⟩,
  ⟨some 8, true, .mov (.l 0), none⟩]
def b126_0 : C := .seq (.region false r126_3) (.seq (.cond (.g 9) (.skip) (.exit 0)) (.seq (.block 1 (.seq (.region false r126_4) (.seq (.seq (.region false r126_5) (.cond (.g 36) (.seq (.region false r126_6) (.ret)) (.skip))) (.region false r126_7)))) (.region false r126_8)))
def l126_0 : C := .loop [] [] [5] [] b126_0
def r126_9 : List Op := [
  ⟨some 40, false, .mov (.g 0), none⟩,
  ⟨some 41, false, .len false (.l 0), none⟩,
  ⟨some 42, false, .bin .leq (.l 1) (.c (.int .i64 4)), none⟩,
  ⟨some 2, true, .mov (.l 2), none⟩]
def c126 : C := .seq (.region false r126_0) (.seq (.region false r126_1) (.seq (.seq (.region false r126_2) (.block 0 (l126_0))) (.seq (.region false r126_9) (.ret))))
/-- stratigraph.lease.Right -/
def F126 : F := ⟨1, [0, 2, 3, 5, 6, 7, 8, 9, 36], [.t 2], none, c126⟩
attribute [go_sem] r126_0 r126_1 r126_2 r126_3 r126_4 r126_5 r126_6 r126_7 r126_8 b126_0 r126_9 c126 F126
def r128_0 : List Op := [
  ⟨some 4, true, .mov (.c (.bool false)), none⟩]
def r128_1 : List Op := [
  ⟨some 5, false, .mov (.g 0), none⟩,
  ⟨some 6, false, .mov (.g 1), none⟩,
  ⟨some 7, false, .call (.k 137) .no none [.l 0, .l 1], none⟩,
  ⟨some 8, false, .bin .geq (.l 2) (.c (.int .i64 0)), none⟩,
  ⟨some 4, true, .mov (.l 3), none⟩]
def c128 : C := .seq (.region false r128_0) (.seq (.region false r128_1) (.ret))
/-- slices.ContainsFunc[[]stratigraph.api.Stamp,stratigraph.api.Stamp] -/
def F128 : F := ⟨2, [0, 1, 4], [.t 4], none, c128⟩
attribute [go_sem] r128_0 r128_1 c128 F128
def r129_0 : List Op := [
  ⟨some 1, true, .box (.g 0), none⟩,
  ⟨some 2, true, .mov (.c (.bool false)), none⟩]
def r129_1 : List Op := [
  ⟨some 3, false, .load (.v 1) (some 3) (.g 1), none⟩,
  ⟨some 4, false, .call (.k 28) .no none [.l 0], none⟩,
  ⟨some 5, false, .un .not (.l 1), none⟩,
  ⟨some 2, true, .mov (.l 2), none⟩]
def c129 : C := .seq (.region false r129_0) (.seq (.region false r129_1) (.ret))
/-- stratigraph.lease.Mark fn 1 -/
def F129 : F := ⟨1, [0, 1, 2], [.t 2], none, c129⟩
attribute [go_sem] r129_0 r129_1 c129 F129
def r130_0 : List Op := [
  ⟨some 4, true, .alloc [.int .i64 0, .int .i64 0, .int .i64 0], none⟩]
def r130_1 : List Op := [
  ⟨some 7, false, .mov (.g 0), none⟩,
  ⟨some 8, false, .len false (.l 0), none⟩,
  ⟨some 9, true, .bin .lss (.l 1) (.c (.int .i64 1)), none⟩]
def r130_2 : List Op := [
  ⟨some 10, false, .bad, none⟩,
  ⟨none, false, .bad, none⟩]
def r130_3 : List Op := [
  ⟨some 11, false, .mov (.g 0), none⟩,
  ⟨some 12, false, .iad 3 (.l 0) (.c (.int .i64 0)), none⟩,
  ⟨some 13, false, .load (.c) (some 3) (.l 1), none⟩,
  ⟨some 5, true, .alloc [.int .i64 0, .int .i64 0, .int .i64 0], none⟩,
  ⟨none, false, .store (.v 5) 3 (.l 3) (.l 2), none⟩]
def r130_4 : List Op := [
  ⟨some 6, true, .mov (.c (.int .i64 1)), none⟩]
def r130_5 : List Op := [
  ⟨some 14, false, .mov (.g 6), none⟩,
  ⟨some 15, false, .mov (.g 0), none⟩,
  ⟨some 16, false, .len false (.l 1), none⟩,
  ⟨some 17, true, .bin .lss (.l 0) (.l 2), none⟩]
def r130_6 : List Op := [
  ⟨some 20, false, .mov (.g 1), none⟩,
  ⟨some 21, false, .mov (.g 0), none⟩,
  ⟨some 22, false, .mov (.g 6), none⟩,
  ⟨some 23, false, .iad 3 (.l 1) (.l 2), none⟩,
  ⟨some 24, false, .load (.c) (some 3) (.l 3), none⟩,
  ⟨some 25, false, .load (.v 5) (some 3) (.g 5), none⟩,
  ⟨some 26, false, .call (.v (.l 0)) .no none [.l 4, .l 5], none⟩,
  ⟨some 27, true, .bin .lss (.l 6) (.c (.int .i64 0)), none⟩]
def r130_7 : List Op := [
  ⟨some 28, false, .mov (.g 0), none⟩,
  ⟨some 29, false, .mov (.g 6), none⟩,
  ⟨some 30, false, .iad 3 (.l 0) (.l 1), none⟩,
  ⟨some 31, false, .load (.c) (some 3) (.l 2), none⟩,
  ⟨none, false, .store (.v 5) 3 (.g 5) (.l 3), none⟩]
def r130_8 : List Op := [
  ⟨some 18, false, .mov (.g 6), none⟩,
  ⟨some 19, false, .bin .add (.l 0) (.c (.int .i64 1)), none⟩,
  ⟨some 6, true, .mov (.l 1), none⟩]
def b130_0 : C := .seq (.seq (.region false r130_5) (.cond (.g 17) (.skip) (.exit 0))) (.seq (.block 1 (.seq (.region true r130_6) (.cond (.g 27) (.region false r130_7) (.skip)))) (.region false r130_8))
def l130_0 : C := .loop [] [] [] [] b130_0
def r130_9 : List Op := [
  ⟨some 32, false, .load (.v 5) (some 3) (.g 5), none⟩,
  ⟨none, false, .store (.v 4) 3 (.g 4) (.l 0), none⟩]
def c130 : C := .seq (.region false r130_0) (.seq (.seq (.region false r130_1) (.cond (.g 9) (.region false r130_2) (.skip))) (.seq (.region false r130_3) (.seq (.seq (.region false r130_4) (.block 0 (l130_0))) (.seq (.region false r130_9) (.ret)))))
/-- slices.MinFunc[[]stratigraph.api.Stamp,stratigraph.api.Stamp] -/
def F130 : F := ⟨2, [0, 1, 4, 5, 6, 9, 17, 27], [.cell 4 (some 3)], none, c130⟩
attribute [go_sem] r130_0 r130_1 r130_2 r130_3 r130_4 r130_5 r130_6 r130_7 r130_8 b130_0 r130_9 c130 F130
def r131_0 : List Op := [
  ⟨some 2, true, .box (.g 0), none⟩,
  ⟨some 3, true, .box (.g 1), none⟩,
  ⟨some 4, true, .alloc [.int .i64 0, .int .i64 0, .int .i64 0], none⟩]
def r131_1 : List Op := [
  ⟨some 5, false, .load (.v 2) (some 3) (.g 2), none⟩,
  ⟨some 6, false, .load (.v 3) (some 3) (.g 3), none⟩,
  ⟨some 7, false, .call (.k 15) .no none [.l 0, .l 1], none⟩,
  ⟨some 8, true, .bin .gtr (.l 2) (.c (.int .i64 0)), none⟩]
def r131_2 : List Op := [
  ⟨some 9, false, .load (.v 3) (some 3) (.g 3), none⟩,
  ⟨none, false, .store (.v 4) 3 (.g 4) (.l 0), none⟩]
def r131_3 : List Op := [
  ⟨some 10, false, .load (.v 2) (some 3) (.g 2), none⟩,
  ⟨none, false, .store (.v 4) 3 (.g 4) (.l 0), none⟩]
def c131 : C := .seq (.region false r131_0) (.seq (.seq (.region false r131_1) (.cond (.g 8) (.seq (.region false r131_2) (.ret)) (.skip))) (.seq (.region false r131_3) (.ret)))
/-- stratigraph.stamp.Sooner -/
def F131 : F := ⟨2, [0, 1, 2, 3, 4, 8], [.cell 4 (some 3)], none, c131⟩
attribute [go_sem] r131_0 r131_1 r131_2 r131_3 c131 F131
def r132_0 : List Op := [
  ⟨some 2, true, .box (.g 0), none⟩,
  ⟨some 3, true, .box (.g 1), none⟩,
  ⟨some 4, true, .alloc [.int .i64 0, .int .i64 0, .int .i64 0], none⟩]
def r132_1 : List Op := [
  ⟨some 5, false, .load (.v 3) (some 3) (.g 3), none⟩,
  ⟨some 6, false, .load (.v 2) (some 3) (.g 2), none⟩,
  ⟨some 7, true, .call (.k 6) .no none [.l 0, .l 1], none⟩]
def r132_2 : List Op := [
  ⟨some 8, false, .load (.v 3) (some 3) (.g 3), none⟩,
  ⟨none, false, .store (.v 4) 3 (.g 4) (.l 0), none⟩]
def r132_3 : List Op := [
  ⟨some 9, false, .load (.v 2) (some 3) (.g 2), none⟩,
  ⟨none, false, .store (.v 4) 3 (.g 4) (.l 0), none⟩]
def c132 : C := .seq (.region false r132_0) (.seq (.seq (.region false r132_1) (.cond (.g 7) (.seq (.region false r132_2) (.ret)) (.skip))) (.seq (.region false r132_3) (.ret)))
/-- stratigraph.stratigraphref05.Sooner -/
def F132 : F := ⟨2, [0, 1, 2, 3, 4, 7], [.cell 4 (some 3)], none, c132⟩
attribute [go_sem] r132_0 r132_1 r132_2 r132_3 c132 F132
def r133_0 : List Op := [
  ⟨some 3, true, .box (.g 1), none⟩,
  ⟨some 4, true, .mov (.c (.int .i64 0)), none⟩,
  ⟨some 5, true, .mov (.c (.bool false)), none⟩]
def r133_1 : List Op := [
  ⟨some 7, false, .mov (.g 0), none⟩,
  ⟨some 8, false, .fn 138 [.g 3] [3], none⟩,
  ⟨some 9, false, .call (.k 139) .no none [.l 0, .l 1], none⟩,
  ⟨some 6, true, .mov (.l 2), none⟩]
def r133_2 : List Op := [
  ⟨some 10, false, .mov (.g 6), none⟩,
  ⟨some 11, true, .bin .lss (.l 0) (.c (.int .i64 0)), none⟩]
def r133_3 : List Op := [
  ⟨some 12, false, .mov (.g 0), none⟩,
  ⟨some 13, false, .len false (.l 0), none⟩,
  ⟨some 4, true, .mov (.l 1), none⟩,
  ⟨some 5, true, .mov (.c (.bool false)), none⟩]
def r133_4 : List Op := [
  ⟨some 14, false, .mov (.g 6), none⟩,
  ⟨some 15, false, .mov (.g 0), none⟩,
  ⟨some 16, false, .mov (.g 6), none⟩,
  ⟨some 17, false, .iad 5 (.l 1) (.l 2), none⟩,
  ⟨some 18, false, .fad (.l 3) 0, none⟩,
  ⟨some 19, false, .load (.c) none (.l 4), none⟩,
  ⟨some 20, false, .load (.v 3) none (.g 3), none⟩,
  ⟨some 21, false, .bin .eql (.l 5) (.l 6), none⟩,
  ⟨some 4, true, .mov (.l 0), none⟩,
  ⟨some 5, true, .mov (.l 7), none⟩]
def c133 : C := .seq (.region false r133_0) (.seq (.region false r133_1) (.seq (.seq (.region false r133_2) (.cond (.g 11) (.seq (.region false r133_3) (.ret)) (.skip))) (.seq (.region true r133_4) (.ret))))
/-- stratigraph.lease.find -/
def F133 : F := ⟨2, [0, 1, 3, 4, 5, 6, 11], [.t 4, .t 5], none, c133⟩
attribute [go_sem] r133_0 r133_1 r133_2 r133_3 r133_4 c133 F133
def r137_0 : List Op := [
  ⟨some 4, true, .mov (.c (.int .i64 0)), none⟩]
def r137_1 : List Op := [
  ⟨some 6, false, .mov (.g 0), none⟩,
  ⟨some 7, true, .len false (.l 0), none⟩,
  ⟨some 8, true, .mov (.c (.int .i64 0)), none⟩]
def r137_2 : List Op := [
  ⟨some 9, true, .bin .lss (.g 8) (.g 7), none⟩]
def r137_3 : List Op := [
  ⟨some 10, false, .mov (.g 8), none⟩,
  ⟨some 5, true, .mov (.l 0), none⟩]
def r137_4 : List Op := [
  ⟨some 11, false, .mov (.g 1), none⟩,
  ⟨some 12, false, .mov (.g 0), none⟩,
  ⟨some 13, false, .mov (.g 5), none⟩,
  ⟨some 14, false, .iad 3 (.l 1) (.l 2), none⟩,
  ⟨some 15, false, .load (.c) (some 3) (.l 3), none⟩,
  ⟨some 16, true, .call (.v (.l 0)) .no none [.l 4], none⟩]
def r137_5 : List Op := [
  ⟨some 17, false, .mov (.g 5), none⟩,
  ⟨some 4, true, .mov (.l 0), none⟩]
def r137_6 : List Op := [
  ⟨some 18, false, .bin .add (.g 8) (.c (.int .i64 1)), none⟩,
  ⟨some 8, true, .mov (.l 0), none⟩]
def b137_0 : C := .seq (.region false r137_2) (.seq (.cond (.g 9) (.skip) (.exit 0)) (.seq (.block 1 (.seq (.region false r137_3) (.seq (.region false r137_4) (.cond (.g 16) (.seq (.region false r137_5) (.ret)) (.skip))))) (.region false r137_6)))
def l137_0 : C := .loop [] [] [] [] b137_0
def r137_7 : List Op := [
  ⟨some 4, true, .mov (.c (.int .i64 (-1))), none⟩]
def c137 : C := .seq (.region false r137_0) (.seq (.seq (.region false r137_1) (.block 0 (l137_0))) (.seq (.region false r137_7) (.ret)))
/-- slices.IndexFunc[[]stratigraph.api.Stamp,stratigraph.api.Stamp] -/
def F137 : F := ⟨2, [0, 1, 4, 5, 7, 8, 9, 16], [.t 4], none, c137⟩
attribute [go_sem] r137_0 r137_1 r137_2 r137_3 r137_4 r137_5 r137_6 b137_0 r137_7 c137 F137
def r138_0 : List Op := [
  ⟨some 2, true, .box (.g 0), none⟩,
  ⟨some 3, true, .mov (.c (.bool false)), none⟩]
def r138_1 : List Op := [
  ⟨some 4, false, .fad (.g 2) 0, none⟩,
  ⟨some 5, false, .load (.v 2) none (.l 0), none⟩,
  ⟨some 6, false, .load (.c) none (.g 1), none⟩,
  ⟨some 7, false, .bin .geq (.l 1) (.l 2), none⟩,
  ⟨some 3, true, .mov (.l 3), none⟩]
def c138 : C := .seq (.region false r138_0) (.seq (.region false r138_1) (.ret))
/-- stratigraph.lease.find fn 1 -/
def F138 : F := ⟨2, [0, 1, 2, 3], [.t 3], none, c138⟩
attribute [go_sem] r138_0 r138_1 c138 F138
def r139_0 : List Op := [
  ⟨some 4, true, .mov (.c (.int .i64 0)), none⟩]
def r139_1 : List Op := [
  ⟨some 6, false, .mov (.g 0), none⟩,
  ⟨some 7, true, .len false (.l 0), none⟩,
  ⟨some 8, true, .mov (.c (.int .i64 0)), none⟩]
def r139_2 : List Op := [
  ⟨some 9, true, .bin .lss (.g 8) (.g 7), none⟩]
def r139_3 : List Op := [
  ⟨some 10, false, .mov (.g 8), none⟩,
  ⟨some 5, true, .mov (.l 0), none⟩]
def r139_4 : List Op := [
  ⟨some 11, false, .mov (.g 1), none⟩,
  ⟨some 12, false, .mov (.g 0), none⟩,
  ⟨some 13, false, .mov (.g 5), none⟩,
  ⟨some 14, false, .iad 5 (.l 1) (.l 2), none⟩,
  ⟨some 15, false, .load (.c) (some 5) (.l 3), none⟩,
  ⟨some 16, true, .call (.v (.l 0)) .no none [.l 4], none⟩]
def r139_5 : List Op := [
  ⟨some 17, false, .mov (.g 5), none⟩,
  ⟨some 4, true, .mov (.l 0), none⟩]
def r139_6 : List Op := [
  ⟨some 18, false, .bin .add (.g 8) (.c (.int .i64 1)), none⟩,
  ⟨some 8, true, .mov (.l 0), none⟩]
def b139_0 : C := .seq (.region false r139_2) (.seq (.cond (.g 9) (.skip) (.exit 0)) (.seq (.block 1 (.seq (.region false r139_3) (.seq (.region false r139_4) (.cond (.g 16) (.seq (.region false r139_5) (.ret)) (.skip))))) (.region false r139_6)))
def l139_0 : C := .loop [] [] [] [] b139_0
def r139_7 : List Op := [
  ⟨some 4, true, .mov (.c (.int .i64 (-1))), none⟩]
def c139 : C := .seq (.region false r139_0) (.seq (.seq (.region false r139_1) (.block 0 (l139_0))) (.seq (.region false r139_7) (.ret)))
/-- slices.IndexFunc[[]stratigraph.api.Lease,stratigraph.api.Lease] -/
def F139 : F := ⟨2, [0, 1, 4, 5, 7, 8, 9, 16], [.t 4], none, c139⟩
attribute [go_sem] r139_0 r139_1 r139_2 r139_3 r139_4 r139_5 r139_6 b139_0 r139_7 c139 F139
end Sg
