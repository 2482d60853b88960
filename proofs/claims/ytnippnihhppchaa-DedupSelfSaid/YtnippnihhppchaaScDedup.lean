/- The compact functions, printed by wip/gen/seat.py. -/
import Derived.Test.YtnippnihhppchaaSgRun
import Derived.Test.YtnippnihhppchaaScChain
namespace Sg
open _root_.Go (IntKind BinOp UnOp)

def r77_0 : List Op := [
  ⟨some 6, true, .mov (.c (.bool false)), none⟩]
def r77_1 : List Op := [
  ⟨some 12, false, .mov (.g 0), none⟩,
  ⟨some 13, false, .call (.k 78) .no none [.l 0], none⟩,
  ⟨some 14, true, .un .not (.l 1), none⟩]
def r77_2 : List Op := [
  ⟨some 15, false, .call (.k 79) .no none [], none⟩,
  ⟨some 6, true, .mov (.l 0), none⟩]
def r77_3 : List Op := [
  ⟨some 16, false, .mov (.g 0), none⟩,
  ⟨some 17, false, .call (.k 80) .no none [.l 0], none⟩,
  ⟨some 7, true, .mov (.l 1), none⟩]
def r77_4 : List Op := [
  ⟨some 18, false, .mov (.g 0), none⟩,
  ⟨some 19, false, .call (.k 81) .no none [.l 0], none⟩,
  ⟨some 20, false, .mov (.g 7), none⟩,
  ⟨some 21, false, .eqb true (.l 1) (.l 2), none⟩,
  ⟨some 22, false, .mov (.l 3), none⟩,
  ⟨some 23, false, .mov (.g 0), (some (4, false))⟩,
  ⟨some 24, false, .mov (.g 1), (some (4, false))⟩,
  ⟨some 25, false, .mov (.g 2), (some (4, false))⟩,
  ⟨some 26, false, .call (.k 82) .no none [.l 5, .l 6, .l 7], (some (4, false))⟩,
  ⟨some 27, false, .mov (.g 0), (some (4, false))⟩,
  ⟨some 28, false, .mov (.g 1), (some (4, false))⟩,
  ⟨some 29, false, .mov (.g 2), (some (4, false))⟩,
  ⟨some 30, false, .call (.k 83) .no none [.l 9, .l 10, .l 11], (some (4, false))⟩,
  ⟨some 31, false, .bin .neq (.l 8) (.l 12), (some (4, false))⟩,
  ⟨some 32, true, .pick (.l 4) (.c (.bool true)) (.l 13), none⟩]
def r77_5 : List Op := [
  ⟨some 6, true, .mov (.c (.bool false)), none⟩]
def r77_6 : List Op := [
  ⟨some 34, false, .mov (.g 0), none⟩,
  ⟨some 35, false, .mov (.g 1), none⟩,
  ⟨some 36, false, .call (.k 84) .no none [.l 0, .l 1], none⟩,
  ⟨some 33, false, .mov (.l 2), none⟩,
  ⟨some 37, false, .ext (.l 3) 0, none⟩,
  ⟨some 38, false, .ext (.l 3) 1, none⟩,
  ⟨some 8, true, .alloc [.int .i64 0, .int .i64 0, .int .i64 0, .int .i64 0, .int .i64 0, .int .i64 0, .bool false, .str [], .slice 2 [], .str [], .bool false], none⟩,
  ⟨none, false, .store (.v 8) 11 (.l 6) (.l 4), none⟩,
  ⟨some 9, true, .mov (.l 5), none⟩]
def r77_7 : List Op := [
  ⟨some 40, false, .mov (.g 0), none⟩,
  ⟨some 41, false, .mov (.g 1), none⟩,
  ⟨some 42, false, .call (.k 85) .no none [.l 0, .l 1], none⟩,
  ⟨some 39, false, .mov (.l 2), none⟩,
  ⟨some 43, false, .ext (.l 3) 0, none⟩,
  ⟨some 44, false, .ext (.l 3) 1, none⟩,
  ⟨some 10, true, .alloc [.int .i64 0, .int .i64 0, .int .i64 0, .int .i64 0, .int .i64 0, .int .i64 0, .bool false, .str [], .slice 2 [], .str [], .bool false], none⟩,
  ⟨none, false, .store (.v 10) 11 (.l 6) (.l 4), none⟩,
  ⟨some 11, true, .mov (.l 5), none⟩]
def r77_8 : List Op := [
  ⟨some 45, false, .mov (.g 7), none⟩,
  ⟨some 46, false, .un .not (.l 0), none⟩,
  ⟨some 47, false, .mov (.l 1), none⟩,
  ⟨some 48, false, .mov (.g 11), (some (2, false))⟩,
  ⟨some 49, false, .un .not (.l 3), (some (2, false))⟩,
  ⟨some 50, true, .pick (.l 2) (.c (.bool true)) (.l 4), none⟩]
def r77_9 : List Op := [
  ⟨some 51, false, .mov (.g 9), none⟩,
  ⟨some 52, false, .un .not (.l 0), none⟩,
  ⟨some 53, false, .mov (.l 1), none⟩,
  ⟨some 54, false, .load (.v 8) (some 11) (.g 8), (some (2, true))⟩,
  ⟨some 55, false, .mks 11 1 [.int .i64 0, .int .i64 0, .int .i64 0, .int .i64 0, .int .i64 0, .int .i64 0, .bool false, .str [], .slice 2 [], .str [], .bool false] [(0, .l 3)], (some (2, true))⟩,
  ⟨some 56, false, .build [.int .i64 0, .int .i64 0, .int .i64 0, .int .i64 0, .int .i64 0, .int .i64 0, .bool false, .str [], .slice 2 [], .str [], .bool false] [], (some (2, true))⟩,
  ⟨some 57, false, .mks 11 1 [.int .i64 0, .int .i64 0, .int .i64 0, .int .i64 0, .int .i64 0, .int .i64 0, .bool false, .str [], .slice 2 [], .str [], .bool false] [(0, .l 5)], (some (2, true))⟩,
  ⟨some 58, false, .call (.k 86) .no none [.l 4, .l 6], (some (2, true))⟩,
  ⟨some 59, false, .pick (.l 2) (.l 7) (.c (.bool false)), none⟩,
  ⟨some 60, false, .mov (.l 8), none⟩,
  ⟨some 61, false, .call (.k 79) .no none [], (some (9, true))⟩,
  ⟨some 62, false, .pick (.l 9) (.l 10) (.c (.bool false)), none⟩,
  ⟨some 6, true, .mov (.l 11), none⟩]
def r77_10 : List Op := [
  ⟨some 63, false, .mov (.g 9), none⟩,
  ⟨some 64, false, .mov (.l 0), none⟩,
  ⟨some 65, false, .load (.v 8) (some 11) (.g 8), (some (1, true))⟩,
  ⟨some 66, false, .mks 11 1 [.int .i64 0, .int .i64 0, .int .i64 0, .int .i64 0, .int .i64 0, .int .i64 0, .bool false, .str [], .slice 2 [], .str [], .bool false] [(0, .l 2)], (some (1, true))⟩,
  ⟨some 67, false, .load (.v 10) (some 11) (.g 10), (some (1, true))⟩,
  ⟨some 68, false, .mks 11 1 [.int .i64 0, .int .i64 0, .int .i64 0, .int .i64 0, .int .i64 0, .int .i64 0, .bool false, .str [], .slice 2 [], .str [], .bool false] [(0, .l 4)], (some (1, true))⟩,
  ⟨some 69, false, .call (.k 86) .no none [.l 3, .l 5], (some (1, true))⟩,
  ⟨some 70, false, .pick (.l 1) (.l 6) (.c (.bool false)), none⟩,
  ⟨some 71, false, .mov (.l 7), none⟩,
  ⟨some 72, false, .call (.k 79) .no none [], (some (8, true))⟩,
  ⟨some 73, false, .pick (.l 8) (.l 9) (.c (.bool false)), none⟩,
  ⟨some 6, true, .mov (.l 10), none⟩]
def c77 : C := .seq (.region false r77_0) (.seq (.seq (.region false r77_1) (.cond (.g 14) (.seq (.region false r77_2) (.ret)) (.skip))) (.seq (.region false r77_3) (.seq (.seq (.region false r77_4) (.cond (.g 32) (.seq (.region false r77_5) (.ret)) (.skip))) (.seq (.region false r77_6) (.seq (.region false r77_7) (.seq (.seq (.region false r77_8) (.cond (.g 50) (.seq (.region false r77_9) (.ret)) (.skip))) (.seq (.region false r77_10) (.ret))))))))
/-- stratigraph.stratigraphlaw10.DedupJudges -/
def F77 : F := ⟨3, [0, 1, 2, 6, 7, 8, 9, 10, 11, 14, 32, 50], [.t 6], none, c77⟩
attribute [go_sem] r77_0 r77_1 r77_2 r77_3 r77_4 r77_5 r77_6 r77_7 r77_8 r77_9 r77_10 c77 F77
def r87_0 : List Op := [
  ⟨some 3, true, .box (.g 1), none⟩,
  ⟨some 4, true, .mov (.c (.bool false)), none⟩]
def r87_1 : List Op := [
  ⟨some 9, false, .mov (.g 0), none⟩,
  ⟨some 10, false, .call (.k 78) .no none [.l 0], none⟩,
  ⟨some 11, false, .un .not (.l 1), none⟩,
  ⟨some 12, false, .mov (.l 2), none⟩,
  ⟨some 13, false, .load (.v 3) (some 11) (.g 3), (some (3, false))⟩,
  ⟨some 14, false, .mks 11 1 [.int .i64 0, .int .i64 0, .int .i64 0, .int .i64 0, .int .i64 0, .int .i64 0, .bool false, .str [], .slice 2 [], .str [], .bool false] [(0, .l 4)], (some (3, false))⟩,
  ⟨some 15, false, .call (.k 78) .no none [.l 5], (some (3, false))⟩,
  ⟨some 16, false, .un .not (.l 6), (some (3, false))⟩,
  ⟨some 17, true, .pick (.l 3) (.c (.bool true)) (.l 7), none⟩]
def r87_2 : List Op := [
  ⟨some 18, false, .call (.k 79) .no none [], none⟩,
  ⟨some 4, true, .mov (.l 0), none⟩]
def r87_3 : List Op := [
  ⟨some 20, false, .mov (.g 0), none⟩,
  ⟨some 21, false, .load (.v 3) (some 11) (.g 3), none⟩,
  ⟨some 22, false, .call (.k 88) .no none [.l 0, .l 1], none⟩,
  ⟨some 19, false, .mov (.l 2), none⟩,
  ⟨some 23, false, .ext (.l 3) 0, none⟩,
  ⟨some 24, false, .ext (.l 3) 1, none⟩,
  ⟨some 5, true, .mov (.l 4), none⟩,
  ⟨some 6, true, .mov (.l 5), none⟩]
def r87_4 : List Op := [
  ⟨some 26, false, .mov (.g 0), none⟩,
  ⟨some 27, false, .load (.v 3) (some 11) (.g 3), none⟩,
  ⟨some 28, false, .call (.k 89) .no none [.l 0, .l 1], none⟩,
  ⟨some 25, false, .mov (.l 2), none⟩,
  ⟨some 29, false, .ext (.l 3) 0, none⟩,
  ⟨some 30, false, .ext (.l 3) 1, none⟩,
  ⟨some 7, true, .mov (.l 4), none⟩,
  ⟨some 8, true, .mov (.l 5), none⟩]
def r87_5 : List Op := [
  ⟨some 31, false, .mov (.g 5), none⟩,
  ⟨some 32, false, .mov (.g 7), none⟩,
  ⟨some 33, false, .call (.k 86) .no none [.l 0, .l 1], none⟩,
  ⟨some 34, false, .mov (.l 2), none⟩,
  ⟨some 35, false, .mov (.g 6), (some (3, true))⟩,
  ⟨some 36, false, .mov (.g 8), (some (3, true))⟩,
  ⟨some 37, false, .bin .eql (.l 4) (.l 5), (some (3, true))⟩,
  ⟨some 38, false, .pick (.l 3) (.l 6) (.c (.bool false)), none⟩,
  ⟨some 39, false, .mov (.l 7), none⟩,
  ⟨some 40, false, .call (.k 79) .no none [], (some (8, true))⟩,
  ⟨some 41, false, .pick (.l 8) (.l 9) (.c (.bool false)), none⟩,
  ⟨some 4, true, .mov (.l 10), none⟩]
def c87 : C := .seq (.region false r87_0) (.seq (.seq (.region false r87_1) (.cond (.g 17) (.seq (.region false r87_2) (.ret)) (.skip))) (.seq (.region false r87_3) (.seq (.region false r87_4) (.seq (.region false r87_5) (.ret)))))
/-- stratigraph.stratigraphlaw10.DedupPuts -/
def F87 : F := ⟨2, [0, 1, 3, 4, 5, 6, 7, 8, 17], [.t 4], none, c87⟩
attribute [go_sem] r87_0 r87_1 r87_2 r87_3 r87_4 r87_5 c87 F87
def r90_0 : List Op := [
  ⟨some 4, true, .mov (.c (.bool false)), none⟩]
def r90_1 : List Op := [
  ⟨some 9, false, .mov (.g 0), none⟩,
  ⟨some 10, false, .call (.k 78) .no none [.l 0], none⟩,
  ⟨some 11, false, .un .not (.l 1), none⟩,
  ⟨some 12, false, .mov (.l 2), none⟩,
  ⟨some 13, false, .mov (.g 1), (some (3, false))⟩,
  ⟨some 14, false, .call (.k 78) .no none [.l 4], (some (3, false))⟩,
  ⟨some 15, false, .un .not (.l 5), (some (3, false))⟩,
  ⟨some 16, true, .pick (.l 3) (.c (.bool true)) (.l 6), none⟩]
def r90_2 : List Op := [
  ⟨some 17, false, .call (.k 79) .no none [], none⟩,
  ⟨some 4, true, .mov (.l 0), none⟩]
def r90_3 : List Op := [
  ⟨some 19, false, .mov (.g 0), none⟩,
  ⟨some 20, false, .mov (.g 1), none⟩,
  ⟨some 21, false, .call (.k 91) .no none [.l 0, .l 1], none⟩,
  ⟨some 18, false, .mov (.l 2), none⟩,
  ⟨some 22, false, .ext (.l 3) 0, none⟩,
  ⟨some 23, false, .ext (.l 3) 1, none⟩,
  ⟨some 5, true, .mov (.l 4), none⟩,
  ⟨some 6, true, .mov (.l 5), none⟩]
def r90_4 : List Op := [
  ⟨some 25, false, .mov (.g 0), none⟩,
  ⟨some 26, false, .mov (.g 1), none⟩,
  ⟨some 27, false, .call (.k 92) .no none [.l 0, .l 1], none⟩,
  ⟨some 24, false, .mov (.l 2), none⟩,
  ⟨some 28, false, .ext (.l 3) 0, none⟩,
  ⟨some 29, false, .ext (.l 3) 1, none⟩,
  ⟨some 7, true, .mov (.l 4), none⟩,
  ⟨some 8, true, .mov (.l 5), none⟩]
def r90_5 : List Op := [
  ⟨some 30, false, .mov (.g 5), none⟩,
  ⟨some 31, false, .mov (.g 7), none⟩,
  ⟨some 32, false, .call (.k 86) .no none [.l 0, .l 1], none⟩,
  ⟨some 33, false, .mov (.l 2), none⟩,
  ⟨some 34, false, .mov (.g 6), (some (3, true))⟩,
  ⟨some 35, false, .mov (.g 8), (some (3, true))⟩,
  ⟨some 36, false, .bin .eql (.l 4) (.l 5), (some (3, true))⟩,
  ⟨some 37, false, .pick (.l 3) (.l 6) (.c (.bool false)), none⟩,
  ⟨some 38, false, .mov (.l 7), none⟩,
  ⟨some 39, false, .call (.k 79) .no none [], (some (8, true))⟩,
  ⟨some 40, false, .pick (.l 8) (.l 9) (.c (.bool false)), none⟩,
  ⟨some 4, true, .mov (.l 10), none⟩]
def c90 : C := .seq (.region false r90_0) (.seq (.seq (.region false r90_1) (.cond (.g 16) (.seq (.region false r90_2) (.ret)) (.skip))) (.seq (.region false r90_3) (.seq (.region false r90_4) (.seq (.region false r90_5) (.ret)))))
/-- stratigraph.stratigraphlaw10.DedupMerges -/
def F90 : F := ⟨2, [0, 1, 4, 5, 6, 7, 8, 16], [.t 4], none, c90⟩
attribute [go_sem] r90_0 r90_1 r90_2 r90_3 r90_4 r90_5 c90 F90
def r93_0 : List Op := [
  ⟨some 5, true, .box (.g 1), none⟩,
  ⟨some 8, true, .mov (.c (.bool false)), none⟩]
def r93_1 : List Op := [
  ⟨some 17, false, .mov (.g 0), none⟩,
  ⟨some 18, false, .call (.k 78) .no none [.l 0], none⟩,
  ⟨some 19, false, .un .not (.l 1), none⟩,
  ⟨some 20, false, .mov (.l 2), none⟩,
  ⟨some 21, false, .mov (.g 3), (some (3, false))⟩,
  ⟨some 22, false, .call (.k 78) .no none [.l 4], (some (3, false))⟩,
  ⟨some 23, false, .un .not (.l 5), (some (3, false))⟩,
  ⟨some 24, false, .pick (.l 3) (.c (.bool true)) (.l 6), none⟩,
  ⟨some 25, false, .mov (.l 7), none⟩,
  ⟨some 26, false, .load (.v 5) (some 11) (.g 5), (some (8, false))⟩,
  ⟨some 27, false, .mks 11 1 [.int .i64 0, .int .i64 0, .int .i64 0, .int .i64 0, .int .i64 0, .int .i64 0, .bool false, .str [], .slice 2 [], .str [], .bool false] [(0, .l 9)], (some (8, false))⟩,
  ⟨some 28, false, .call (.k 78) .no none [.l 10], (some (8, false))⟩,
  ⟨some 29, false, .un .not (.l 11), (some (8, false))⟩,
  ⟨some 30, true, .pick (.l 8) (.c (.bool true)) (.l 12), none⟩]
def r93_2 : List Op := [
  ⟨some 31, false, .call (.k 79) .no none [], none⟩,
  ⟨some 8, true, .mov (.l 0), none⟩]
def r93_3 : List Op := [
  ⟨some 33, false, .mov (.g 0), none⟩,
  ⟨some 34, false, .load (.v 5) (some 11) (.g 5), none⟩,
  ⟨some 35, false, .call (.k 88) .no none [.l 0, .l 1], none⟩,
  ⟨some 32, false, .mov (.l 2), none⟩,
  ⟨some 36, false, .ext (.l 3) 0, none⟩,
  ⟨some 37, false, .ext (.l 3) 1, none⟩,
  ⟨some 0, true, .mov (.l 4), none⟩,
  ⟨some 9, true, .mov (.l 5), none⟩]
def r93_4 : List Op := [
  ⟨some 38, false, .mov (.g 9), none⟩,
  ⟨some 39, true, .bin .neq (.l 0) (.c (.int .i64 0)), none⟩]
def r93_5 : List Op := [
  ⟨some 40, false, .mov (.g 0), none⟩,
  ⟨some 41, false, .len false (.l 0), none⟩,
  ⟨some 42, false, .bin .eql (.l 1) (.c (.int .i64 0)), none⟩,
  ⟨some 43, false, .mov (.l 2), none⟩,
  ⟨some 44, false, .call (.k 79) .no none [], (some (3, true))⟩,
  ⟨some 45, false, .pick (.l 3) (.l 4) (.c (.bool false)), none⟩,
  ⟨some 8, true, .mov (.l 5), none⟩]
def r93_6 : List Op := [
  ⟨some 10, true, .mov (.c (.int .i64 0)), none⟩]
def r93_7 : List Op := [
  ⟨some 46, false, .mov (.g 10), none⟩,
  ⟨some 47, false, .mov (.g 2), none⟩,
  ⟨some 48, false, .len false (.l 1), none⟩,
  ⟨some 49, false, .bin .lss (.l 0) (.l 2), none⟩,
  ⟨some 50, false, .mov (.l 3), none⟩,
  ⟨some 51, false, .mov (.g 10), (some (4, true))⟩,
  ⟨some 52, false, .bin .lss (.l 5) (.c (.int .i64 30)), (some (4, true))⟩,
  ⟨some 53, true, .pick (.l 4) (.l 6) (.c (.bool false)), none⟩]
def r93_8 : List Op := [
  ⟨some 56, false, .mov (.g 2), none⟩,
  ⟨some 57, false, .mov (.g 10), none⟩,
  ⟨some 58, false, .iad 11 (.l 0) (.l 1), none⟩,
  ⟨some 59, false, .fad (.l 2) 2, none⟩,
  ⟨some 60, false, .fad (.l 3) 6, none⟩,
  ⟨some 61, false, .load (.c) none (.l 4), none⟩,
  ⟨some 62, false, .len false (.l 5), none⟩,
  ⟨some 63, true, .bin .gtr (.l 6) (.c (.int .i64 100)), none⟩]
def r93_9 : List Op := [
  ⟨some 65, false, .mov (.g 0), none⟩,
  ⟨some 66, false, .mov (.g 2), none⟩,
  ⟨some 67, false, .mov (.g 10), none⟩,
  ⟨some 68, false, .iad 11 (.l 1) (.l 2), none⟩,
  ⟨some 69, false, .load (.c) (some 11) (.l 3), none⟩,
  ⟨some 70, false, .call (.k 88) .no none [.l 0, .l 4], none⟩,
  ⟨some 64, false, .mov (.l 5), none⟩,
  ⟨some 71, false, .ext (.l 6) 0, none⟩,
  ⟨some 72, false, .ext (.l 6) 1, none⟩,
  ⟨some 11, true, .mov (.l 7), none⟩,
  ⟨some 12, true, .mov (.l 8), none⟩]
def r93_10 : List Op := [
  ⟨some 73, false, .mov (.g 12), none⟩,
  ⟨some 74, true, .bin .eql (.l 0) (.c (.int .i64 0)), none⟩]
def r93_11 : List Op := [
  ⟨some 75, false, .mov (.g 11), none⟩,
  ⟨some 0, true, .mov (.l 0), none⟩]
def r93_12 : List Op := [
  ⟨some 76, false, .mov (.g 0), none⟩,
  ⟨some 77, false, .fad (.g 5) 0, none⟩,
  ⟨some 78, false, .load (.v 5) none (.l 1), none⟩,
  ⟨some 79, false, .fad (.g 5) 1, none⟩,
  ⟨some 80, false, .load (.v 5) none (.l 3), none⟩,
  ⟨some 81, false, .call (.k 82) .no none [.l 0, .l 2, .l 4], none⟩,
  ⟨some 82, true, .bin .lss (.l 5) (.c (.int .i64 2)), none⟩]
def r93_13 : List Op := [
  ⟨some 8, true, .mov (.c (.bool false)), none⟩]
def r93_14 : List Op := [
  ⟨some 54, false, .mov (.g 10), none⟩,
  ⟨some 55, false, .bin .add (.l 0) (.c (.int .i64 1)), none⟩,
  ⟨some 10, true, .mov (.l 1), none⟩]
def b93_0 : C := .seq (.seq (.region false r93_7) (.cond (.g 53) (.skip) (.exit 0))) (.seq (.block 1 (.seq (.seq (.region false r93_8) (.cond (.g 63) (.exit 1) (.skip))) (.seq (.seq (.region false r93_9) (.seq (.region false r93_10) (.cond (.g 74) (.region false r93_11) (.skip)))) (.seq (.region false r93_12) (.cond (.g 82) (.seq (.region false r93_13) (.ret)) (.skip)))))) (.region false r93_14))
def l93_0 : C := .loop [] [] [] [] b93_0
def r93_15 : List Op := [
  ⟨some 84, false, .mov (.g 0), none⟩,
  ⟨some 85, false, .mov (.g 3), none⟩,
  ⟨some 86, false, .call (.k 91) .no none [.l 0, .l 1], none⟩,
  ⟨some 83, false, .mov (.l 2), none⟩,
  ⟨some 87, false, .ext (.l 3) 0, none⟩,
  ⟨some 88, false, .ext (.l 3) 1, none⟩,
  ⟨some 13, true, .mov (.l 4), none⟩,
  ⟨some 14, true, .mov (.l 5), none⟩]
def r93_16 : List Op := [
  ⟨some 89, false, .mov (.g 14), none⟩,
  ⟨some 90, false, .bin .eql (.l 0) (.c (.int .i64 0)), none⟩,
  ⟨some 91, false, .mov (.l 1), none⟩,
  ⟨some 92, false, .mov (.g 13), (some (2, true))⟩,
  ⟨some 93, false, .fad (.g 5) 0, (some (2, true))⟩,
  ⟨some 94, false, .load (.v 5) none (.l 4), (some (2, true))⟩,
  ⟨some 95, false, .fad (.g 5) 1, (some (2, true))⟩,
  ⟨some 96, false, .load (.v 5) none (.l 6), (some (2, true))⟩,
  ⟨some 97, false, .call (.k 82) .no none [.l 3, .l 5, .l 7], (some (2, true))⟩,
  ⟨some 98, false, .bin .lss (.l 8) (.c (.int .i64 2)), (some (2, true))⟩,
  ⟨some 99, false, .mov (.l 9), (some (2, true))⟩,
  ⟨some 100, false, .mov (.g 13), (some (10, false))⟩,
  ⟨some 101, false, .call (.k 81) .no none [.l 11], (some (10, false))⟩,
  ⟨some 102, false, .un .not (.l 12), (some (10, false))⟩,
  ⟨some 103, false, .pick (.l 10) (.c (.bool true)) (.l 13), (some (2, true))⟩,
  ⟨some 104, true, .pick (.l 2) (.l 14) (.c (.bool false)), none⟩]
def r93_17 : List Op := [
  ⟨some 8, true, .mov (.c (.bool false)), none⟩]
def r93_18 : List Op := [
  ⟨some 106, false, .mov (.g 3), none⟩,
  ⟨some 107, false, .mov (.g 0), none⟩,
  ⟨some 108, false, .call (.k 91) .no none [.l 0, .l 1], none⟩,
  ⟨some 105, false, .mov (.l 2), none⟩,
  ⟨some 109, false, .ext (.l 3) 0, none⟩,
  ⟨some 110, false, .ext (.l 3) 1, none⟩,
  ⟨some 15, true, .mov (.l 4), none⟩,
  ⟨some 16, true, .mov (.l 5), none⟩]
def r93_19 : List Op := [
  ⟨some 111, false, .mov (.g 16), none⟩,
  ⟨some 112, false, .bin .eql (.l 0) (.c (.int .i64 0)), none⟩,
  ⟨some 113, false, .mov (.l 1), none⟩,
  ⟨some 114, false, .mov (.g 15), (some (2, true))⟩,
  ⟨some 115, false, .fad (.g 5) 0, (some (2, true))⟩,
  ⟨some 116, false, .load (.v 5) none (.l 4), (some (2, true))⟩,
  ⟨some 117, false, .fad (.g 5) 1, (some (2, true))⟩,
  ⟨some 118, false, .load (.v 5) none (.l 6), (some (2, true))⟩,
  ⟨some 119, false, .call (.k 82) .no none [.l 3, .l 5, .l 7], (some (2, true))⟩,
  ⟨some 120, false, .bin .lss (.l 8) (.c (.int .i64 2)), (some (2, true))⟩,
  ⟨some 121, true, .pick (.l 2) (.l 9) (.c (.bool false)), none⟩]
def r93_20 : List Op := [
  ⟨some 8, true, .mov (.c (.bool false)), none⟩]
def r93_21 : List Op := [
  ⟨some 122, false, .call (.k 79) .no none [], none⟩,
  ⟨some 8, true, .mov (.l 0), none⟩]
def c93 : C := .seq (.region false r93_0) (.seq (.seq (.region false r93_1) (.cond (.g 30) (.seq (.region false r93_2) (.ret)) (.skip))) (.seq (.region false r93_3) (.seq (.seq (.region false r93_4) (.cond (.g 39) (.seq (.region false r93_5) (.ret)) (.skip))) (.seq (.seq (.region false r93_6) (.block 0 (l93_0))) (.seq (.seq (.region false r93_15) (.seq (.region false r93_16) (.cond (.g 104) (.seq (.region false r93_17) (.ret)) (.skip)))) (.seq (.seq (.region false r93_18) (.seq (.region false r93_19) (.cond (.g 121) (.seq (.region false r93_20) (.ret)) (.skip)))) (.seq (.region false r93_21) (.ret))))))))
/-- stratigraph.stratigraphlaw10.DedupNever -/
def F93 : F := ⟨4, [0, 1, 2, 3, 5, 8, 9, 10, 11, 12, 13, 14, 15, 16, 30, 39, 53, 63, 74, 82, 104, 121], [.t 8], none, c93⟩
attribute [go_sem] r93_0 r93_1 r93_2 r93_3 r93_4 r93_5 r93_6 r93_7 r93_8 r93_9 r93_10 r93_11 r93_12 r93_13 r93_14 b93_0 r93_15 r93_16 r93_17 r93_18 r93_19 r93_20 r93_21 c93 F93
def r94_0 : List Op := [
  ⟨some 2, true, .mov (.c (.bool false)), none⟩]
def r94_1 : List Op := [
  ⟨some 9, false, .mov (.g 0), none⟩,
  ⟨some 10, false, .call (.k 78) .no none [.l 0], none⟩,
  ⟨some 11, false, .un .not (.l 1), none⟩,
  ⟨some 12, false, .mov (.l 2), none⟩,
  ⟨some 13, false, .mov (.g 0), (some (3, false))⟩,
  ⟨some 14, false, .call (.k 81) .no none [.l 4], (some (3, false))⟩,
  ⟨some 15, false, .un .not (.l 5), (some (3, false))⟩,
  ⟨some 16, true, .pick (.l 3) (.c (.bool true)) (.l 6), none⟩]
def r94_2 : List Op := [
  ⟨some 17, false, .call (.k 79) .no none [], none⟩,
  ⟨some 2, true, .mov (.l 0), none⟩]
def r94_3 : List Op := [
  ⟨some 19, false, .mov (.g 0), none⟩,
  ⟨some 20, false, .mov (.g 0), none⟩,
  ⟨some 21, false, .call (.k 91) .no none [.l 0, .l 1], none⟩,
  ⟨some 18, false, .mov (.l 2), none⟩,
  ⟨some 22, false, .ext (.l 3) 0, none⟩,
  ⟨some 23, false, .ext (.l 3) 1, none⟩,
  ⟨some 3, true, .mov (.l 4), none⟩,
  ⟨some 4, true, .mov (.l 5), none⟩]
def r94_4 : List Op := [
  ⟨some 25, false, .mov (.g 0), none⟩,
  ⟨some 26, false, .call (.k 91) .no none [.l 0, .c (.slice 11 [])], none⟩,
  ⟨some 24, false, .mov (.l 1), none⟩,
  ⟨some 27, false, .ext (.l 2) 0, none⟩,
  ⟨some 28, false, .ext (.l 2) 1, none⟩,
  ⟨some 5, true, .mov (.l 3), none⟩,
  ⟨some 6, true, .mov (.l 4), none⟩]
def r94_5 : List Op := [
  ⟨some 30, false, .mov (.g 0), none⟩,
  ⟨some 31, false, .call (.k 91) .no none [.c (.slice 11 []), .l 0], none⟩,
  ⟨some 29, false, .mov (.l 1), none⟩,
  ⟨some 32, false, .ext (.l 2) 0, none⟩,
  ⟨some 33, false, .ext (.l 2) 1, none⟩,
  ⟨some 7, true, .mov (.l 3), none⟩,
  ⟨some 8, true, .mov (.l 4), none⟩]
def r94_6 : List Op := [
  ⟨some 34, false, .mov (.g 4), none⟩,
  ⟨some 35, false, .bin .eql (.l 0) (.c (.int .i64 0)), none⟩,
  ⟨some 36, false, .mov (.l 1), none⟩,
  ⟨some 37, false, .mov (.g 6), (some (2, true))⟩,
  ⟨some 38, false, .bin .eql (.l 3) (.c (.int .i64 0)), (some (2, true))⟩,
  ⟨some 39, false, .pick (.l 2) (.l 4) (.c (.bool false)), none⟩,
  ⟨some 40, false, .mov (.l 5), none⟩,
  ⟨some 41, false, .mov (.g 8), (some (6, true))⟩,
  ⟨some 42, false, .bin .eql (.l 7) (.c (.int .i64 0)), (some (6, true))⟩,
  ⟨some 43, false, .pick (.l 6) (.l 8) (.c (.bool false)), none⟩,
  ⟨some 44, false, .mov (.l 9), none⟩,
  ⟨some 45, false, .mov (.g 3), (some (10, true))⟩,
  ⟨some 46, false, .mov (.g 0), (some (10, true))⟩,
  ⟨some 47, false, .call (.k 86) .no none [.l 11, .l 12], (some (10, true))⟩,
  ⟨some 48, false, .pick (.l 10) (.l 13) (.c (.bool false)), none⟩,
  ⟨some 49, false, .mov (.l 14), none⟩,
  ⟨some 50, false, .mov (.g 5), (some (15, true))⟩,
  ⟨some 51, false, .mov (.g 0), (some (15, true))⟩,
  ⟨some 52, false, .call (.k 86) .no none [.l 16, .l 17], (some (15, true))⟩,
  ⟨some 53, false, .pick (.l 15) (.l 18) (.c (.bool false)), none⟩,
  ⟨some 54, false, .mov (.l 19), none⟩,
  ⟨some 55, false, .mov (.g 7), (some (20, true))⟩,
  ⟨some 56, false, .mov (.g 0), (some (20, true))⟩,
  ⟨some 57, false, .call (.k 86) .no none [.l 21, .l 22], (some (20, true))⟩,
  ⟨some 58, false, .pick (.l 20) (.l 23) (.c (.bool false)), none⟩,
  ⟨some 59, false, .mov (.l 24), none⟩,
  ⟨some 60, false, .call (.k 79) .no none [], (some (25, true))⟩,
  ⟨some 61, false, .pick (.l 25) (.l 26) (.c (.bool false)), none⟩,
  ⟨some 2, true, .mov (.l 27), none⟩]
def c94 : C := .seq (.region false r94_0) (.seq (.seq (.region false r94_1) (.cond (.g 16) (.seq (.region false r94_2) (.ret)) (.skip))) (.seq (.region false r94_3) (.seq (.region false r94_4) (.seq (.region false r94_5) (.seq (.region false r94_6) (.ret))))))
/-- stratigraph.stratigraphlaw10.DedupSelf -/
def F94 : F := ⟨1, [0, 2, 3, 4, 5, 6, 7, 8, 16], [.t 2], none, c94⟩
attribute [go_sem] r94_0 r94_1 r94_2 r94_3 r94_4 r94_5 r94_6 c94 F94
def r78_0 : List Op := [
  ⟨some 2, true, .mov (.c (.bool false)), none⟩]
def r78_1 : List Op := [
  ⟨some 4, false, .mov (.g 0), none⟩,
  ⟨some 5, false, .len false (.l 0), none⟩,
  ⟨some 6, true, .bin .gtr (.l 1) (.c (.int .i64 40)), none⟩]
def r78_2 : List Op := [
  ⟨some 2, true, .mov (.c (.bool false)), none⟩]
def r78_3 : List Op := [
  ⟨some 3, true, .mov (.c (.int .i64 0)), none⟩]
def r78_4 : List Op := [
  ⟨some 7, false, .mov (.g 3), none⟩,
  ⟨some 8, false, .mov (.g 0), none⟩,
  ⟨some 9, false, .len false (.l 1), none⟩,
  ⟨some 10, true, .bin .lss (.l 0) (.l 2), none⟩]
def r78_5 : List Op := [
  ⟨some 13, false, .mov (.g 0), none⟩,
  ⟨some 14, false, .mov (.g 3), none⟩,
  ⟨some 15, false, .iad 11 (.l 0) (.l 1), none⟩,
  ⟨some 16, false, .fad (.l 2) 2, none⟩,
  ⟨some 17, false, .fad (.l 3) 6, none⟩,
  ⟨some 18, false, .load (.c) none (.l 4), none⟩,
  ⟨some 19, false, .len false (.l 5), none⟩,
  ⟨some 20, true, .bin .gtr (.l 6) (.c (.int .i64 100)), none⟩]
def r78_6 : List Op := [
  ⟨some 2, true, .mov (.c (.bool false)), none⟩]
def r78_7 : List Op := [
  ⟨some 11, false, .mov (.g 3), none⟩,
  ⟨some 12, false, .bin .add (.l 0) (.c (.int .i64 1)), none⟩,
  ⟨some 3, true, .mov (.l 1), none⟩]
def b78_0 : C := .seq (.seq (.region false r78_4) (.cond (.g 10) (.skip) (.exit 0))) (.seq (.block 1 (.seq (.region false r78_5) (.cond (.g 20) (.seq (.region false r78_6) (.ret)) (.skip)))) (.region false r78_7))
def l78_0 : C := .loop [] [] [] [] b78_0
def r78_8 : List Op := [
  ⟨some 2, true, .mov (.c (.bool true)), none⟩]
def c78 : C := .seq (.region false r78_0) (.seq (.seq (.region false r78_1) (.cond (.g 6) (.seq (.region false r78_2) (.ret)) (.skip))) (.seq (.seq (.region false r78_3) (.block 0 (l78_0))) (.seq (.region false r78_8) (.ret))))
/-- stratigraph.stratigraphref10.Small -/
def F78 : F := ⟨1, [0, 2, 3, 6, 10, 20], [.t 2], none, c78⟩
attribute [go_sem] r78_0 r78_1 r78_2 r78_3 r78_4 r78_5 r78_6 r78_7 b78_0 r78_8 c78 F78
def r79_0 : List Op := [
  ⟨some 0, true, .mov (.c (.bool false)), none⟩]
def r79_1 : List Op := [
  ⟨some 4, false, .build [.int .i64 0, .int .i64 0, .int .i64 0, .int .i64 0, .int .i64 0, .int .i64 0, .bool false, .str [], .slice 2 [], .str [], .bool false] [(0, 1, .c (.int .i64 3)), (1, 1, .c (.int .i64 5))], none⟩,
  ⟨some 5, false, .call (.k 88) .no none [.c (.slice 11 []), .l 0], none⟩,
  ⟨some 3, false, .mov (.l 1), none⟩,
  ⟨some 6, false, .ext (.l 2) 0, none⟩,
  ⟨some 7, false, .ext (.l 2) 1, none⟩,
  ⟨some 1, true, .mov (.l 3), none⟩,
  ⟨some 2, true, .mov (.l 4), none⟩]
def r79_2 : List Op := [
  ⟨some 8, false, .mov (.g 1), none⟩,
  ⟨some 9, false, .len false (.l 0), none⟩,
  ⟨some 10, false, .bin .eql (.l 1) (.c (.int .i64 1)), none⟩,
  ⟨some 11, false, .mov (.l 2), none⟩,
  ⟨some 12, false, .mov (.g 2), (some (3, true))⟩,
  ⟨some 13, false, .bin .eql (.l 4) (.c (.int .i64 0)), (some (3, true))⟩,
  ⟨some 14, false, .pick (.l 3) (.l 5) (.c (.bool false)), none⟩,
  ⟨some 15, false, .mov (.l 6), none⟩,
  ⟨some 16, false, .mov (.g 1), (some (7, true))⟩,
  ⟨some 17, false, .call (.k 82) .no none [.l 8, .c (.int .i64 3), .c (.int .i64 6)], (some (7, true))⟩,
  ⟨some 18, false, .bin .eql (.l 9) (.c (.int .i64 1)), (some (7, true))⟩,
  ⟨some 19, false, .pick (.l 7) (.l 10) (.c (.bool false)), none⟩,
  ⟨some 20, false, .mov (.l 11), none⟩,
  ⟨some 21, false, .mov (.g 1), (some (12, true))⟩,
  ⟨some 22, false, .call (.k 82) .no none [.l 13, .c (.int .i64 3), .c (.int .i64 5)], (some (12, true))⟩,
  ⟨some 23, false, .bin .eql (.l 14) (.c (.int .i64 2)), (some (12, true))⟩,
  ⟨some 24, false, .pick (.l 12) (.l 15) (.c (.bool false)), none⟩,
  ⟨some 25, false, .mov (.l 16), none⟩,
  ⟨some 26, false, .mov (.g 1), (some (17, true))⟩,
  ⟨some 27, false, .call (.k 82) .no none [.l 18, .c (.int .i64 3), .c (.int .i64 4)], (some (17, true))⟩,
  ⟨some 28, false, .bin .eql (.l 19) (.c (.int .i64 3)), (some (17, true))⟩,
  ⟨some 29, false, .pick (.l 17) (.l 20) (.c (.bool false)), none⟩,
  ⟨some 30, false, .mov (.l 21), none⟩,
  ⟨some 31, false, .pick (.l 22) (.c (.bool true)) (.c (.bool false)), none⟩,
  ⟨some 32, false, .mov (.l 23), none⟩,
  ⟨some 33, false, .pick (.l 24) (.c (.bool true)) (.c (.bool false)), none⟩,
  ⟨some 34, false, .mov (.l 25), none⟩,
  ⟨some 35, false, .pick (.l 26) (.c (.bool true)) (.c (.bool false)), none⟩,
  ⟨some 0, true, .mov (.l 27), none⟩]
def c79 : C := .seq (.region false r79_0) (.seq (.region false r79_1) (.seq (.region false r79_2) (.ret)))
/-- stratigraph.stratigraphlaw10.awake -/
def F79 : F := ⟨0, [0, 1, 2], [.t 0], none, c79⟩
attribute [go_sem] r79_0 r79_1 r79_2 c79 F79
def r80_0 : List Op := [
  ⟨some 2, true, .mov (.c (.bool false)), none⟩]
def r80_1 : List Op := [
  ⟨some 4, false, .mov (.g 0), none⟩,
  ⟨some 5, false, .len false (.l 0), none⟩,
  ⟨some 6, true, .bin .gtr (.l 1) (.c (.int .i64 8)), none⟩]
def r80_2 : List Op := [
  ⟨some 2, true, .mov (.c (.bool false)), none⟩]
def r80_3 : List Op := [
  ⟨some 3, true, .mov (.c (.int .i64 0)), none⟩]
def r80_4 : List Op := [
  ⟨some 7, false, .mov (.g 3), none⟩,
  ⟨some 8, false, .mov (.g 0), none⟩,
  ⟨some 9, false, .len false (.l 1), none⟩,
  ⟨some 10, true, .bin .lss (.l 0) (.l 2), none⟩]
def r80_5 : List Op := [
  ⟨some 13, false, .mov (.g 0), none⟩,
  ⟨some 14, false, .mov (.g 3), none⟩,
  ⟨some 15, false, .iad 11 (.l 0) (.l 1), none⟩,
  ⟨some 16, false, .fad (.l 2) 0, none⟩,
  ⟨some 17, false, .load (.c) none (.l 3), none⟩,
  ⟨some 18, false, .call (.k 95) .no none [.l 4], none⟩,
  ⟨some 19, false, .un .not (.l 5), none⟩,
  ⟨some 20, false, .mov (.l 6), none⟩,
  ⟨some 21, false, .mov (.g 0), (some (7, false))⟩,
  ⟨some 22, false, .mov (.g 3), (some (7, false))⟩,
  ⟨some 23, false, .iad 11 (.l 8) (.l 9), (some (7, false))⟩,
  ⟨some 24, false, .fad (.l 10) 1, (some (7, false))⟩,
  ⟨some 25, false, .load (.c) none (.l 11), (some (7, false))⟩,
  ⟨some 26, false, .call (.k 95) .no none [.l 12], (some (7, false))⟩,
  ⟨some 27, false, .un .not (.l 13), (some (7, false))⟩,
  ⟨some 28, false, .pick (.l 7) (.c (.bool true)) (.l 14), none⟩,
  ⟨some 29, false, .mov (.l 15), none⟩,
  ⟨some 30, false, .mov (.g 0), (some (16, false))⟩,
  ⟨some 31, false, .mov (.g 3), (some (16, false))⟩,
  ⟨some 32, false, .iad 11 (.l 17) (.l 18), (some (16, false))⟩,
  ⟨some 33, false, .fad (.l 19) 2, (some (16, false))⟩,
  ⟨some 34, false, .load (.c) (some 9) (.l 20), (some (16, false))⟩,
  ⟨some 35, false, .call (.k 96) .no none [.l 21], (some (16, false))⟩,
  ⟨some 36, false, .un .not (.l 22), (some (16, false))⟩,
  ⟨some 37, true, .pick (.l 16) (.c (.bool true)) (.l 23), none⟩]
def r80_6 : List Op := [
  ⟨some 2, true, .mov (.c (.bool false)), none⟩]
def r80_7 : List Op := [
  ⟨some 38, false, .mov (.g 3), none⟩,
  ⟨some 39, false, .bin .gtr (.l 0) (.c (.int .i64 0)), none⟩,
  ⟨some 40, false, .mov (.l 1), none⟩,
  ⟨some 41, false, .mov (.g 0), (some (2, true))⟩,
  ⟨some 42, false, .mov (.g 3), (some (2, true))⟩,
  ⟨some 43, false, .bin .sub (.l 4) (.c (.int .i64 1)), (some (2, true))⟩,
  ⟨some 44, false, .iad 11 (.l 3) (.l 5), (some (2, true))⟩,
  ⟨some 45, false, .fad (.l 6) 0, (some (2, true))⟩,
  ⟨some 46, false, .load (.c) none (.l 7), (some (2, true))⟩,
  ⟨some 47, false, .mov (.g 0), (some (2, true))⟩,
  ⟨some 48, false, .mov (.g 3), (some (2, true))⟩,
  ⟨some 49, false, .iad 11 (.l 9) (.l 10), (some (2, true))⟩,
  ⟨some 50, false, .fad (.l 11) 0, (some (2, true))⟩,
  ⟨some 51, false, .load (.c) none (.l 12), (some (2, true))⟩,
  ⟨some 52, false, .bin .geq (.l 8) (.l 13), (some (2, true))⟩,
  ⟨some 53, true, .pick (.l 2) (.l 14) (.c (.bool false)), none⟩]
def r80_8 : List Op := [
  ⟨some 2, true, .mov (.c (.bool false)), none⟩]
def r80_9 : List Op := [
  ⟨some 11, false, .mov (.g 3), none⟩,
  ⟨some 12, false, .bin .add (.l 0) (.c (.int .i64 1)), none⟩,
  ⟨some 3, true, .mov (.l 1), none⟩]
def b80_0 : C := .seq (.seq (.region false r80_4) (.cond (.g 10) (.skip) (.exit 0))) (.seq (.block 1 (.seq (.seq (.region false r80_5) (.cond (.g 37) (.seq (.region false r80_6) (.ret)) (.skip))) (.seq (.region true r80_7) (.cond (.g 53) (.seq (.region false r80_8) (.ret)) (.skip))))) (.region false r80_9))
def l80_0 : C := .loop [] [] [] [] b80_0
def r80_10 : List Op := [
  ⟨some 2, true, .mov (.c (.bool true)), none⟩]
def c80 : C := .seq (.region false r80_0) (.seq (.seq (.region false r80_1) (.cond (.g 6) (.seq (.region false r80_2) (.ret)) (.skip))) (.seq (.seq (.region false r80_3) (.block 0 (l80_0))) (.seq (.region false r80_10) (.ret))))
/-- stratigraph.stratigraphref10.Right -/
def F80 : F := ⟨1, [0, 2, 3, 6, 10, 37, 53], [.t 2], none, c80⟩
attribute [go_sem] r80_0 r80_1 r80_2 r80_3 r80_4 r80_5 r80_6 r80_7 r80_8 r80_9 b80_0 r80_10 c80 F80
def r81_0 : List Op := [
  ⟨some 2, true, .mov (.c (.bool false)), none⟩]
def r81_1 : List Op := [
  ⟨some 3, true, .mov (.c (.int .i64 0)), none⟩]
def r81_2 : List Op := [
  ⟨some 6, true, .mov (.g 0), none⟩,
  ⟨some 7, true, .len false (.l 0), none⟩,
  ⟨some 8, true, .mov (.c (.int .i64 0)), none⟩]
def r81_3 : List Op := [
  ⟨some 9, true, .bin .lss (.g 8) (.g 7), none⟩]
def r81_4 : List Op := [
  ⟨some 10, false, .iad 11 (.g 6) (.g 8), none⟩,
  ⟨some 11, false, .load (.c) (some 11) (.l 0), none⟩,
  ⟨some 5, true, .alloc [.int .i64 0, .int .i64 0, .int .i64 0, .int .i64 0, .int .i64 0, .int .i64 0, .bool false, .str [], .slice 2 [], .str [], .bool false], none⟩,
  ⟨none, false, .store (.v 5) 11 (.l 2) (.l 1), none⟩]
def r81_5 : List Op := [
  ⟨some 12, false, .fad (.g 5) 0, none⟩,
  ⟨some 13, false, .load (.v 5) none (.l 0), none⟩,
  ⟨some 14, false, .mov (.g 3), none⟩,
  ⟨some 15, false, .bin .leq (.l 1) (.l 2), none⟩,
  ⟨some 16, false, .mov (.l 3), none⟩,
  ⟨some 17, false, .fad (.g 5) 0, (some (4, false))⟩,
  ⟨some 18, false, .load (.v 5) none (.l 5), (some (4, false))⟩,
  ⟨some 19, false, .call (.k 97) .no none [.l 6], (some (4, false))⟩,
  ⟨some 20, false, .un .not (.l 7), (some (4, false))⟩,
  ⟨some 21, false, .pick (.l 4) (.c (.bool true)) (.l 8), none⟩,
  ⟨some 22, false, .mov (.l 9), none⟩,
  ⟨some 23, false, .fad (.g 5) 1, (some (10, false))⟩,
  ⟨some 24, false, .load (.v 5) none (.l 11), (some (10, false))⟩,
  ⟨some 25, false, .call (.k 97) .no none [.l 12], (some (10, false))⟩,
  ⟨some 26, false, .un .not (.l 13), (some (10, false))⟩,
  ⟨some 27, false, .pick (.l 10) (.c (.bool true)) (.l 14), none⟩,
  ⟨some 28, false, .mov (.l 15), none⟩,
  ⟨some 29, false, .fad (.g 5) 2, (some (16, false))⟩,
  ⟨some 30, false, .load (.v 5) (some 9) (.l 17), (some (16, false))⟩,
  ⟨some 31, false, .call (.k 98) .no none [.l 18], (some (16, false))⟩,
  ⟨some 32, false, .un .not (.l 19), (some (16, false))⟩,
  ⟨some 33, true, .pick (.l 16) (.c (.bool true)) (.l 20), none⟩]
def r81_6 : List Op := [
  ⟨some 2, true, .mov (.c (.bool false)), none⟩]
def r81_7 : List Op := [
  ⟨some 34, false, .fad (.g 5) 0, none⟩,
  ⟨some 35, false, .load (.v 5) none (.l 0), none⟩,
  ⟨some 3, true, .mov (.l 1), none⟩]
def r81_8 : List Op := [
  ⟨some 36, false, .bin .add (.g 8) (.c (.int .i64 1)), none⟩,
  ⟨some 8, true, .mov (.l 0), none⟩]
def b81_0 : C := .seq (.region false r81_3) (.seq (.cond (.g 9) (.skip) (.exit 0)) (.seq (.block 1 (.seq (.region false r81_4) (.seq (.seq (.region false r81_5) (.cond (.g 33) (.seq (.region false r81_6) (.ret)) (.skip))) (.region false r81_7)))) (.region false r81_8)))
def l81_0 : C := .loop [] [] [5] [] b81_0
def r81_9 : List Op := [
  ⟨some 37, false, .mov (.g 0), none⟩,
  ⟨some 38, false, .len false (.l 0), none⟩,
  ⟨some 39, false, .bin .leq (.l 1) (.c (.int .i64 8)), none⟩,
  ⟨some 2, true, .mov (.l 2), none⟩]
def c81 : C := .seq (.region false r81_0) (.seq (.region false r81_1) (.seq (.seq (.region false r81_2) (.block 0 (l81_0))) (.seq (.region false r81_9) (.ret))))
/-- stratigraph.dedup.Right -/
def F81 : F := ⟨1, [0, 2, 3, 5, 6, 7, 8, 9, 33], [.t 2], none, c81⟩
attribute [go_sem] r81_0 r81_1 r81_2 r81_3 r81_4 r81_5 r81_6 r81_7 r81_8 b81_0 r81_9 c81 F81
def r82_0 : List Op := [
  ⟨some 6, true, .mov (.c (.int .i64 0)), none⟩]
def r82_1 : List Op := [
  ⟨some 9, false, .mov (.g 0), none⟩,
  ⟨some 10, false, .call (.k 81) .no none [.l 0], none⟩,
  ⟨some 11, false, .un .not (.l 1), none⟩,
  ⟨some 12, false, .mov (.l 2), none⟩,
  ⟨some 13, false, .mov (.g 1), (some (3, false))⟩,
  ⟨some 14, false, .call (.k 97) .no none [.l 4], (some (3, false))⟩,
  ⟨some 15, false, .un .not (.l 5), (some (3, false))⟩,
  ⟨some 16, false, .pick (.l 3) (.c (.bool true)) (.l 6), none⟩,
  ⟨some 17, false, .mov (.l 7), none⟩,
  ⟨some 18, false, .mov (.g 2), (some (8, false))⟩,
  ⟨some 19, false, .call (.k 97) .no none [.l 9], (some (8, false))⟩,
  ⟨some 20, false, .un .not (.l 10), (some (8, false))⟩,
  ⟨some 21, true, .pick (.l 8) (.c (.bool true)) (.l 11), none⟩]
def r82_2 : List Op := [
  ⟨some 6, true, .mov (.c (.int .i64 0)), none⟩]
def r82_3 : List Op := [
  ⟨some 23, false, .mov (.g 0), none⟩,
  ⟨some 24, false, .mov (.g 1), none⟩,
  ⟨some 25, false, .call (.k 84) .no none [.l 0, .l 1], none⟩,
  ⟨some 22, false, .mov (.l 2), none⟩,
  ⟨some 26, false, .ext (.l 3) 0, none⟩,
  ⟨some 27, false, .ext (.l 3) 1, none⟩,
  ⟨some 7, true, .alloc [.int .i64 0, .int .i64 0, .int .i64 0, .int .i64 0, .int .i64 0, .int .i64 0, .bool false, .str [], .slice 2 [], .str [], .bool false], none⟩,
  ⟨none, false, .store (.v 7) 11 (.l 6) (.l 4), none⟩,
  ⟨some 8, true, .mov (.l 5), none⟩]
def r82_4 : List Op := [
  ⟨some 29, false, .mov (.g 8), none⟩,
  ⟨some 30, false, .un .not (.l 0), none⟩,
  ⟨some 31, false, .mov (.l 1), none⟩,
  ⟨some 32, false, .mov (.g 2), (some (2, false))⟩,
  ⟨some 33, false, .fad (.g 7) 1, (some (2, false))⟩,
  ⟨some 34, false, .load (.v 7) none (.l 4), (some (2, false))⟩,
  ⟨some 35, false, .bin .gtr (.l 3) (.l 5), (some (2, false))⟩,
  ⟨some 36, false, .pick (.l 2) (.c (.bool true)) (.l 6), none⟩,
  ⟨some 28, true, .mov (.l 7), none⟩]
def r82_5 : List Op := [
  ⟨some 6, true, .mov (.c (.int .i64 1)), none⟩]
def r82_6 : List Op := [
  ⟨some 38, false, .mov (.g 2), none⟩,
  ⟨some 39, false, .fad (.g 7) 1, none⟩,
  ⟨some 40, false, .load (.v 7) none (.l 1), none⟩,
  ⟨some 41, false, .bin .eql (.l 0) (.l 2), none⟩,
  ⟨some 37, true, .mov (.l 3), none⟩]
def r82_7 : List Op := [
  ⟨some 6, true, .mov (.c (.int .i64 2)), none⟩]
def r82_8 : List Op := [
  ⟨some 6, true, .mov (.c (.int .i64 3)), none⟩]
def c82 : C := .seq (.region false r82_0) (.seq (.seq (.region false r82_1) (.cond (.g 21) (.seq (.region false r82_2) (.ret)) (.skip))) (.seq (.region false r82_3) (.seq (.block 0 (.seq (.region false r82_4) (.cond (.g 28) (.seq (.region false r82_5) (.ret)) (.seq (.region false r82_6) (.cond (.g 37) (.seq (.region false r82_7) (.ret)) (.skip)))))) (.seq (.region false r82_8) (.ret)))))
/-- stratigraph.dedup.Judge -/
def F82 : F := ⟨3, [0, 1, 2, 6, 7, 8, 21, 28, 37], [.t 6], none, c82⟩
attribute [go_sem] r82_0 r82_1 r82_2 r82_3 r82_4 r82_5 r82_6 r82_7 r82_8 c82 F82
def r83_0 : List Op := [
  ⟨some 6, true, .mov (.c (.int .i64 0)), none⟩]
def r83_1 : List Op := [
  ⟨some 8, false, .mov (.g 0), none⟩,
  ⟨some 9, false, .call (.k 80) .no none [.l 0], none⟩,
  ⟨some 10, false, .un .not (.l 1), none⟩,
  ⟨some 11, false, .mov (.l 2), none⟩,
  ⟨some 12, false, .mov (.g 1), (some (3, false))⟩,
  ⟨some 13, false, .call (.k 95) .no none [.l 4], (some (3, false))⟩,
  ⟨some 14, false, .un .not (.l 5), (some (3, false))⟩,
  ⟨some 15, false, .pick (.l 3) (.c (.bool true)) (.l 6), none⟩,
  ⟨some 16, false, .mov (.l 7), none⟩,
  ⟨some 17, false, .mov (.g 2), (some (8, false))⟩,
  ⟨some 18, false, .call (.k 95) .no none [.l 9], (some (8, false))⟩,
  ⟨some 19, false, .un .not (.l 10), (some (8, false))⟩,
  ⟨some 20, true, .pick (.l 8) (.c (.bool true)) (.l 11), none⟩]
def r83_2 : List Op := [
  ⟨some 6, true, .mov (.c (.int .i64 0)), none⟩]
def r83_3 : List Op := [
  ⟨some 21, false, .mov (.g 0), none⟩,
  ⟨some 22, false, .mov (.g 1), none⟩,
  ⟨some 23, false, .call (.k 99) .no none [.l 0, .l 1], none⟩,
  ⟨some 7, true, .mov (.l 2), none⟩]
def r83_4 : List Op := [
  ⟨some 24, false, .mov (.g 2), none⟩,
  ⟨some 25, false, .mov (.g 7), none⟩,
  ⟨some 26, true, .bin .gtr (.l 0) (.l 1), none⟩]
def r83_5 : List Op := [
  ⟨some 6, true, .mov (.c (.int .i64 1)), none⟩]
def r83_6 : List Op := [
  ⟨some 27, false, .mov (.g 2), none⟩,
  ⟨some 28, false, .mov (.g 7), none⟩,
  ⟨some 29, true, .bin .eql (.l 0) (.l 1), none⟩]
def r83_7 : List Op := [
  ⟨some 6, true, .mov (.c (.int .i64 2)), none⟩]
def r83_8 : List Op := [
  ⟨some 6, true, .mov (.c (.int .i64 3)), none⟩]
def c83 : C := .seq (.region false r83_0) (.seq (.seq (.region false r83_1) (.cond (.g 20) (.seq (.region false r83_2) (.ret)) (.skip))) (.seq (.region false r83_3) (.seq (.seq (.region false r83_4) (.cond (.g 26) (.seq (.region false r83_5) (.ret)) (.skip))) (.seq (.seq (.region false r83_6) (.cond (.g 29) (.seq (.region false r83_7) (.ret)) (.skip))) (.seq (.region false r83_8) (.ret))))))
/-- stratigraph.stratigraphref10.Judge -/
def F83 : F := ⟨3, [0, 1, 2, 6, 7, 20, 26, 29], [.t 6], none, c83⟩
attribute [go_sem] r83_0 r83_1 r83_2 r83_3 r83_4 r83_5 r83_6 r83_7 r83_8 c83 F83
def r84_0 : List Op := [
  ⟨some 4, true, .alloc [.int .i64 0, .int .i64 0, .int .i64 0, .int .i64 0, .int .i64 0, .int .i64 0, .bool false, .str [], .slice 2 [], .str [], .bool false], none⟩,
  ⟨some 5, true, .mov (.c (.bool false)), none⟩]
def r84_1 : List Op := [
  ⟨some 8, false, .mov (.g 0), none⟩,
  ⟨some 9, false, .call (.k 81) .no none [.l 0], none⟩,
  ⟨some 10, true, .un .not (.l 1), none⟩]
def r84_2 : List Op := [
  ⟨some 11, false, .build [.int .i64 0, .int .i64 0, .int .i64 0, .int .i64 0, .int .i64 0, .int .i64 0, .bool false, .str [], .slice 2 [], .str [], .bool false] [], none⟩,
  ⟨none, false, .store (.v 4) 11 (.g 4) (.l 0), none⟩,
  ⟨some 5, true, .mov (.c (.bool false)), none⟩]
def r84_3 : List Op := [
  ⟨some 13, false, .mov (.g 0), none⟩,
  ⟨some 14, false, .mov (.g 1), none⟩,
  ⟨some 15, false, .call (.k 100) .no none [.l 0, .l 1], none⟩,
  ⟨some 12, false, .mov (.l 2), none⟩,
  ⟨some 16, false, .ext (.l 3) 0, none⟩,
  ⟨some 17, false, .ext (.l 3) 1, none⟩,
  ⟨some 6, true, .mov (.l 4), none⟩,
  ⟨some 7, true, .mov (.l 5), none⟩]
def r84_4 : List Op := [
  ⟨some 18, false, .mov (.g 7), none⟩,
  ⟨some 19, true, .un .not (.l 0), none⟩]
def r84_5 : List Op := [
  ⟨some 20, false, .build [.int .i64 0, .int .i64 0, .int .i64 0, .int .i64 0, .int .i64 0, .int .i64 0, .bool false, .str [], .slice 2 [], .str [], .bool false] [], none⟩,
  ⟨none, false, .store (.v 4) 11 (.g 4) (.l 0), none⟩,
  ⟨some 5, true, .mov (.c (.bool false)), none⟩]
def r84_6 : List Op := [
  ⟨some 21, false, .mov (.g 0), none⟩,
  ⟨some 22, false, .mov (.g 6), none⟩,
  ⟨some 23, false, .iad 11 (.l 0) (.l 1), none⟩,
  ⟨some 24, false, .load (.c) (some 11) (.l 2), none⟩,
  ⟨none, false, .store (.v 4) 11 (.g 4) (.l 3), none⟩,
  ⟨some 5, true, .mov (.c (.bool true)), none⟩]
def c84 : C := .seq (.region false r84_0) (.seq (.seq (.region false r84_1) (.cond (.g 10) (.seq (.region false r84_2) (.ret)) (.skip))) (.seq (.region false r84_3) (.seq (.seq (.region false r84_4) (.cond (.g 19) (.seq (.region false r84_5) (.ret)) (.skip))) (.seq (.region false r84_6) (.ret)))))
/-- stratigraph.dedup.Told -/
def F84 : F := ⟨2, [0, 1, 4, 5, 6, 7, 10, 19], [.cell 4 (some 11), .t 5], none, c84⟩
attribute [go_sem] r84_0 r84_1 r84_2 r84_3 r84_4 r84_5 r84_6 c84 F84
def r85_0 : List Op := [
  ⟨some 4, true, .alloc [.int .i64 0, .int .i64 0, .int .i64 0, .int .i64 0, .int .i64 0, .int .i64 0, .bool false, .str [], .slice 2 [], .str [], .bool false], none⟩,
  ⟨some 5, true, .mov (.c (.bool false)), none⟩]
def r85_1 : List Op := [
  ⟨some 6, true, .mov (.c (.int .i64 0)), none⟩]
def r85_2 : List Op := [
  ⟨some 7, false, .mov (.g 6), none⟩,
  ⟨some 8, false, .mov (.g 0), none⟩,
  ⟨some 9, false, .len false (.l 1), none⟩,
  ⟨some 10, true, .bin .lss (.l 0) (.l 2), none⟩]
def r85_3 : List Op := [
  ⟨some 13, false, .mov (.g 0), none⟩,
  ⟨some 14, false, .mov (.g 6), none⟩,
  ⟨some 15, false, .iad 11 (.l 0) (.l 1), none⟩,
  ⟨some 16, false, .fad (.l 2) 0, none⟩,
  ⟨some 17, false, .load (.c) none (.l 3), none⟩,
  ⟨some 18, false, .mov (.g 1), none⟩,
  ⟨some 19, true, .bin .eql (.l 4) (.l 5), none⟩]
def r85_4 : List Op := [
  ⟨some 20, false, .mov (.g 0), none⟩,
  ⟨some 21, false, .mov (.g 6), none⟩,
  ⟨some 22, false, .iad 11 (.l 0) (.l 1), none⟩,
  ⟨some 23, false, .load (.c) (some 11) (.l 2), none⟩,
  ⟨none, false, .store (.v 4) 11 (.g 4) (.l 3), none⟩,
  ⟨some 5, true, .mov (.c (.bool true)), none⟩]
def r85_5 : List Op := [
  ⟨some 11, false, .mov (.g 6), none⟩,
  ⟨some 12, false, .bin .add (.l 0) (.c (.int .i64 1)), none⟩,
  ⟨some 6, true, .mov (.l 1), none⟩]
def b85_0 : C := .seq (.seq (.region false r85_2) (.cond (.g 10) (.skip) (.exit 0))) (.seq (.block 1 (.seq (.region false r85_3) (.cond (.g 19) (.seq (.region false r85_4) (.ret)) (.skip)))) (.region false r85_5))
def l85_0 : C := .loop [] [] [] [] b85_0
def r85_6 : List Op := [
  ⟨some 24, false, .build [.int .i64 0, .int .i64 0, .int .i64 0, .int .i64 0, .int .i64 0, .int .i64 0, .bool false, .str [], .slice 2 [], .str [], .bool false] [], none⟩,
  ⟨none, false, .store (.v 4) 11 (.g 4) (.l 0), none⟩,
  ⟨some 5, true, .mov (.c (.bool false)), none⟩]
def c85 : C := .seq (.region false r85_0) (.seq (.seq (.region false r85_1) (.block 0 (l85_0))) (.seq (.region false r85_6) (.ret)))
/-- stratigraph.stratigraphref10.Row -/
def F85 : F := ⟨2, [0, 1, 4, 5, 6, 10, 19], [.cell 4 (some 11), .t 5], none, c85⟩
attribute [go_sem] r85_0 r85_1 r85_2 r85_3 r85_4 r85_5 b85_0 r85_6 c85 F85
def r86_0 : List Op := [
  ⟨some 4, true, .mov (.c (.bool false)), none⟩]
def r86_1 : List Op := [
  ⟨some 6, false, .mov (.g 0), none⟩,
  ⟨some 7, false, .len false (.l 0), none⟩,
  ⟨some 8, false, .mov (.g 1), none⟩,
  ⟨some 9, false, .len false (.l 2), none⟩,
  ⟨some 10, true, .bin .neq (.l 1) (.l 3), none⟩]
def r86_2 : List Op := [
  ⟨some 4, true, .mov (.c (.bool false)), none⟩]
def r86_3 : List Op := [
  ⟨some 5, true, .mov (.c (.int .i64 0)), none⟩]
def r86_4 : List Op := [
  ⟨some 11, false, .mov (.g 5), none⟩,
  ⟨some 12, false, .mov (.g 0), none⟩,
  ⟨some 13, false, .len false (.l 1), none⟩,
  ⟨some 14, true, .bin .lss (.l 0) (.l 2), none⟩]
def r86_5 : List Op := [
  ⟨some 17, false, .mov (.g 0), none⟩,
  ⟨some 18, false, .mov (.g 5), none⟩,
  ⟨some 19, false, .iad 11 (.l 0) (.l 1), none⟩,
  ⟨some 20, false, .fad (.l 2) 0, none⟩,
  ⟨some 21, false, .load (.c) none (.l 3), none⟩,
  ⟨some 22, false, .mov (.g 1), none⟩,
  ⟨some 23, false, .mov (.g 5), none⟩,
  ⟨some 24, false, .iad 11 (.l 5) (.l 6), none⟩,
  ⟨some 25, false, .fad (.l 7) 0, none⟩,
  ⟨some 26, false, .load (.c) none (.l 8), none⟩,
  ⟨some 27, false, .bin .neq (.l 4) (.l 9), none⟩,
  ⟨some 28, false, .mov (.l 10), none⟩,
  ⟨some 29, false, .mov (.g 0), (some (11, false))⟩,
  ⟨some 30, false, .mov (.g 5), (some (11, false))⟩,
  ⟨some 31, false, .iad 11 (.l 12) (.l 13), (some (11, false))⟩,
  ⟨some 32, false, .fad (.l 14) 1, (some (11, false))⟩,
  ⟨some 33, false, .load (.c) none (.l 15), (some (11, false))⟩,
  ⟨some 34, false, .mov (.g 1), (some (11, false))⟩,
  ⟨some 35, false, .mov (.g 5), (some (11, false))⟩,
  ⟨some 36, false, .iad 11 (.l 17) (.l 18), (some (11, false))⟩,
  ⟨some 37, false, .fad (.l 19) 1, (some (11, false))⟩,
  ⟨some 38, false, .load (.c) none (.l 20), (some (11, false))⟩,
  ⟨some 39, false, .bin .neq (.l 16) (.l 21), (some (11, false))⟩,
  ⟨some 40, false, .pick (.l 11) (.c (.bool true)) (.l 22), none⟩,
  ⟨some 41, false, .mov (.l 23), none⟩,
  ⟨some 42, false, .mov (.g 0), (some (24, false))⟩,
  ⟨some 43, false, .mov (.g 5), (some (24, false))⟩,
  ⟨some 44, false, .iad 11 (.l 25) (.l 26), (some (24, false))⟩,
  ⟨some 45, false, .fad (.l 27) 2, (some (24, false))⟩,
  ⟨some 46, false, .load (.c) (some 9) (.l 28), (some (24, false))⟩,
  ⟨some 47, false, .mov (.g 1), (some (24, false))⟩,
  ⟨some 48, false, .mov (.g 5), (some (24, false))⟩,
  ⟨some 49, false, .iad 11 (.l 30) (.l 31), (some (24, false))⟩,
  ⟨some 50, false, .fad (.l 32) 2, (some (24, false))⟩,
  ⟨some 51, false, .load (.c) (some 9) (.l 33), (some (24, false))⟩,
  ⟨some 52, false, .call (.k 101) .no none [.l 29, .l 34], (some (24, false))⟩,
  ⟨some 53, false, .un .not (.l 35), (some (24, false))⟩,
  ⟨some 54, true, .pick (.l 24) (.c (.bool true)) (.l 36), none⟩]
def r86_6 : List Op := [
  ⟨some 4, true, .mov (.c (.bool false)), none⟩]
def r86_7 : List Op := [
  ⟨some 15, false, .mov (.g 5), none⟩,
  ⟨some 16, false, .bin .add (.l 0) (.c (.int .i64 1)), none⟩,
  ⟨some 5, true, .mov (.l 1), none⟩]
def b86_0 : C := .seq (.seq (.region false r86_4) (.cond (.g 14) (.skip) (.exit 0))) (.seq (.block 1 (.seq (.region true r86_5) (.cond (.g 54) (.seq (.region false r86_6) (.ret)) (.skip)))) (.region false r86_7))
def l86_0 : C := .loop [] [] [] [] b86_0
def r86_8 : List Op := [
  ⟨some 4, true, .mov (.c (.bool true)), none⟩]
def c86 : C := .seq (.region false r86_0) (.seq (.seq (.region false r86_1) (.cond (.g 10) (.seq (.region false r86_2) (.ret)) (.skip))) (.seq (.seq (.region false r86_3) (.block 0 (l86_0))) (.seq (.region false r86_8) (.ret))))
/-- stratigraph.stratigraphref10.Equal -/
def F86 : F := ⟨2, [0, 1, 4, 5, 10, 14, 54], [.t 4], none, c86⟩
attribute [go_sem] r86_0 r86_1 r86_2 r86_3 r86_4 r86_5 r86_6 r86_7 b86_0 r86_8 c86 F86
def r88_0 : List Op := [
  ⟨some 3, true, .box (.g 1), none⟩,
  ⟨some 4, true, .mov (.c (.slice 11 [])), none⟩,
  ⟨some 5, true, .mov (.c (.int .i64 0)), none⟩]
def r88_1 : List Op := [
  ⟨some 9, false, .mov (.g 0), none⟩,
  ⟨some 10, false, .call (.k 81) .no none [.l 0], none⟩,
  ⟨some 11, false, .un .not (.l 1), none⟩,
  ⟨some 12, false, .mov (.l 2), none⟩,
  ⟨some 13, false, .load (.v 3) (some 11) (.g 3), (some (3, false))⟩,
  ⟨some 14, false, .mks 11 1 [.int .i64 0, .int .i64 0, .int .i64 0, .int .i64 0, .int .i64 0, .int .i64 0, .bool false, .str [], .slice 2 [], .str [], .bool false] [(0, .l 4)], (some (3, false))⟩,
  ⟨some 15, false, .call (.k 81) .no none [.l 5], (some (3, false))⟩,
  ⟨some 16, false, .un .not (.l 6), (some (3, false))⟩,
  ⟨some 17, true, .pick (.l 3) (.c (.bool true)) (.l 7), none⟩]
def r88_2 : List Op := [
  ⟨some 4, true, .mov (.c (.slice 11 [])), none⟩,
  ⟨some 5, true, .mov (.c (.int .i64 1)), none⟩]
def r88_3 : List Op := [
  ⟨some 19, false, .mov (.g 0), none⟩,
  ⟨some 20, false, .fad (.g 3) 0, none⟩,
  ⟨some 21, false, .load (.v 3) none (.l 1), none⟩,
  ⟨some 22, false, .call (.k 100) .no none [.l 0, .l 2], none⟩,
  ⟨some 18, false, .mov (.l 3), none⟩,
  ⟨some 23, false, .ext (.l 4) 0, none⟩,
  ⟨some 24, false, .ext (.l 4) 1, none⟩,
  ⟨some 6, true, .mov (.l 5), none⟩,
  ⟨some 7, true, .mov (.l 6), none⟩]
def r88_4 : List Op := [
  ⟨some 26, false, .mov (.g 7), none⟩,
  ⟨some 27, false, .mov (.l 0), none⟩,
  ⟨some 28, false, .mov (.g 0), (some (1, true))⟩,
  ⟨some 29, false, .mov (.g 6), (some (1, true))⟩,
  ⟨some 30, false, .iad 11 (.l 2) (.l 3), (some (1, true))⟩,
  ⟨some 31, false, .fad (.l 4) 1, (some (1, true))⟩,
  ⟨some 32, false, .load (.c) none (.l 5), (some (1, true))⟩,
  ⟨some 33, false, .fad (.g 3) 1, (some (1, true))⟩,
  ⟨some 34, false, .load (.v 3) none (.l 7), (some (1, true))⟩,
  ⟨some 35, false, .bin .geq (.l 6) (.l 8), (some (1, true))⟩,
  ⟨some 36, false, .pick (.l 1) (.l 9) (.c (.bool false)), none⟩,
  ⟨some 25, true, .mov (.l 10), none⟩]
def r88_5 : List Op := [
  ⟨some 4, true, .mov (.c (.slice 11 [])), none⟩,
  ⟨some 5, true, .mov (.c (.int .i64 9)), none⟩]
def r88_6 : List Op := [
  ⟨some 38, false, .mov (.g 7), none⟩,
  ⟨some 39, false, .un .not (.l 0), none⟩,
  ⟨some 40, false, .mov (.l 1), none⟩,
  ⟨some 41, false, .mov (.g 0), (some (2, true))⟩,
  ⟨some 42, false, .len false (.l 3), (some (2, true))⟩,
  ⟨some 43, false, .bin .eql (.l 4) (.c (.int .i64 8)), (some (2, true))⟩,
  ⟨some 44, false, .pick (.l 2) (.l 5) (.c (.bool false)), none⟩,
  ⟨some 37, true, .mov (.l 6), none⟩]
def r88_7 : List Op := [
  ⟨some 4, true, .mov (.c (.slice 11 [])), none⟩,
  ⟨some 5, true, .mov (.c (.int .i64 6)), none⟩]
def r88_8 : List Op := [
  ⟨some 45, false, .mov (.g 0), none⟩,
  ⟨some 46, false, .call (.k 102) .no (some 0) [.l 0], none⟩,
  ⟨some 8, true, .mov (.l 1), none⟩]
def r88_9 : List Op := [
  ⟨some 47, true, .mov (.g 7), none⟩]
def r88_10 : List Op := [
  ⟨some 48, false, .mov (.g 8), none⟩,
  ⟨some 49, false, .mov (.g 6), none⟩,
  ⟨some 50, false, .load (.v 3) (some 11) (.g 3), none⟩,
  ⟨some 51, false, .iad 11 (.l 0) (.l 1), none⟩,
  ⟨none, false, .store (.e 46) 11 (.l 3) (.l 2), none⟩]
def r88_11 : List Op := [
  ⟨some 52, false, .mov (.g 8), none⟩,
  ⟨some 4, true, .mov (.l 0), none⟩,
  ⟨some 5, true, .mov (.c (.int .i64 0)), none⟩]
def r88_12 : List Op := [
  ⟨some 53, false, .mov (.g 8), none⟩,
  ⟨some 54, false, .mov (.g 6), none⟩,
  ⟨some 55, false, .load (.v 3) (some 11) (.g 3), none⟩,
  ⟨some 56, false, .mks 11 1 [.int .i64 0, .int .i64 0, .int .i64 0, .int .i64 0, .int .i64 0, .int .i64 0, .bool false, .str [], .slice 2 [], .str [], .bool false] [(0, .l 2)], none⟩,
  ⟨some 57, false, .ins 103 46 11 (.l 0) (.l 1) (.l 3), none⟩,
  ⟨some 4, true, .mov (.l 4), none⟩,
  ⟨some 5, true, .mov (.c (.int .i64 0)), none⟩]
def c88 : C := .seq (.region false r88_0) (.seq (.seq (.region false r88_1) (.cond (.g 17) (.seq (.region false r88_2) (.ret)) (.skip))) (.seq (.region false r88_3) (.seq (.block 0 (.seq (.region true r88_4) (.cond (.g 25) (.seq (.region false r88_5) (.ret)) (.seq (.region false r88_6) (.cond (.g 37) (.seq (.region false r88_7) (.ret)) (.skip)))))) (.seq (.region false r88_8) (.seq (.seq (.region false r88_9) (.cond (.g 47) (.seq (.region false r88_10) (.seq (.region false r88_11) (.ret))) (.skip))) (.seq (.region false r88_12) (.ret)))))))
/-- stratigraph.dedup.Put -/
def F88 : F := ⟨2, [0, 1, 3, 4, 5, 6, 7, 8, 17, 25, 37, 47], [.t 4, .t 5], none, c88⟩
attribute [go_sem] r88_0 r88_1 r88_2 r88_3 r88_4 r88_5 r88_6 r88_7 r88_8 r88_9 r88_10 r88_11 r88_12 c88 F88
def r89_0 : List Op := [
  ⟨some 3, true, .box (.g 1), none⟩,
  ⟨some 4, true, .mov (.c (.slice 11 [])), none⟩,
  ⟨some 5, true, .mov (.c (.int .i64 0)), none⟩]
def r89_1 : List Op := [
  ⟨some 7, false, .mov (.g 0), none⟩,
  ⟨some 8, false, .call (.k 80) .no none [.l 0], none⟩,
  ⟨some 9, false, .un .not (.l 1), none⟩,
  ⟨some 10, false, .mov (.l 2), none⟩,
  ⟨some 11, false, .load (.v 3) (some 11) (.g 3), (some (3, false))⟩,
  ⟨some 12, false, .mks 11 1 [.int .i64 0, .int .i64 0, .int .i64 0, .int .i64 0, .int .i64 0, .int .i64 0, .bool false, .str [], .slice 2 [], .str [], .bool false] [(0, .l 4)], (some (3, false))⟩,
  ⟨some 13, false, .call (.k 80) .no none [.l 5], (some (3, false))⟩,
  ⟨some 14, false, .un .not (.l 6), (some (3, false))⟩,
  ⟨some 15, true, .pick (.l 3) (.c (.bool true)) (.l 7), none⟩]
def r89_2 : List Op := [
  ⟨some 4, true, .mov (.c (.slice 11 [])), none⟩,
  ⟨some 5, true, .mov (.c (.int .i64 1)), none⟩]
def r89_3 : List Op := [
  ⟨some 16, false, .mov (.g 0), none⟩,
  ⟨some 17, false, .fad (.g 3) 0, none⟩,
  ⟨some 18, false, .load (.v 3) none (.l 1), none⟩,
  ⟨some 19, false, .call (.k 99) .no none [.l 0, .l 2], none⟩,
  ⟨some 20, false, .fad (.g 3) 1, none⟩,
  ⟨some 21, false, .load (.v 3) none (.l 4), none⟩,
  ⟨some 22, true, .bin .geq (.l 3) (.l 5), none⟩]
def r89_4 : List Op := [
  ⟨some 4, true, .mov (.c (.slice 11 [])), none⟩,
  ⟨some 5, true, .mov (.c (.int .i64 9)), none⟩]
def r89_5 : List Op := [
  ⟨some 23, false, .load (.v 3) (some 11) (.g 3), none⟩,
  ⟨some 24, false, .mkb 11 1 [.int .i64 0, .int .i64 0, .int .i64 0, .int .i64 0, .int .i64 0, .int .i64 0, .bool false, .str [], .slice 2 [], .str [], .bool false] [(0, .l 0)], none⟩,
  ⟨some 25, false, .mov (.g 0), none⟩,
  ⟨some 26, false, .app 24 11 (.l 1) (.l 2), none⟩,
  ⟨some 27, false, .call (.k 104) .freeze none [.l 3], none⟩,
  ⟨some 6, true, .mov (.l 4), none⟩]
def r89_6 : List Op := [
  ⟨some 28, false, .mov (.g 6), none⟩,
  ⟨some 29, false, .len false (.l 0), none⟩,
  ⟨some 30, true, .bin .gtr (.l 1) (.c (.int .i64 8)), none⟩]
def r89_7 : List Op := [
  ⟨some 4, true, .mov (.c (.slice 11 [])), none⟩,
  ⟨some 5, true, .mov (.c (.int .i64 6)), none⟩]
def r89_8 : List Op := [
  ⟨some 31, false, .mov (.g 6), none⟩,
  ⟨some 4, true, .mov (.l 0), none⟩,
  ⟨some 5, true, .mov (.c (.int .i64 0)), none⟩]
def c89 : C := .seq (.region false r89_0) (.seq (.seq (.region false r89_1) (.cond (.g 15) (.seq (.region false r89_2) (.ret)) (.skip))) (.seq (.seq (.region true r89_3) (.cond (.g 22) (.seq (.region false r89_4) (.ret)) (.skip))) (.seq (.region false r89_5) (.seq (.seq (.region false r89_6) (.cond (.g 30) (.seq (.region false r89_7) (.ret)) (.skip))) (.seq (.region false r89_8) (.ret))))))
/-- stratigraph.stratigraphref10.Put -/
def F89 : F := ⟨2, [0, 1, 3, 4, 5, 6, 15, 22, 30], [.t 4, .t 5], none, c89⟩
attribute [go_sem] r89_0 r89_1 r89_2 r89_3 r89_4 r89_5 r89_6 r89_7 r89_8 c89 F89
def r91_0 : List Op := [
  ⟨some 4, true, .mov (.c (.slice 11 [])), none⟩,
  ⟨some 5, true, .mov (.c (.int .i64 0)), none⟩]
def r91_1 : List Op := [
  ⟨some 7, false, .mov (.g 0), none⟩,
  ⟨some 8, false, .call (.k 81) .no none [.l 0], none⟩,
  ⟨some 9, false, .un .not (.l 1), none⟩,
  ⟨some 10, false, .mov (.l 2), none⟩,
  ⟨some 11, false, .mov (.g 1), (some (3, false))⟩,
  ⟨some 12, false, .call (.k 81) .no none [.l 4], (some (3, false))⟩,
  ⟨some 13, false, .un .not (.l 5), (some (3, false))⟩,
  ⟨some 14, true, .pick (.l 3) (.c (.bool true)) (.l 6), none⟩]
def r91_2 : List Op := [
  ⟨some 4, true, .mov (.c (.slice 11 [])), none⟩,
  ⟨some 5, true, .mov (.c (.int .i64 1)), none⟩]
def r91_3 : List Op := [
  ⟨some 6, true, .mko 11, none⟩]
def r91_4 : List Op := [
  ⟨some 15, false, .mov (.g 0), none⟩,
  ⟨some 16, false, .len false (.l 0), none⟩,
  ⟨some 17, false, .bin .gtr (.l 1) (.c (.int .i64 0)), none⟩,
  ⟨some 18, false, .mov (.l 2), none⟩,
  ⟨some 19, false, .mov (.g 1), (some (3, false))⟩,
  ⟨some 20, false, .len false (.l 4), (some (3, false))⟩,
  ⟨some 21, false, .bin .gtr (.l 5) (.c (.int .i64 0)), (some (3, false))⟩,
  ⟨some 22, true, .pick (.l 3) (.c (.bool true)) (.l 6), none⟩]
def r91_5 : List Op := [
  ⟨some 34, false, .mov (.g 1), none⟩,
  ⟨some 35, false, .len false (.l 0), none⟩,
  ⟨some 36, false, .bin .eql (.l 1) (.c (.int .i64 0)), none⟩,
  ⟨some 37, false, .mov (.l 2), none⟩,
  ⟨some 38, false, .mov (.g 0), (some (3, false))⟩,
  ⟨some 39, false, .len false (.l 4), (some (3, false))⟩,
  ⟨some 40, false, .bin .gtr (.l 5) (.c (.int .i64 0)), (some (3, false))⟩,
  ⟨some 41, false, .mov (.l 6), (some (3, false))⟩,
  ⟨some 42, false, .mov (.g 0), (some (7, true))⟩,
  ⟨some 43, false, .iad 11 (.l 8) (.c (.int .i64 0)), (some (7, true))⟩,
  ⟨some 44, false, .fad (.l 9) 0, (some (7, true))⟩,
  ⟨some 45, false, .load (.c) none (.l 10), (some (7, true))⟩,
  ⟨some 46, false, .mov (.g 1), (some (7, true))⟩,
  ⟨some 47, false, .iad 11 (.l 12) (.c (.int .i64 0)), (some (7, true))⟩,
  ⟨some 48, false, .fad (.l 13) 0, (some (7, true))⟩,
  ⟨some 49, false, .load (.c) none (.l 14), (some (7, true))⟩,
  ⟨some 50, false, .bin .lss (.l 11) (.l 15), (some (7, true))⟩,
  ⟨some 51, false, .pick (.l 7) (.l 16) (.c (.bool false)), (some (3, false))⟩,
  ⟨some 52, false, .pick (.l 3) (.c (.bool true)) (.l 17), none⟩,
  ⟨some 33, true, .mov (.l 18), none⟩]
def r91_6 : List Op := [
  ⟨some 53, false, .mov (.g 6), none⟩,
  ⟨some 54, false, .mov (.g 0), none⟩,
  ⟨some 55, false, .iad 11 (.l 1) (.c (.int .i64 0)), none⟩,
  ⟨some 56, false, .load (.c) (some 11) (.l 2), none⟩,
  ⟨some 57, false, .mks 11 1 [.int .i64 0, .int .i64 0, .int .i64 0, .int .i64 0, .int .i64 0, .int .i64 0, .bool false, .str [], .slice 2 [], .str [], .bool false] [(0, .l 3)], none⟩,
  ⟨some 58, false, .app 6 11 (.l 0) (.l 4), none⟩,
  ⟨some 59, false, .mov (.g 0), none⟩,
  ⟨some 60, false, .sl false 11 (.l 6) (some (.c (.int .i64 1))) none, none⟩,
  ⟨some 6, true, .mov (.l 5), none⟩,
  ⟨some 0, true, .mov (.l 7), none⟩]
def r91_7 : List Op := [
  ⟨some 62, false, .mov (.g 0), none⟩,
  ⟨some 63, false, .len false (.l 0), none⟩,
  ⟨some 64, false, .bin .eql (.l 1) (.c (.int .i64 0)), none⟩,
  ⟨some 65, false, .mov (.l 2), none⟩,
  ⟨some 66, false, .mov (.g 1), (some (3, false))⟩,
  ⟨some 67, false, .iad 11 (.l 4) (.c (.int .i64 0)), (some (3, false))⟩,
  ⟨some 68, false, .fad (.l 5) 0, (some (3, false))⟩,
  ⟨some 69, false, .load (.c) none (.l 6), (some (3, false))⟩,
  ⟨some 70, false, .mov (.g 0), (some (3, false))⟩,
  ⟨some 71, false, .iad 11 (.l 8) (.c (.int .i64 0)), (some (3, false))⟩,
  ⟨some 72, false, .fad (.l 9) 0, (some (3, false))⟩,
  ⟨some 73, false, .load (.c) none (.l 10), (some (3, false))⟩,
  ⟨some 74, false, .bin .lss (.l 7) (.l 11), (some (3, false))⟩,
  ⟨some 75, false, .pick (.l 3) (.c (.bool true)) (.l 12), none⟩,
  ⟨some 61, true, .mov (.l 13), none⟩]
def r91_8 : List Op := [
  ⟨some 76, false, .mov (.g 6), none⟩,
  ⟨some 77, false, .mov (.g 1), none⟩,
  ⟨some 78, false, .iad 11 (.l 1) (.c (.int .i64 0)), none⟩,
  ⟨some 79, false, .load (.c) (some 11) (.l 2), none⟩,
  ⟨some 80, false, .mks 11 1 [.int .i64 0, .int .i64 0, .int .i64 0, .int .i64 0, .int .i64 0, .int .i64 0, .bool false, .str [], .slice 2 [], .str [], .bool false] [(0, .l 3)], none⟩,
  ⟨some 81, false, .app 6 11 (.l 0) (.l 4), none⟩,
  ⟨some 82, false, .mov (.g 1), none⟩,
  ⟨some 83, false, .sl false 11 (.l 6) (some (.c (.int .i64 1))) none, none⟩,
  ⟨some 6, true, .mov (.l 5), none⟩,
  ⟨some 1, true, .mov (.l 7), none⟩]
def r91_9 : List Op := [
  ⟨some 85, false, .mov (.g 0), none⟩,
  ⟨some 86, false, .iad 11 (.l 0) (.c (.int .i64 0)), none⟩,
  ⟨some 87, false, .fad (.l 1) 1, none⟩,
  ⟨some 88, false, .load (.c) none (.l 2), none⟩,
  ⟨some 89, false, .mov (.g 1), none⟩,
  ⟨some 90, false, .iad 11 (.l 4) (.c (.int .i64 0)), none⟩,
  ⟨some 91, false, .fad (.l 5) 1, none⟩,
  ⟨some 92, false, .load (.c) none (.l 6), none⟩,
  ⟨some 93, false, .bin .geq (.l 3) (.l 7), none⟩,
  ⟨some 84, true, .mov (.l 8), none⟩]
def r91_10 : List Op := [
  ⟨some 94, false, .mov (.g 6), none⟩,
  ⟨some 95, false, .mov (.g 0), none⟩,
  ⟨some 96, false, .iad 11 (.l 1) (.c (.int .i64 0)), none⟩,
  ⟨some 97, false, .load (.c) (some 11) (.l 2), none⟩,
  ⟨some 98, false, .mks 11 1 [.int .i64 0, .int .i64 0, .int .i64 0, .int .i64 0, .int .i64 0, .int .i64 0, .bool false, .str [], .slice 2 [], .str [], .bool false] [(0, .l 3)], none⟩,
  ⟨some 99, false, .app 6 11 (.l 0) (.l 4), none⟩,
  ⟨some 100, false, .mov (.g 0), none⟩,
  ⟨some 101, false, .sl false 11 (.l 6) (some (.c (.int .i64 1))) none, none⟩,
  ⟨some 102, false, .mov (.g 1), none⟩,
  ⟨some 103, false, .sl false 11 (.l 8) (some (.c (.int .i64 1))) none, none⟩,
  ⟨some 6, true, .mov (.l 5), none⟩,
  ⟨some 0, true, .mov (.l 7), none⟩,
  ⟨some 1, true, .mov (.l 9), none⟩]
def r91_11 : List Op := [
  ⟨some 23, false, .mov (.g 6), none⟩,
  ⟨some 24, false, .mov (.g 1), none⟩,
  ⟨some 25, false, .iad 11 (.l 1) (.c (.int .i64 0)), none⟩,
  ⟨some 26, false, .load (.c) (some 11) (.l 2), none⟩,
  ⟨some 27, false, .mks 11 1 [.int .i64 0, .int .i64 0, .int .i64 0, .int .i64 0, .int .i64 0, .int .i64 0, .bool false, .str [], .slice 2 [], .str [], .bool false] [(0, .l 3)], none⟩,
  ⟨some 28, false, .app 6 11 (.l 0) (.l 4), none⟩,
  ⟨some 29, false, .mov (.g 0), none⟩,
  ⟨some 30, false, .sl false 11 (.l 6) (some (.c (.int .i64 1))) none, none⟩,
  ⟨some 31, false, .mov (.g 1), none⟩,
  ⟨some 32, false, .sl false 11 (.l 8) (some (.c (.int .i64 1))) none, none⟩,
  ⟨some 6, true, .mov (.l 5), none⟩,
  ⟨some 0, true, .mov (.l 7), none⟩,
  ⟨some 1, true, .mov (.l 9), none⟩]
def b91_0 : C := .seq (.seq (.region false r91_4) (.cond (.g 22) (.skip) (.exit 0))) (.block 1 (.block 2 (.seq (.region true r91_5) (.cond (.g 33) (.region true r91_6) (.seq (.region true r91_7) (.cond (.g 61) (.region true r91_8) (.seq (.region true r91_9) (.cond (.g 84) (.region true r91_10) (.region true r91_11)))))))))
def l91_0 : C := .loop [] [] [] [] b91_0
def r91_12 : List Op := [
  ⟨some 104, false, .mov (.g 6), none⟩,
  ⟨some 105, false, .len false (.l 0), none⟩,
  ⟨some 106, true, .bin .gtr (.l 1) (.c (.int .i64 8)), none⟩]
def r91_13 : List Op := [
  ⟨some 4, true, .mov (.c (.slice 11 [])), none⟩,
  ⟨some 5, true, .mov (.c (.int .i64 6)), none⟩]
def r91_14 : List Op := [
  ⟨some 107, false, .mov (.g 6), none⟩,
  ⟨some 4, true, .mov (.l 0), none⟩,
  ⟨some 5, true, .mov (.c (.int .i64 0)), none⟩]
def c91 : C := .seq (.region false r91_0) (.seq (.seq (.region false r91_1) (.cond (.g 14) (.seq (.region false r91_2) (.ret)) (.skip))) (.seq (.region false r91_3) (.seq (.block 0 (l91_0)) (.seq (.seq (.region false r91_12) (.cond (.g 106) (.seq (.region false r91_13) (.ret)) (.skip))) (.seq (.region false r91_14) (.ret))))))
/-- stratigraph.dedup.Merge -/
def F91 : F := ⟨2, [0, 1, 4, 5, 6, 14, 22, 33, 61, 84, 106], [.t 4, .t 5], none, c91⟩
attribute [go_sem] r91_0 r91_1 r91_2 r91_3 r91_4 r91_5 r91_6 r91_7 r91_8 r91_9 r91_10 r91_11 b91_0 r91_12 r91_13 r91_14 c91 F91
def r92_0 : List Op := [
  ⟨some 4, true, .mov (.c (.slice 11 [])), none⟩,
  ⟨some 5, true, .mov (.c (.int .i64 0)), none⟩]
def r92_1 : List Op := [
  ⟨some 9, false, .mov (.g 0), none⟩,
  ⟨some 10, false, .call (.k 80) .no none [.l 0], none⟩,
  ⟨some 11, false, .un .not (.l 1), none⟩,
  ⟨some 12, false, .mov (.l 2), none⟩,
  ⟨some 13, false, .mov (.g 1), (some (3, false))⟩,
  ⟨some 14, false, .call (.k 80) .no none [.l 4], (some (3, false))⟩,
  ⟨some 15, false, .un .not (.l 5), (some (3, false))⟩,
  ⟨some 16, true, .pick (.l 3) (.c (.bool true)) (.l 6), none⟩]
def r92_2 : List Op := [
  ⟨some 4, true, .mov (.c (.slice 11 [])), none⟩,
  ⟨some 5, true, .mov (.c (.int .i64 1)), none⟩]
def r92_3 : List Op := [
  ⟨some 6, true, .mko 11, none⟩]
def r92_4 : List Op := [
  ⟨some 7, true, .mov (.c (.int .i64 0)), none⟩]
def r92_5 : List Op := [
  ⟨some 17, false, .mov (.g 7), none⟩,
  ⟨some 18, false, .mov (.g 0), none⟩,
  ⟨some 19, false, .len false (.l 1), none⟩,
  ⟨some 20, true, .bin .lss (.l 0) (.l 2), none⟩]
def r92_6 : List Op := [
  ⟨some 23, false, .mov (.g 1), none⟩,
  ⟨some 24, false, .mov (.g 0), none⟩,
  ⟨some 25, false, .mov (.g 7), none⟩,
  ⟨some 26, false, .iad 11 (.l 1) (.l 2), none⟩,
  ⟨some 27, false, .fad (.l 3) 0, none⟩,
  ⟨some 28, false, .load (.c) none (.l 4), none⟩,
  ⟨some 29, false, .call (.k 99) .no none [.l 0, .l 5], none⟩,
  ⟨some 30, false, .mov (.g 0), none⟩,
  ⟨some 31, false, .mov (.g 7), none⟩,
  ⟨some 32, false, .iad 11 (.l 7) (.l 8), none⟩,
  ⟨some 33, false, .fad (.l 9) 1, none⟩,
  ⟨some 34, false, .load (.c) none (.l 10), none⟩,
  ⟨some 35, true, .bin .leq (.l 6) (.l 11), none⟩]
def r92_7 : List Op := [
  ⟨some 36, false, .mov (.g 6), none⟩,
  ⟨some 37, false, .mov (.g 0), none⟩,
  ⟨some 38, false, .mov (.g 7), none⟩,
  ⟨some 39, false, .iad 11 (.l 1) (.l 2), none⟩,
  ⟨some 40, false, .load (.c) (some 11) (.l 3), none⟩,
  ⟨some 41, false, .mks 11 1 [.int .i64 0, .int .i64 0, .int .i64 0, .int .i64 0, .int .i64 0, .int .i64 0, .bool false, .str [], .slice 2 [], .str [], .bool false] [(0, .l 4)], none⟩,
  ⟨some 42, false, .app 6 11 (.l 0) (.l 5), none⟩,
  ⟨some 6, true, .mov (.l 6), none⟩]
def r92_8 : List Op := [
  ⟨some 21, false, .mov (.g 7), none⟩,
  ⟨some 22, false, .bin .add (.l 0) (.c (.int .i64 1)), none⟩,
  ⟨some 7, true, .mov (.l 1), none⟩]
def b92_0 : C := .seq (.seq (.region false r92_5) (.cond (.g 20) (.skip) (.exit 0))) (.seq (.block 1 (.seq (.region true r92_6) (.cond (.g 35) (.region false r92_7) (.skip)))) (.region false r92_8))
def l92_0 : C := .loop [] [] [] [] b92_0
def r92_9 : List Op := [
  ⟨some 8, true, .mov (.c (.int .i64 0)), none⟩]
def r92_10 : List Op := [
  ⟨some 43, false, .mov (.g 8), none⟩,
  ⟨some 44, false, .mov (.g 1), none⟩,
  ⟨some 45, false, .len false (.l 1), none⟩,
  ⟨some 46, true, .bin .lss (.l 0) (.l 2), none⟩]
def r92_11 : List Op := [
  ⟨some 49, false, .mov (.g 0), none⟩,
  ⟨some 50, false, .mov (.g 1), none⟩,
  ⟨some 51, false, .mov (.g 8), none⟩,
  ⟨some 52, false, .iad 11 (.l 1) (.l 2), none⟩,
  ⟨some 53, false, .fad (.l 3) 0, none⟩,
  ⟨some 54, false, .load (.c) none (.l 4), none⟩,
  ⟨some 55, false, .call (.k 99) .no none [.l 0, .l 5], none⟩,
  ⟨some 56, false, .mov (.g 1), none⟩,
  ⟨some 57, false, .mov (.g 8), none⟩,
  ⟨some 58, false, .iad 11 (.l 7) (.l 8), none⟩,
  ⟨some 59, false, .fad (.l 9) 1, none⟩,
  ⟨some 60, false, .load (.c) none (.l 10), none⟩,
  ⟨some 61, true, .bin .lss (.l 6) (.l 11), none⟩]
def r92_12 : List Op := [
  ⟨some 62, false, .mov (.g 6), none⟩,
  ⟨some 63, false, .mov (.g 1), none⟩,
  ⟨some 64, false, .mov (.g 8), none⟩,
  ⟨some 65, false, .iad 11 (.l 1) (.l 2), none⟩,
  ⟨some 66, false, .load (.c) (some 11) (.l 3), none⟩,
  ⟨some 67, false, .mks 11 1 [.int .i64 0, .int .i64 0, .int .i64 0, .int .i64 0, .int .i64 0, .int .i64 0, .bool false, .str [], .slice 2 [], .str [], .bool false] [(0, .l 4)], none⟩,
  ⟨some 68, false, .app 6 11 (.l 0) (.l 5), none⟩,
  ⟨some 6, true, .mov (.l 6), none⟩]
def r92_13 : List Op := [
  ⟨some 47, false, .mov (.g 8), none⟩,
  ⟨some 48, false, .bin .add (.l 0) (.c (.int .i64 1)), none⟩,
  ⟨some 8, true, .mov (.l 1), none⟩]
def b92_1 : C := .seq (.seq (.region false r92_10) (.cond (.g 46) (.skip) (.exit 2))) (.seq (.block 3 (.seq (.region true r92_11) (.cond (.g 61) (.region false r92_12) (.skip)))) (.region false r92_13))
def l92_1 : C := .loop [] [] [] [] b92_1
def r92_14 : List Op := [
  ⟨some 69, false, .mov (.g 6), none⟩,
  ⟨some 70, false, .len false (.l 0), none⟩,
  ⟨some 71, true, .bin .gtr (.l 1) (.c (.int .i64 8)), none⟩]
def r92_15 : List Op := [
  ⟨some 4, true, .mov (.c (.slice 11 [])), none⟩,
  ⟨some 5, true, .mov (.c (.int .i64 6)), none⟩]
def r92_16 : List Op := [
  ⟨some 72, false, .mov (.g 6), none⟩,
  ⟨some 73, false, .call (.k 104) .freeze none [.l 0], none⟩,
  ⟨some 4, true, .mov (.l 1), none⟩,
  ⟨some 5, true, .mov (.c (.int .i64 0)), none⟩]
def c92 : C := .seq (.region false r92_0) (.seq (.seq (.region false r92_1) (.cond (.g 16) (.seq (.region false r92_2) (.ret)) (.skip))) (.seq (.region false r92_3) (.seq (.seq (.region false r92_4) (.block 0 (l92_0))) (.seq (.seq (.region false r92_9) (.block 2 (l92_1))) (.seq (.seq (.region false r92_14) (.cond (.g 71) (.seq (.region false r92_15) (.ret)) (.skip))) (.seq (.region false r92_16) (.ret)))))))
/-- stratigraph.stratigraphref10.Merge -/
def F92 : F := ⟨2, [0, 1, 4, 5, 6, 7, 8, 16, 20, 35, 46, 61, 71], [.t 4, .t 5], none, c92⟩
attribute [go_sem] r92_0 r92_1 r92_2 r92_3 r92_4 r92_5 r92_6 r92_7 r92_8 b92_0 r92_9 r92_10 r92_11 r92_12 r92_13 b92_1 r92_14 r92_15 r92_16 c92 F92
def r95_0 : List Op := [
  ⟨some 2, true, .mov (.c (.bool false)), none⟩]
def r95_1 : List Op := [
  ⟨some 3, false, .mov (.g 0), none⟩,
  ⟨some 4, false, .bin .gtr (.l 0) (.c (.int .i64 0)), none⟩,
  ⟨some 5, false, .mov (.l 1), none⟩,
  ⟨some 6, false, .mov (.g 0), (some (2, true))⟩,
  ⟨some 7, false, .bin .leq (.l 3) (.c (.int .i64 1099511627776)), (some (2, true))⟩,
  ⟨some 8, false, .pick (.l 2) (.l 4) (.c (.bool false)), none⟩,
  ⟨some 2, true, .mov (.l 5), none⟩]
def c95 : C := .seq (.region false r95_0) (.seq (.region false r95_1) (.ret))
/-- stratigraph.stratigraphref10.number -/
def F95 : F := ⟨1, [0, 2], [.t 2], none, c95⟩
attribute [go_sem] r95_0 r95_1 c95 F95
def r96_0 : List Op := [
  ⟨some 1, true, .box (.g 0), none⟩,
  ⟨some 2, true, .mov (.c (.bool false)), none⟩]
def r96_1 : List Op := [
  ⟨some 3, false, .fad (.g 1) 0, none⟩,
  ⟨some 4, false, .load (.v 1) none (.l 0), none⟩,
  ⟨some 5, false, .bin .lss (.l 1) (.c (.int .i64 0)), none⟩,
  ⟨some 6, false, .mov (.l 2), none⟩,
  ⟨some 7, false, .fad (.g 1) 0, (some (3, false))⟩,
  ⟨some 8, false, .load (.v 1) none (.l 4), (some (3, false))⟩,
  ⟨some 9, false, .bin .gtr (.l 5) (.c (.int .i64 16)), (some (3, false))⟩,
  ⟨some 10, false, .pick (.l 3) (.c (.bool true)) (.l 6), none⟩,
  ⟨some 11, false, .mov (.l 7), none⟩,
  ⟨some 12, false, .fad (.g 1) 5, (some (8, false))⟩,
  ⟨some 13, false, .load (.v 1) none (.l 9), (some (8, false))⟩,
  ⟨some 14, false, .len true (.l 10), (some (8, false))⟩,
  ⟨some 15, false, .bin .gtr (.l 11) (.c (.int .i64 16)), (some (8, false))⟩,
  ⟨some 16, false, .pick (.l 8) (.c (.bool true)) (.l 12), none⟩,
  ⟨some 17, false, .mov (.l 13), none⟩,
  ⟨some 18, false, .fad (.g 1) 6, (some (14, false))⟩,
  ⟨some 19, false, .load (.v 1) none (.l 15), (some (14, false))⟩,
  ⟨some 20, false, .len false (.l 16), (some (14, false))⟩,
  ⟨some 21, false, .bin .gtr (.l 17) (.c (.int .i64 0)), (some (14, false))⟩,
  ⟨some 22, false, .pick (.l 14) (.c (.bool true)) (.l 18), none⟩,
  ⟨some 23, false, .mov (.l 19), none⟩,
  ⟨some 24, false, .fad (.g 1) 7, (some (20, false))⟩,
  ⟨some 25, false, .load (.v 1) none (.l 21), (some (20, false))⟩,
  ⟨some 26, false, .len true (.l 22), (some (20, false))⟩,
  ⟨some 27, false, .bin .gtr (.l 23) (.c (.int .i64 0)), (some (20, false))⟩,
  ⟨some 28, false, .pick (.l 20) (.c (.bool true)) (.l 24), none⟩,
  ⟨some 29, false, .mov (.l 25), none⟩,
  ⟨some 30, false, .fad (.g 1) 8, (some (26, false))⟩,
  ⟨some 31, false, .load (.v 1) none (.l 27), (some (26, false))⟩,
  ⟨some 32, true, .pick (.l 26) (.c (.bool true)) (.l 28), none⟩]
def r96_2 : List Op := [
  ⟨some 2, true, .mov (.c (.bool false)), none⟩]
def r96_3 : List Op := [
  ⟨some 33, false, .fad (.g 1) 1, none⟩,
  ⟨some 34, false, .load (.v 1) (some 3) (.l 0), none⟩,
  ⟨some 35, false, .call (.k 24) .no none [.l 1], none⟩,
  ⟨some 2, true, .mov (.l 2), none⟩]
def c96 : C := .seq (.region false r96_0) (.seq (.seq (.region false r96_1) (.cond (.g 32) (.seq (.region false r96_2) (.ret)) (.skip))) (.seq (.region false r96_3) (.ret)))
/-- stratigraph.stratigraphref10.Plain -/
def F96 : F := ⟨1, [0, 1, 2, 32], [.t 2], none, c96⟩
attribute [go_sem] r96_0 r96_1 r96_2 r96_3 c96 F96
def r97_0 : List Op := [
  ⟨some 2, true, .mov (.c (.bool false)), none⟩]
def r97_1 : List Op := [
  ⟨some 3, false, .mov (.g 0), none⟩,
  ⟨some 4, false, .bin .geq (.l 0) (.c (.int .i64 1)), none⟩,
  ⟨some 5, false, .mov (.l 1), none⟩,
  ⟨some 6, false, .mov (.g 0), (some (2, true))⟩,
  ⟨some 7, false, .bin .leq (.l 3) (.c (.int .i64 1099511627776)), (some (2, true))⟩,
  ⟨some 8, false, .pick (.l 2) (.l 4) (.c (.bool false)), none⟩,
  ⟨some 2, true, .mov (.l 5), none⟩]
def c97 : C := .seq (.region false r97_0) (.seq (.region false r97_1) (.ret))
/-- stratigraph.dedup.number -/
def F97 : F := ⟨1, [0, 2], [.t 2], none, c97⟩
attribute [go_sem] r97_0 r97_1 c97 F97
def r98_0 : List Op := [
  ⟨some 1, true, .box (.g 0), none⟩,
  ⟨some 2, true, .mov (.c (.bool false)), none⟩]
def r98_1 : List Op := [
  ⟨some 3, false, .fad (.g 1) 0, none⟩,
  ⟨some 4, false, .load (.v 1) none (.l 0), none⟩,
  ⟨some 5, false, .bin .geq (.l 1) (.c (.int .i64 0)), none⟩,
  ⟨some 6, false, .mov (.l 2), none⟩,
  ⟨some 7, false, .fad (.g 1) 0, (some (3, true))⟩,
  ⟨some 8, false, .load (.v 1) none (.l 4), (some (3, true))⟩,
  ⟨some 9, false, .bin .leq (.l 5) (.c (.int .i64 16)), (some (3, true))⟩,
  ⟨some 10, false, .pick (.l 3) (.l 6) (.c (.bool false)), none⟩,
  ⟨some 11, false, .mov (.l 7), none⟩,
  ⟨some 12, false, .fad (.g 1) 1, (some (8, true))⟩,
  ⟨some 13, false, .load (.v 1) (some 3) (.l 9), (some (8, true))⟩,
  ⟨some 14, false, .call (.k 28) .no none [.l 10], (some (8, true))⟩,
  ⟨some 15, false, .pick (.l 8) (.l 11) (.c (.bool false)), none⟩,
  ⟨some 16, false, .mov (.l 12), none⟩,
  ⟨some 17, false, .fad (.g 1) 5, (some (13, true))⟩,
  ⟨some 18, false, .load (.v 1) none (.l 14), (some (13, true))⟩,
  ⟨some 19, false, .len true (.l 15), (some (13, true))⟩,
  ⟨some 20, false, .bin .leq (.l 16) (.c (.int .i64 16)), (some (13, true))⟩,
  ⟨some 21, false, .pick (.l 13) (.l 17) (.c (.bool false)), none⟩,
  ⟨some 22, false, .mov (.l 18), none⟩,
  ⟨some 23, false, .fad (.g 1) 6, (some (19, true))⟩,
  ⟨some 24, false, .load (.v 1) none (.l 20), (some (19, true))⟩,
  ⟨some 25, false, .len false (.l 21), (some (19, true))⟩,
  ⟨some 26, false, .bin .eql (.l 22) (.c (.int .i64 0)), (some (19, true))⟩,
  ⟨some 27, false, .pick (.l 19) (.l 23) (.c (.bool false)), none⟩,
  ⟨some 28, false, .mov (.l 24), none⟩,
  ⟨some 29, false, .fad (.g 1) 7, (some (25, true))⟩,
  ⟨some 30, false, .load (.v 1) none (.l 26), (some (25, true))⟩,
  ⟨some 31, false, .bin .eql (.l 27) (.c (.str [])), (some (25, true))⟩,
  ⟨some 32, false, .pick (.l 25) (.l 28) (.c (.bool false)), none⟩,
  ⟨some 33, false, .mov (.l 29), none⟩,
  ⟨some 34, false, .fad (.g 1) 8, (some (30, true))⟩,
  ⟨some 35, false, .load (.v 1) none (.l 31), (some (30, true))⟩,
  ⟨some 36, false, .un .not (.l 32), (some (30, true))⟩,
  ⟨some 37, false, .pick (.l 30) (.l 33) (.c (.bool false)), none⟩,
  ⟨some 2, true, .mov (.l 34), none⟩]
def c98 : C := .seq (.region false r98_0) (.seq (.region false r98_1) (.ret))
/-- stratigraph.dedup.plain -/
def F98 : F := ⟨1, [0, 1, 2], [.t 2], none, c98⟩
attribute [go_sem] r98_0 r98_1 c98 F98
def r99_0 : List Op := [
  ⟨some 4, true, .mov (.c (.int .i64 0)), none⟩]
def r99_1 : List Op := [
  ⟨some 5, true, .mov (.c (.int .i64 0)), none⟩]
def r99_2 : List Op := [
  ⟨some 6, false, .mov (.g 5), none⟩,
  ⟨some 7, false, .mov (.g 0), none⟩,
  ⟨some 8, false, .len false (.l 1), none⟩,
  ⟨some 9, true, .bin .lss (.l 0) (.l 2), none⟩]
def r99_3 : List Op := [
  ⟨some 12, false, .mov (.g 0), none⟩,
  ⟨some 13, false, .mov (.g 5), none⟩,
  ⟨some 14, false, .iad 11 (.l 0) (.l 1), none⟩,
  ⟨some 15, false, .fad (.l 2) 0, none⟩,
  ⟨some 16, false, .load (.c) none (.l 3), none⟩,
  ⟨some 17, false, .mov (.g 1), none⟩,
  ⟨some 18, true, .bin .eql (.l 4) (.l 5), none⟩]
def r99_4 : List Op := [
  ⟨some 19, false, .mov (.g 0), none⟩,
  ⟨some 20, false, .mov (.g 5), none⟩,
  ⟨some 21, false, .iad 11 (.l 0) (.l 1), none⟩,
  ⟨some 22, false, .fad (.l 2) 1, none⟩,
  ⟨some 23, false, .load (.c) none (.l 3), none⟩,
  ⟨some 4, true, .mov (.l 4), none⟩]
def r99_5 : List Op := [
  ⟨some 10, false, .mov (.g 5), none⟩,
  ⟨some 11, false, .bin .add (.l 0) (.c (.int .i64 1)), none⟩,
  ⟨some 5, true, .mov (.l 1), none⟩]
def b99_0 : C := .seq (.seq (.region false r99_2) (.cond (.g 9) (.skip) (.exit 0))) (.seq (.block 1 (.seq (.region false r99_3) (.cond (.g 18) (.seq (.region false r99_4) (.ret)) (.skip)))) (.region false r99_5))
def l99_0 : C := .loop [] [] [] [] b99_0
def r99_6 : List Op := [
  ⟨some 4, true, .mov (.c (.int .i64 0)), none⟩]
def c99 : C := .seq (.region false r99_0) (.seq (.seq (.region false r99_1) (.block 0 (l99_0))) (.seq (.region false r99_6) (.ret)))
/-- stratigraph.stratigraphref10.Req -/
def F99 : F := ⟨2, [0, 1, 4, 5, 9, 18], [.t 4], none, c99⟩
attribute [go_sem] r99_0 r99_1 r99_2 r99_3 r99_4 r99_5 b99_0 r99_6 c99 F99
def r100_0 : List Op := [
  ⟨some 3, true, .box (.g 1), none⟩,
  ⟨some 4, true, .mov (.c (.int .i64 0)), none⟩,
  ⟨some 5, true, .mov (.c (.bool false)), none⟩]
def r100_1 : List Op := [
  ⟨some 7, false, .mov (.g 0), none⟩,
  ⟨some 8, false, .fn 105 [.g 3] [3], none⟩,
  ⟨some 9, false, .call (.k 106) .no none [.l 0, .l 1], none⟩,
  ⟨some 6, true, .mov (.l 2), none⟩]
def r100_2 : List Op := [
  ⟨some 10, false, .mov (.g 6), none⟩,
  ⟨some 11, true, .bin .lss (.l 0) (.c (.int .i64 0)), none⟩]
def r100_3 : List Op := [
  ⟨some 12, false, .mov (.g 0), none⟩,
  ⟨some 13, false, .len false (.l 0), none⟩,
  ⟨some 4, true, .mov (.l 1), none⟩,
  ⟨some 5, true, .mov (.c (.bool false)), none⟩]
def r100_4 : List Op := [
  ⟨some 14, false, .mov (.g 6), none⟩,
  ⟨some 15, false, .mov (.g 0), none⟩,
  ⟨some 16, false, .mov (.g 6), none⟩,
  ⟨some 17, false, .iad 11 (.l 1) (.l 2), none⟩,
  ⟨some 18, false, .fad (.l 3) 0, none⟩,
  ⟨some 19, false, .load (.c) none (.l 4), none⟩,
  ⟨some 20, false, .load (.v 3) none (.g 3), none⟩,
  ⟨some 21, false, .bin .eql (.l 5) (.l 6), none⟩,
  ⟨some 4, true, .mov (.l 0), none⟩,
  ⟨some 5, true, .mov (.l 7), none⟩]
def c100 : C := .seq (.region false r100_0) (.seq (.region false r100_1) (.seq (.seq (.region false r100_2) (.cond (.g 11) (.seq (.region false r100_3) (.ret)) (.skip))) (.seq (.region true r100_4) (.ret))))
/-- stratigraph.dedup.find -/
def F100 : F := ⟨2, [0, 1, 3, 4, 5, 6, 11], [.t 4, .t 5], none, c100⟩
attribute [go_sem] r100_0 r100_1 r100_2 r100_3 r100_4 c100 F100
def r101_0 : List Op := [
  ⟨some 2, true, .box (.g 0), none⟩,
  ⟨some 3, true, .box (.g 1), none⟩,
  ⟨some 4, true, .mov (.c (.bool false)), none⟩]
def r101_1 : List Op := [
  ⟨some 6, false, .fad (.g 2) 6, none⟩,
  ⟨some 7, false, .load (.v 2) none (.l 0), none⟩,
  ⟨some 8, false, .len false (.l 1), none⟩,
  ⟨some 9, false, .fad (.g 3) 6, none⟩,
  ⟨some 10, false, .load (.v 3) none (.l 3), none⟩,
  ⟨some 11, false, .len false (.l 4), none⟩,
  ⟨some 12, true, .bin .neq (.l 2) (.l 5), none⟩]
def r101_2 : List Op := [
  ⟨some 4, true, .mov (.c (.bool false)), none⟩]
def r101_3 : List Op := [
  ⟨some 5, true, .mov (.c (.int .i64 0)), none⟩]
def r101_4 : List Op := [
  ⟨some 13, false, .mov (.g 5), none⟩,
  ⟨some 14, false, .fad (.g 2) 6, none⟩,
  ⟨some 15, false, .load (.v 2) none (.l 1), none⟩,
  ⟨some 16, false, .len false (.l 2), none⟩,
  ⟨some 17, true, .bin .lss (.l 0) (.l 3), none⟩]
def r101_5 : List Op := [
  ⟨some 20, false, .fad (.g 2) 6, none⟩,
  ⟨some 21, false, .load (.v 2) none (.l 0), none⟩,
  ⟨some 22, false, .mov (.g 5), none⟩,
  ⟨some 23, false, .iad 2 (.l 1) (.l 2), none⟩,
  ⟨some 24, false, .load (.c) (some 2) (.l 3), none⟩,
  ⟨some 25, false, .fad (.g 3) 6, none⟩,
  ⟨some 26, false, .load (.v 3) none (.l 5), none⟩,
  ⟨some 27, false, .mov (.g 5), none⟩,
  ⟨some 28, false, .iad 2 (.l 6) (.l 7), none⟩,
  ⟨some 29, false, .load (.c) (some 2) (.l 8), none⟩,
  ⟨some 30, true, .eqa true [.s, .s] (.l 4) (.l 9), none⟩]
def r101_6 : List Op := [
  ⟨some 4, true, .mov (.c (.bool false)), none⟩]
def r101_7 : List Op := [
  ⟨some 18, false, .mov (.g 5), none⟩,
  ⟨some 19, false, .bin .add (.l 0) (.c (.int .i64 1)), none⟩,
  ⟨some 5, true, .mov (.l 1), none⟩]
def b101_0 : C := .seq (.seq (.region false r101_4) (.cond (.g 17) (.skip) (.exit 0))) (.seq (.block 1 (.seq (.region true r101_5) (.cond (.g 30) (.seq (.region false r101_6) (.ret)) (.skip)))) (.region false r101_7))
def l101_0 : C := .loop [] [] [] [] b101_0
def r101_8 : List Op := [
  ⟨some 31, false, .fad (.g 2) 0, none⟩,
  ⟨some 32, false, .load (.v 2) none (.l 0), none⟩,
  ⟨some 33, false, .fad (.g 3) 0, none⟩,
  ⟨some 34, false, .load (.v 3) none (.l 2), none⟩,
  ⟨some 35, false, .bin .eql (.l 1) (.l 3), none⟩,
  ⟨some 36, false, .mov (.l 4), none⟩,
  ⟨some 37, false, .fad (.g 2) 1, (some (5, true))⟩,
  ⟨some 38, false, .load (.v 2) (some 3) (.l 6), (some (5, true))⟩,
  ⟨some 39, false, .fad (.g 3) 1, (some (5, true))⟩,
  ⟨some 40, false, .load (.v 3) (some 3) (.l 8), (some (5, true))⟩,
  ⟨some 41, false, .eqa false [.i, .i, .i] (.l 7) (.l 9), (some (5, true))⟩,
  ⟨some 42, false, .pick (.l 5) (.l 10) (.c (.bool false)), none⟩,
  ⟨some 43, false, .mov (.l 11), none⟩,
  ⟨some 44, false, .fad (.g 2) 4, (some (12, true))⟩,
  ⟨some 45, false, .load (.v 2) none (.l 13), (some (12, true))⟩,
  ⟨some 46, false, .fad (.g 3) 4, (some (12, true))⟩,
  ⟨some 47, false, .load (.v 3) none (.l 15), (some (12, true))⟩,
  ⟨some 48, false, .eqb false (.l 14) (.l 16), (some (12, true))⟩,
  ⟨some 49, false, .pick (.l 12) (.l 17) (.c (.bool false)), none⟩,
  ⟨some 50, false, .mov (.l 18), none⟩,
  ⟨some 51, false, .fad (.g 2) 5, (some (19, true))⟩,
  ⟨some 52, false, .load (.v 2) none (.l 20), (some (19, true))⟩,
  ⟨some 53, false, .fad (.g 3) 5, (some (19, true))⟩,
  ⟨some 54, false, .load (.v 3) none (.l 22), (some (19, true))⟩,
  ⟨some 55, false, .bin .eql (.l 21) (.l 23), (some (19, true))⟩,
  ⟨some 56, false, .pick (.l 19) (.l 24) (.c (.bool false)), none⟩,
  ⟨some 57, false, .mov (.l 25), none⟩,
  ⟨some 58, false, .fad (.g 2) 7, (some (26, true))⟩,
  ⟨some 59, false, .load (.v 2) none (.l 27), (some (26, true))⟩,
  ⟨some 60, false, .fad (.g 3) 7, (some (26, true))⟩,
  ⟨some 61, false, .load (.v 3) none (.l 29), (some (26, true))⟩,
  ⟨some 62, false, .bin .eql (.l 28) (.l 30), (some (26, true))⟩,
  ⟨some 63, false, .pick (.l 26) (.l 31) (.c (.bool false)), none⟩,
  ⟨some 64, false, .mov (.l 32), none⟩,
  ⟨some 65, false, .fad (.g 2) 8, (some (33, true))⟩,
  ⟨some 66, false, .load (.v 2) none (.l 34), (some (33, true))⟩,
  ⟨some 67, false, .fad (.g 3) 8, (some (33, true))⟩,
  ⟨some 68, false, .load (.v 3) none (.l 36), (some (33, true))⟩,
  ⟨some 69, false, .eqb false (.l 35) (.l 37), (some (33, true))⟩,
  ⟨some 70, false, .pick (.l 33) (.l 38) (.c (.bool false)), none⟩,
  ⟨some 4, true, .mov (.l 39), none⟩]
def c101 : C := .seq (.region false r101_0) (.seq (.seq (.region false r101_1) (.cond (.g 12) (.seq (.region false r101_2) (.ret)) (.skip))) (.seq (.seq (.region false r101_3) (.block 0 (l101_0))) (.seq (.region false r101_8) (.ret))))
/-- stratigraph.stratigraphref10.SameAnswer -/
def F101 : F := ⟨2, [0, 1, 2, 3, 4, 5, 12, 17, 30], [.t 4], none, c101⟩
attribute [go_sem] r101_0 r101_1 r101_2 r101_3 r101_4 r101_5 r101_6 r101_7 b101_0 r101_8 c101 F101
def r104_0 : List Op := [
  ⟨some 2, true, .mov (.c (.slice 11 [])), none⟩]
def r104_1 : List Op := [
  ⟨some 3, true, .mko 11, none⟩]
def r104_2 : List Op := [
  ⟨some 4, true, .mov (.c (.int .i64 (-1))), none⟩]
def r104_3 : List Op := [
  ⟨some 5, true, .mov (.c (.int .i64 0)), none⟩]
def r104_4 : List Op := [
  ⟨some 6, false, .mov (.g 5), none⟩,
  ⟨some 7, false, .mov (.g 0), none⟩,
  ⟨some 8, false, .len false (.l 1), none⟩,
  ⟨some 9, true, .bin .lss (.l 0) (.l 2), none⟩]
def r104_5 : List Op := [
  ⟨some 12, false, .mov (.g 3), none⟩,
  ⟨some 13, false, .len false (.l 0), none⟩,
  ⟨some 14, false, .bin .eql (.l 1) (.c (.int .i64 0)), none⟩,
  ⟨some 15, false, .mov (.l 2), none⟩,
  ⟨some 16, false, .mov (.g 0), (some (3, false))⟩,
  ⟨some 17, false, .mov (.g 5), (some (3, false))⟩,
  ⟨some 18, false, .iad 11 (.l 4) (.l 5), (some (3, false))⟩,
  ⟨some 19, false, .fad (.l 6) 0, (some (3, false))⟩,
  ⟨some 20, false, .load (.c) none (.l 7), (some (3, false))⟩,
  ⟨some 21, false, .mov (.g 3), (some (3, false))⟩,
  ⟨some 22, false, .mov (.g 3), (some (3, false))⟩,
  ⟨some 23, false, .len false (.l 10), (some (3, false))⟩,
  ⟨some 24, false, .bin .sub (.l 11) (.c (.int .i64 1)), (some (3, false))⟩,
  ⟨some 25, false, .iad 11 (.l 9) (.l 12), (some (3, false))⟩,
  ⟨some 26, false, .fad (.l 13) 0, (some (3, false))⟩,
  ⟨some 27, false, .load (.e 3) none (.l 14), (some (3, false))⟩,
  ⟨some 28, false, .bin .gtr (.l 8) (.l 15), (some (3, false))⟩,
  ⟨some 29, false, .pick (.l 3) (.c (.bool true)) (.l 16), none⟩,
  ⟨some 30, false, .mov (.l 17), none⟩,
  ⟨some 31, false, .mov (.g 4), (some (18, true))⟩,
  ⟨some 32, false, .bin .lss (.l 19) (.c (.int .i64 0)), (some (18, true))⟩,
  ⟨some 33, false, .mov (.l 20), (some (18, true))⟩,
  ⟨some 34, false, .mov (.g 0), (some (21, false))⟩,
  ⟨some 35, false, .mov (.g 5), (some (21, false))⟩,
  ⟨some 36, false, .iad 11 (.l 22) (.l 23), (some (21, false))⟩,
  ⟨some 37, false, .fad (.l 24) 0, (some (21, false))⟩,
  ⟨some 38, false, .load (.c) none (.l 25), (some (21, false))⟩,
  ⟨some 39, false, .mov (.g 0), (some (21, false))⟩,
  ⟨some 40, false, .mov (.g 4), (some (21, false))⟩,
  ⟨some 41, false, .iad 11 (.l 27) (.l 28), (some (21, false))⟩,
  ⟨some 42, false, .fad (.l 29) 0, (some (21, false))⟩,
  ⟨some 43, false, .load (.c) none (.l 30), (some (21, false))⟩,
  ⟨some 44, false, .bin .lss (.l 26) (.l 31), (some (21, false))⟩,
  ⟨some 45, false, .pick (.l 21) (.c (.bool true)) (.l 32), (some (18, true))⟩,
  ⟨some 46, true, .pick (.l 18) (.l 33) (.c (.bool false)), none⟩]
def r104_6 : List Op := [
  ⟨some 47, false, .mov (.g 5), none⟩,
  ⟨some 4, true, .mov (.l 0), none⟩]
def r104_7 : List Op := [
  ⟨some 10, false, .mov (.g 5), none⟩,
  ⟨some 11, false, .bin .add (.l 0) (.c (.int .i64 1)), none⟩,
  ⟨some 5, true, .mov (.l 1), none⟩]
def b104_1 : C := .seq (.seq (.region false r104_4) (.cond (.g 9) (.skip) (.exit 2))) (.seq (.block 3 (.seq (.region true r104_5) (.cond (.g 46) (.region false r104_6) (.skip)))) (.region false r104_7))
def l104_1 : C := .loop [] [] [] [] b104_1
def r104_8 : List Op := [
  ⟨some 48, false, .mov (.g 4), none⟩,
  ⟨some 49, true, .bin .lss (.l 0) (.c (.int .i64 0)), none⟩]
def r104_9 : List Op := [
  ⟨some 50, false, .mov (.g 3), none⟩,
  ⟨some 2, true, .mov (.l 0), none⟩]
def r104_10 : List Op := [
  ⟨some 51, false, .mov (.g 3), none⟩,
  ⟨some 52, false, .mov (.g 0), none⟩,
  ⟨some 53, false, .mov (.g 4), none⟩,
  ⟨some 54, false, .iad 11 (.l 1) (.l 2), none⟩,
  ⟨some 55, false, .load (.c) (some 11) (.l 3), none⟩,
  ⟨some 56, false, .mks 11 1 [.int .i64 0, .int .i64 0, .int .i64 0, .int .i64 0, .int .i64 0, .int .i64 0, .bool false, .str [], .slice 2 [], .str [], .bool false] [(0, .l 4)], none⟩,
  ⟨some 57, false, .app 3 11 (.l 0) (.l 5), none⟩,
  ⟨some 3, true, .mov (.l 6), none⟩]
def b104_0 : C := .block 1 (.seq (.region false r104_2) (.seq (.seq (.region false r104_3) (.block 2 (l104_1))) (.seq (.seq (.region false r104_8) (.cond (.g 49) (.seq (.region false r104_9) (.ret)) (.skip))) (.region false r104_10))))
def l104_0 : C := .loop [] [] [] [] b104_0
def c104 : C := .seq (.region false r104_0) (.seq (.region false r104_1) (.block 0 (l104_0)))
/-- stratigraph.stratigraphref10.sorted -/
def F104 : F := ⟨1, [0, 2, 3, 4, 5, 9, 46, 49], [.t 2], none, c104⟩
attribute [go_sem] r104_0 r104_1 r104_2 r104_3 r104_4 r104_5 r104_6 r104_7 b104_1 r104_8 r104_9 r104_10 b104_0 c104 F104
def r105_0 : List Op := [
  ⟨some 2, true, .box (.g 0), none⟩,
  ⟨some 3, true, .mov (.c (.bool false)), none⟩]
def r105_1 : List Op := [
  ⟨some 4, false, .fad (.g 2) 0, none⟩,
  ⟨some 5, false, .load (.v 2) none (.l 0), none⟩,
  ⟨some 6, false, .load (.c) none (.g 1), none⟩,
  ⟨some 7, false, .bin .geq (.l 1) (.l 2), none⟩,
  ⟨some 3, true, .mov (.l 3), none⟩]
def c105 : C := .seq (.region false r105_0) (.seq (.region false r105_1) (.ret))
/-- stratigraph.dedup.find fn 1 -/
def F105 : F := ⟨2, [0, 1, 2, 3], [.t 3], none, c105⟩
attribute [go_sem] r105_0 r105_1 c105 F105
def r106_0 : List Op := [
  ⟨some 4, true, .mov (.c (.int .i64 0)), none⟩]
def r106_1 : List Op := [
  ⟨some 6, false, .mov (.g 0), none⟩,
  ⟨some 7, true, .len false (.l 0), none⟩,
  ⟨some 8, true, .mov (.c (.int .i64 0)), none⟩]
def r106_2 : List Op := [
  ⟨some 9, true, .bin .lss (.g 8) (.g 7), none⟩]
def r106_3 : List Op := [
  ⟨some 10, false, .mov (.g 8), none⟩,
  ⟨some 5, true, .mov (.l 0), none⟩]
def r106_4 : List Op := [
  ⟨some 11, false, .mov (.g 1), none⟩,
  ⟨some 12, false, .mov (.g 0), none⟩,
  ⟨some 13, false, .mov (.g 5), none⟩,
  ⟨some 14, false, .iad 11 (.l 1) (.l 2), none⟩,
  ⟨some 15, false, .load (.c) (some 11) (.l 3), none⟩,
  ⟨some 16, true, .call (.v (.l 0)) .no none [.l 4], none⟩]
def r106_5 : List Op := [
  ⟨some 17, false, .mov (.g 5), none⟩,
  ⟨some 4, true, .mov (.l 0), none⟩]
def r106_6 : List Op := [
  ⟨some 18, false, .bin .add (.g 8) (.c (.int .i64 1)), none⟩,
  ⟨some 8, true, .mov (.l 0), none⟩]
def b106_0 : C := .seq (.region false r106_2) (.seq (.cond (.g 9) (.skip) (.exit 0)) (.seq (.block 1 (.seq (.region false r106_3) (.seq (.region false r106_4) (.cond (.g 16) (.seq (.region false r106_5) (.ret)) (.skip))))) (.region false r106_6)))
def l106_0 : C := .loop [] [] [] [] b106_0
def r106_7 : List Op := [
  ⟨some 4, true, .mov (.c (.int .i64 (-1))), none⟩]
def c106 : C := .seq (.region false r106_0) (.seq (.seq (.region false r106_1) (.block 0 (l106_0))) (.seq (.region false r106_7) (.ret)))
/-- slices.IndexFunc[[]stratigraph.api.Done,stratigraph.api.Done] -/
def F106 : F := ⟨2, [0, 1, 4, 5, 7, 8, 9, 16], [.t 4], none, c106⟩
attribute [go_sem] r106_0 r106_1 r106_2 r106_3 r106_4 r106_5 r106_6 b106_0 r106_7 c106 F106
end Sg
