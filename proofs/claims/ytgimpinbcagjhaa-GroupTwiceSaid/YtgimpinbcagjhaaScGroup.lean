/- The compact functions, printed by wip/gen/seat.py. -/
import Derived.Test.YtgimpinbcagjhaaSgRun
namespace Sg
open _root_.Go (IntKind BinOp UnOp)

def r33_0 : List Op := [
  ⟨some 4, true, .box (.g 0), none⟩,
  ⟨some 8, true, .mov (.c (.bool false)), none⟩]
def r33_1 : List Op := [
  ⟨some 15, false, .load (.v 4) (some 7) (.g 4), none⟩,
  ⟨some 16, false, .call (.k 34) .no none [.l 0], none⟩,
  ⟨some 17, false, .un .not (.l 1), none⟩,
  ⟨some 18, false, .mov (.l 2), none⟩,
  ⟨some 19, false, .mov (.g 2), (some (3, false))⟩,
  ⟨some 20, false, .len false (.l 4), (some (3, false))⟩,
  ⟨some 21, false, .bin .gtr (.l 5) (.c (.int .i64 100)), (some (3, false))⟩,
  ⟨some 22, true, .pick (.l 3) (.c (.bool true)) (.l 6), none⟩]
def r33_2 : List Op := [
  ⟨some 23, false, .call (.k 35) .no none [], none⟩,
  ⟨some 8, true, .mov (.l 0), none⟩]
def r33_3 : List Op := [
  ⟨some 24, false, .load (.v 4) (some 7) (.g 4), none⟩,
  ⟨some 25, false, .call (.k 36) .no none [.l 0], none⟩,
  ⟨some 26, false, .call (.k 37) .no none [.l 1], none⟩,
  ⟨some 9, true, .mov (.l 2), none⟩]
def r33_4 : List Op := [
  ⟨some 27, false, .mov (.g 9), none⟩,
  ⟨some 28, false, .mov (.l 0), none⟩,
  ⟨some 29, false, .load (.v 4) (some 7) (.g 4), (some (1, true))⟩,
  ⟨some 30, false, .call (.k 36) .no none [.l 2], (some (1, true))⟩,
  ⟨some 31, false, .call (.k 38) .no none [.l 3], (some (1, true))⟩,
  ⟨some 32, false, .pick (.l 1) (.l 4) (.c (.bool false)), none⟩,
  ⟨some 10, true, .mov (.l 5), none⟩]
def r33_5 : List Op := [
  ⟨some 33, false, .load (.v 4) (some 7) (.g 4), none⟩,
  ⟨some 34, false, .call (.k 39) .no none [.l 0], none⟩,
  ⟨some 35, false, .mov (.g 9), none⟩,
  ⟨some 36, false, .eqb true (.l 1) (.l 2), none⟩,
  ⟨some 37, false, .mov (.l 3), none⟩,
  ⟨some 38, false, .load (.v 4) (some 7) (.g 4), (some (4, false))⟩,
  ⟨some 39, false, .call (.k 40) .no none [.l 5], (some (4, false))⟩,
  ⟨some 40, false, .mov (.g 10), (some (4, false))⟩,
  ⟨some 41, false, .eqb true (.l 6) (.l 7), (some (4, false))⟩,
  ⟨some 42, false, .pick (.l 4) (.c (.bool true)) (.l 8), none⟩,
  ⟨some 43, false, .mov (.l 9), none⟩,
  ⟨some 44, false, .load (.v 4) (some 7) (.g 4), (some (10, false))⟩,
  ⟨some 45, false, .call (.k 41) .no none [.l 11], (some (10, false))⟩,
  ⟨some 46, false, .mov (.g 10), (some (10, false))⟩,
  ⟨some 47, false, .mov (.l 13), (some (10, false))⟩,
  ⟨some 48, false, .load (.v 4) (some 7) (.g 4), (some (14, true))⟩,
  ⟨some 49, false, .call (.k 36) .no none [.l 15], (some (14, true))⟩,
  ⟨some 50, false, .call (.k 42) .no none [.l 16], (some (14, true))⟩,
  ⟨some 51, false, .un .not (.l 17), (some (14, true))⟩,
  ⟨some 52, false, .pick (.l 14) (.l 18) (.c (.bool false)), (some (10, false))⟩,
  ⟨some 53, false, .eqb true (.l 12) (.l 19), (some (10, false))⟩,
  ⟨some 54, true, .pick (.l 10) (.c (.bool true)) (.l 20), none⟩]
def r33_6 : List Op := [
  ⟨some 8, true, .mov (.c (.bool false)), none⟩]
def r33_7 : List Op := [
  ⟨some 56, false, .mov (.g 1), none⟩,
  ⟨some 57, false, .mov (.g 2), none⟩,
  ⟨some 58, false, .mov (.g 3), none⟩,
  ⟨some 59, false, .call (.k 43) .no none [.l 0, .l 1, .l 2], none⟩,
  ⟨some 55, false, .mov (.l 3), none⟩,
  ⟨some 60, false, .ext (.l 4) 0, none⟩,
  ⟨some 61, false, .ext (.l 4) 1, none⟩,
  ⟨some 11, true, .alloc [.int .i64 0, .int .i64 0, .slice 1 [], .int .i64 0, .str [], .str [], .slice 1 []], none⟩,
  ⟨none, false, .store (.v 11) 7 (.l 7) (.l 5), none⟩,
  ⟨some 12, true, .mov (.l 6), none⟩]
def r33_8 : List Op := [
  ⟨some 63, false, .mov (.g 1), none⟩,
  ⟨some 64, false, .mov (.g 2), none⟩,
  ⟨some 65, false, .mov (.g 3), none⟩,
  ⟨some 66, false, .call (.k 44) .no none [.l 0, .l 1, .l 2], none⟩,
  ⟨some 62, false, .mov (.l 3), none⟩,
  ⟨some 67, false, .ext (.l 4) 0, none⟩,
  ⟨some 68, false, .ext (.l 4) 1, none⟩,
  ⟨some 13, true, .alloc [.int .i64 0, .int .i64 0, .slice 1 [], .int .i64 0, .str [], .str [], .slice 1 []], none⟩,
  ⟨none, false, .store (.v 13) 7 (.l 7) (.l 5), none⟩,
  ⟨some 14, true, .mov (.l 6), none⟩]
def r33_9 : List Op := [
  ⟨some 69, false, .load (.v 11) (some 7) (.g 11), none⟩,
  ⟨some 70, false, .call (.k 36) .no none [.l 0], none⟩,
  ⟨some 71, false, .load (.v 13) (some 7) (.g 13), none⟩,
  ⟨some 72, false, .call (.k 45) .no none [.l 1, .l 2], none⟩,
  ⟨some 73, false, .mov (.l 3), none⟩,
  ⟨some 74, false, .mov (.g 12), (some (4, true))⟩,
  ⟨some 75, false, .mov (.g 14), (some (4, true))⟩,
  ⟨some 76, false, .bin .eql (.l 5) (.l 6), (some (4, true))⟩,
  ⟨some 77, false, .pick (.l 4) (.l 7) (.c (.bool false)), none⟩,
  ⟨some 78, false, .mov (.l 8), none⟩,
  ⟨some 79, false, .call (.k 35) .no none [], (some (9, true))⟩,
  ⟨some 80, false, .pick (.l 9) (.l 10) (.c (.bool false)), none⟩,
  ⟨some 8, true, .mov (.l 11), none⟩]
def c33 : C := .seq (.region false r33_0) (.seq (.seq (.region false r33_1) (.cond (.g 22) (.seq (.region false r33_2) (.ret)) (.skip))) (.seq (.region false r33_3) (.seq (.region false r33_4) (.seq (.seq (.region false r33_5) (.cond (.g 54) (.seq (.region false r33_6) (.ret)) (.skip))) (.seq (.region false r33_7) (.seq (.region false r33_8) (.seq (.region true r33_9) (.ret))))))))
/-- stratigraph.stratigraphlaw14.GroupRights -/
def F33 : F := ⟨4, [0, 1, 2, 3, 4, 8, 9, 10, 11, 12, 13, 14, 22, 54], [.t 8], none, c33⟩
attribute [go_sem] r33_0 r33_1 r33_2 r33_3 r33_4 r33_5 r33_6 r33_7 r33_8 r33_9 c33 F33
def r46_0 : List Op := [
  ⟨some 2, true, .box (.g 0), none⟩,
  ⟨some 4, true, .mov (.c (.bool false)), none⟩]
def r46_1 : List Op := [
  ⟨some 12, false, .load (.v 2) (some 7) (.g 2), none⟩,
  ⟨some 13, false, .call (.k 34) .no none [.l 0], none⟩,
  ⟨some 14, true, .un .not (.l 1), none⟩]
def r46_2 : List Op := [
  ⟨some 15, false, .call (.k 35) .no none [], none⟩,
  ⟨some 4, true, .mov (.l 0), none⟩]
def r46_3 : List Op := [
  ⟨some 17, false, .load (.v 2) (some 7) (.g 2), none⟩,
  ⟨some 18, false, .mov (.g 1), none⟩,
  ⟨some 19, false, .call (.k 47) .no none [.l 0, .l 1], none⟩,
  ⟨some 16, false, .mov (.l 2), none⟩,
  ⟨some 20, false, .ext (.l 3) 0, none⟩,
  ⟨some 21, false, .ext (.l 3) 1, none⟩,
  ⟨some 22, false, .ext (.l 3) 2, none⟩,
  ⟨some 5, true, .alloc [.int .i64 0, .int .i64 0, .slice 1 [], .int .i64 0, .str [], .str [], .slice 1 []], none⟩,
  ⟨none, false, .store (.v 5) 7 (.l 7) (.l 4), none⟩,
  ⟨some 6, true, .mov (.l 5), none⟩,
  ⟨some 7, true, .mov (.l 6), none⟩]
def r46_4 : List Op := [
  ⟨some 24, false, .load (.v 2) (some 7) (.g 2), none⟩,
  ⟨some 25, false, .call (.k 36) .no none [.l 0], none⟩,
  ⟨some 26, false, .mov (.g 1), none⟩,
  ⟨some 27, false, .call (.k 48) .no none [.l 1, .l 2], none⟩,
  ⟨some 23, false, .mov (.l 3), none⟩,
  ⟨some 28, false, .ext (.l 4) 0, none⟩,
  ⟨some 29, false, .ext (.l 4) 1, none⟩,
  ⟨some 30, false, .ext (.l 4) 2, none⟩,
  ⟨some 8, true, .alloc [.int .i64 0, .int .i64 0, .slice 1 [], .int .i64 0, .str [], .str [], .slice 1 []], none⟩,
  ⟨none, false, .store (.v 8) 7 (.l 8) (.l 5), none⟩,
  ⟨some 9, true, .mov (.l 6), none⟩,
  ⟨some 10, true, .mov (.l 7), none⟩]
def r46_5 : List Op := [
  ⟨some 31, false, .load (.v 5) (some 7) (.g 5), none⟩,
  ⟨some 32, false, .call (.k 36) .no none [.l 0], none⟩,
  ⟨some 33, false, .load (.v 8) (some 7) (.g 8), none⟩,
  ⟨some 34, false, .call (.k 45) .no none [.l 1, .l 2], none⟩,
  ⟨some 35, false, .un .not (.l 3), none⟩,
  ⟨some 36, false, .mov (.l 4), none⟩,
  ⟨some 37, false, .mov (.g 6), (some (5, false))⟩,
  ⟨some 38, false, .call (.k 49) .no none [.l 6], (some (5, false))⟩,
  ⟨some 39, false, .mov (.g 9), (some (5, false))⟩,
  ⟨some 40, false, .call (.k 50) .no none [.l 7, .l 8], (some (5, false))⟩,
  ⟨some 41, false, .un .not (.l 9), (some (5, false))⟩,
  ⟨some 42, false, .pick (.l 5) (.c (.bool true)) (.l 10), none⟩,
  ⟨some 43, false, .mov (.l 11), none⟩,
  ⟨some 44, false, .mov (.g 7), (some (12, false))⟩,
  ⟨some 45, false, .mov (.g 10), (some (12, false))⟩,
  ⟨some 46, false, .bin .neq (.l 13) (.l 14), (some (12, false))⟩,
  ⟨some 47, true, .pick (.l 12) (.c (.bool true)) (.l 15), none⟩]
def r46_6 : List Op := [
  ⟨some 4, true, .mov (.c (.bool false)), none⟩]
def r46_7 : List Op := [
  ⟨some 48, false, .load (.v 2) (some 7) (.g 2), none⟩,
  ⟨some 49, false, .call (.k 51) .no none [.l 0], none⟩,
  ⟨some 11, true, .mov (.l 1), none⟩]
def r46_8 : List Op := [
  ⟨some 50, false, .load (.v 2) (some 7) (.g 2), none⟩,
  ⟨some 51, false, .call (.k 41) .no none [.l 0], none⟩,
  ⟨some 52, true, .un .not (.l 1), none⟩]
def r46_9 : List Op := [
  ⟨some 53, false, .mov (.g 11), none⟩,
  ⟨some 54, false, .len false (.l 0), none⟩,
  ⟨some 55, false, .bin .eql (.l 1) (.c (.int .i64 0)), none⟩,
  ⟨some 56, false, .mov (.l 2), none⟩,
  ⟨some 57, false, .call (.k 35) .no none [], (some (3, true))⟩,
  ⟨some 58, false, .pick (.l 3) (.l 4) (.c (.bool false)), none⟩,
  ⟨some 4, true, .mov (.l 5), none⟩]
def r46_10 : List Op := [
  ⟨some 59, false, .mov (.g 11), none⟩,
  ⟨some 60, false, .call (.k 49) .no none [.l 0], none⟩,
  ⟨some 61, false, .load (.v 2) (some 7) (.g 2), none⟩,
  ⟨some 62, false, .call (.k 36) .no none [.l 2], none⟩,
  ⟨some 63, false, .call (.k 52) .no none [.l 3], none⟩,
  ⟨some 64, false, .call (.k 50) .no none [.l 1, .l 4], none⟩,
  ⟨some 65, false, .mov (.l 5), none⟩,
  ⟨some 66, false, .call (.k 35) .no none [], (some (6, true))⟩,
  ⟨some 67, false, .pick (.l 6) (.l 7) (.c (.bool false)), none⟩,
  ⟨some 4, true, .mov (.l 8), none⟩]
def c46 : C := .seq (.region false r46_0) (.seq (.seq (.region false r46_1) (.cond (.g 14) (.seq (.region false r46_2) (.ret)) (.skip))) (.seq (.region false r46_3) (.seq (.region false r46_4) (.seq (.seq (.region true r46_5) (.cond (.g 47) (.seq (.region false r46_6) (.ret)) (.skip))) (.seq (.region false r46_7) (.seq (.seq (.region false r46_8) (.cond (.g 52) (.seq (.region false r46_9) (.ret)) (.skip))) (.seq (.region true r46_10) (.ret))))))))
/-- stratigraph.stratigraphlaw14.GroupProposes -/
def F46 : F := ⟨2, [0, 1, 2, 4, 5, 6, 7, 8, 9, 10, 11, 14, 47, 52], [.t 4], none, c46⟩
attribute [go_sem] r46_0 r46_1 r46_2 r46_3 r46_4 r46_5 r46_6 r46_7 r46_8 r46_9 r46_10 c46 F46
def r53_0 : List Op := [
  ⟨some 3, true, .box (.g 0), none⟩,
  ⟨some 6, true, .mov (.c (.bool false)), none⟩]
def r53_1 : List Op := [
  ⟨some 13, false, .load (.v 3) (some 7) (.g 3), none⟩,
  ⟨some 14, false, .call (.k 34) .no none [.l 0], none⟩,
  ⟨some 15, false, .un .not (.l 1), none⟩,
  ⟨some 16, false, .mov (.l 2), none⟩,
  ⟨some 17, false, .mov (.g 2), (some (3, false))⟩,
  ⟨some 18, false, .len false (.l 4), (some (3, false))⟩,
  ⟨some 19, false, .bin .gtr (.l 5) (.c (.int .i64 100)), (some (3, false))⟩,
  ⟨some 20, true, .pick (.l 3) (.c (.bool true)) (.l 6), none⟩]
def r53_2 : List Op := [
  ⟨some 21, false, .call (.k 35) .no none [], none⟩,
  ⟨some 6, true, .mov (.l 0), none⟩]
def r53_3 : List Op := [
  ⟨some 23, false, .load (.v 3) (some 7) (.g 3), none⟩,
  ⟨some 24, false, .mov (.g 1), none⟩,
  ⟨some 25, false, .mov (.g 2), none⟩,
  ⟨some 26, false, .call (.k 54) .no none [.l 0, .l 1, .l 2], none⟩,
  ⟨some 22, false, .mov (.l 3), none⟩,
  ⟨some 27, false, .ext (.l 4) 0, none⟩,
  ⟨some 28, false, .ext (.l 4) 1, none⟩,
  ⟨some 29, false, .ext (.l 4) 2, none⟩,
  ⟨some 7, true, .alloc [.int .i64 0, .int .i64 0, .slice 1 [], .int .i64 0, .str [], .str [], .slice 1 []], none⟩,
  ⟨none, false, .store (.v 7) 7 (.l 8) (.l 5), none⟩,
  ⟨some 8, true, .mov (.l 6), none⟩,
  ⟨some 9, true, .mov (.l 7), none⟩]
def r53_4 : List Op := [
  ⟨some 31, false, .load (.v 3) (some 7) (.g 3), none⟩,
  ⟨some 32, false, .call (.k 36) .no none [.l 0], none⟩,
  ⟨some 33, false, .mov (.g 1), none⟩,
  ⟨some 34, false, .mov (.g 2), none⟩,
  ⟨some 35, false, .call (.k 55) .no none [.l 1, .l 2, .l 3], none⟩,
  ⟨some 30, false, .mov (.l 4), none⟩,
  ⟨some 36, false, .ext (.l 5) 0, none⟩,
  ⟨some 37, false, .ext (.l 5) 1, none⟩,
  ⟨some 38, false, .ext (.l 5) 2, none⟩,
  ⟨some 10, true, .alloc [.int .i64 0, .int .i64 0, .slice 1 [], .int .i64 0, .str [], .str [], .slice 1 []], none⟩,
  ⟨none, false, .store (.v 10) 7 (.l 9) (.l 6), none⟩,
  ⟨some 11, true, .mov (.l 7), none⟩,
  ⟨some 12, true, .mov (.l 8), none⟩]
def r53_5 : List Op := [
  ⟨some 39, false, .load (.v 7) (some 7) (.g 7), none⟩,
  ⟨some 40, false, .call (.k 36) .no none [.l 0], none⟩,
  ⟨some 41, false, .load (.v 10) (some 7) (.g 10), none⟩,
  ⟨some 42, false, .call (.k 45) .no none [.l 1, .l 2], none⟩,
  ⟨some 43, false, .mov (.l 3), none⟩,
  ⟨some 44, false, .mov (.g 8), (some (4, true))⟩,
  ⟨some 45, false, .call (.k 49) .no none [.l 5], (some (4, true))⟩,
  ⟨some 46, false, .mov (.g 11), (some (4, true))⟩,
  ⟨some 47, false, .call (.k 50) .no none [.l 6, .l 7], (some (4, true))⟩,
  ⟨some 48, false, .pick (.l 4) (.l 8) (.c (.bool false)), none⟩,
  ⟨some 49, false, .mov (.l 9), none⟩,
  ⟨some 50, false, .mov (.g 9), (some (10, true))⟩,
  ⟨some 51, false, .mov (.g 12), (some (10, true))⟩,
  ⟨some 52, false, .bin .eql (.l 11) (.l 12), (some (10, true))⟩,
  ⟨some 53, false, .pick (.l 10) (.l 13) (.c (.bool false)), none⟩,
  ⟨some 54, false, .mov (.l 14), none⟩,
  ⟨some 55, false, .call (.k 35) .no none [], (some (15, true))⟩,
  ⟨some 56, false, .pick (.l 15) (.l 16) (.c (.bool false)), none⟩,
  ⟨some 6, true, .mov (.l 17), none⟩]
def c53 : C := .seq (.region false r53_0) (.seq (.seq (.region false r53_1) (.cond (.g 20) (.seq (.region false r53_2) (.ret)) (.skip))) (.seq (.region false r53_3) (.seq (.region false r53_4) (.seq (.region true r53_5) (.ret)))))
/-- stratigraph.stratigraphlaw14.GroupLeads -/
def F53 : F := ⟨3, [0, 1, 2, 3, 6, 7, 8, 9, 10, 11, 12, 20], [.t 6], none, c53⟩
attribute [go_sem] r53_0 r53_1 r53_2 r53_3 r53_4 r53_5 c53 F53
def r56_0 : List Op := [
  ⟨some 2, true, .box (.g 0), none⟩,
  ⟨some 3, true, .box (.g 1), none⟩,
  ⟨some 4, true, .mov (.c (.bool false)), none⟩]
def r56_1 : List Op := [
  ⟨some 9, false, .load (.v 2) (some 7) (.g 2), none⟩,
  ⟨some 10, false, .call (.k 34) .no none [.l 0], none⟩,
  ⟨some 11, false, .un .not (.l 1), none⟩,
  ⟨some 12, false, .mov (.l 2), none⟩,
  ⟨some 13, false, .fad (.g 3) 5, (some (3, false))⟩,
  ⟨some 14, false, .load (.v 3) none (.l 4), (some (3, false))⟩,
  ⟨some 15, false, .len false (.l 5), (some (3, false))⟩,
  ⟨some 16, false, .bin .gtr (.l 6) (.c (.int .i64 100)), (some (3, false))⟩,
  ⟨some 17, true, .pick (.l 3) (.c (.bool true)) (.l 7), none⟩]
def r56_2 : List Op := [
  ⟨some 18, false, .call (.k 35) .no none [], none⟩,
  ⟨some 4, true, .mov (.l 0), none⟩]
def r56_3 : List Op := [
  ⟨some 20, false, .load (.v 2) (some 7) (.g 2), none⟩,
  ⟨some 21, false, .load (.v 3) (some 7) (.g 3), none⟩,
  ⟨some 22, false, .call (.k 57) .no none [.l 0, .l 1], none⟩,
  ⟨some 19, false, .mov (.l 2), none⟩,
  ⟨some 23, false, .ext (.l 3) 0, none⟩,
  ⟨some 24, false, .ext (.l 3) 1, none⟩,
  ⟨some 5, true, .alloc [.int .i64 0, .int .i64 0, .slice 1 [], .int .i64 0, .str [], .str [], .slice 1 []], none⟩,
  ⟨none, false, .store (.v 5) 7 (.l 6) (.l 4), none⟩,
  ⟨some 6, true, .mov (.l 5), none⟩]
def r56_4 : List Op := [
  ⟨some 26, false, .load (.v 2) (some 7) (.g 2), none⟩,
  ⟨some 27, false, .call (.k 36) .no none [.l 0], none⟩,
  ⟨some 28, false, .load (.v 3) (some 7) (.g 3), none⟩,
  ⟨some 29, false, .call (.k 58) .no none [.l 1, .l 2], none⟩,
  ⟨some 25, false, .mov (.l 3), none⟩,
  ⟨some 30, false, .ext (.l 4) 0, none⟩,
  ⟨some 31, false, .ext (.l 4) 1, none⟩,
  ⟨some 7, true, .alloc [.int .i64 0, .int .i64 0, .slice 1 [], .int .i64 0, .str [], .str [], .slice 1 []], none⟩,
  ⟨none, false, .store (.v 7) 7 (.l 7) (.l 5), none⟩,
  ⟨some 8, true, .mov (.l 6), none⟩]
def r56_5 : List Op := [
  ⟨some 32, false, .load (.v 5) (some 7) (.g 5), none⟩,
  ⟨some 33, false, .call (.k 36) .no none [.l 0], none⟩,
  ⟨some 34, false, .load (.v 7) (some 7) (.g 7), none⟩,
  ⟨some 35, false, .call (.k 45) .no none [.l 1, .l 2], none⟩,
  ⟨some 36, false, .mov (.l 3), none⟩,
  ⟨some 37, false, .mov (.g 6), (some (4, true))⟩,
  ⟨some 38, false, .call (.k 49) .no none [.l 5], (some (4, true))⟩,
  ⟨some 39, false, .mov (.g 8), (some (4, true))⟩,
  ⟨some 40, false, .call (.k 50) .no none [.l 6, .l 7], (some (4, true))⟩,
  ⟨some 41, false, .pick (.l 4) (.l 8) (.c (.bool false)), none⟩,
  ⟨some 42, false, .mov (.l 9), none⟩,
  ⟨some 43, false, .call (.k 35) .no none [], (some (10, true))⟩,
  ⟨some 44, false, .pick (.l 10) (.l 11) (.c (.bool false)), none⟩,
  ⟨some 4, true, .mov (.l 12), none⟩]
def c56 : C := .seq (.region false r56_0) (.seq (.seq (.region false r56_1) (.cond (.g 17) (.seq (.region false r56_2) (.ret)) (.skip))) (.seq (.region false r56_3) (.seq (.region true r56_4) (.seq (.region true r56_5) (.ret)))))
/-- stratigraph.stratigraphlaw14.GroupHears -/
def F56 : F := ⟨2, [0, 1, 2, 3, 4, 5, 6, 7, 8, 17], [.t 4], none, c56⟩
attribute [go_sem] r56_0 r56_1 r56_2 r56_3 r56_4 r56_5 c56 F56
def r59_0 : List Op := [
  ⟨some 2, true, .box (.g 0), none⟩,
  ⟨some 3, true, .box (.g 1), none⟩,
  ⟨some 4, true, .mov (.c (.bool false)), none⟩]
def r59_1 : List Op := [
  ⟨some 9, false, .load (.v 2) (some 7) (.g 2), none⟩,
  ⟨some 10, false, .call (.k 34) .no none [.l 0], none⟩,
  ⟨some 11, false, .un .not (.l 1), none⟩,
  ⟨some 12, false, .mov (.l 2), none⟩,
  ⟨some 13, false, .fad (.g 3) 5, (some (3, false))⟩,
  ⟨some 14, false, .load (.v 3) none (.l 4), (some (3, false))⟩,
  ⟨some 15, false, .len false (.l 5), (some (3, false))⟩,
  ⟨some 16, false, .bin .gtr (.l 6) (.c (.int .i64 100)), (some (3, false))⟩,
  ⟨some 17, true, .pick (.l 3) (.c (.bool true)) (.l 7), none⟩]
def r59_2 : List Op := [
  ⟨some 18, false, .call (.k 35) .no none [], none⟩,
  ⟨some 4, true, .mov (.l 0), none⟩]
def r59_3 : List Op := [
  ⟨some 20, false, .load (.v 2) (some 7) (.g 2), none⟩,
  ⟨some 21, false, .load (.v 3) (some 7) (.g 3), none⟩,
  ⟨some 22, false, .call (.k 57) .no none [.l 0, .l 1], none⟩,
  ⟨some 19, false, .mov (.l 2), none⟩,
  ⟨some 23, false, .ext (.l 3) 0, none⟩,
  ⟨some 24, false, .ext (.l 3) 1, none⟩,
  ⟨some 5, true, .alloc [.int .i64 0, .int .i64 0, .slice 1 [], .int .i64 0, .str [], .str [], .slice 1 []], none⟩,
  ⟨none, false, .store (.v 5) 7 (.l 6) (.l 4), none⟩,
  ⟨some 6, false, .mov (.l 5), none⟩]
def r59_4 : List Op := [
  ⟨some 26, false, .load (.v 5) (some 7) (.g 5), none⟩,
  ⟨some 27, false, .load (.v 3) (some 7) (.g 3), none⟩,
  ⟨some 28, false, .call (.k 57) .no none [.l 0, .l 1], none⟩,
  ⟨some 25, false, .mov (.l 2), none⟩,
  ⟨some 29, false, .ext (.l 3) 0, none⟩,
  ⟨some 30, false, .ext (.l 3) 1, none⟩,
  ⟨some 7, true, .alloc [.int .i64 0, .int .i64 0, .slice 1 [], .int .i64 0, .str [], .str [], .slice 1 []], none⟩,
  ⟨none, false, .store (.v 7) 7 (.l 6) (.l 4), none⟩,
  ⟨some 8, false, .mov (.l 5), none⟩]
def r59_5 : List Op := [
  ⟨some 31, false, .load (.v 5) (some 7) (.g 5), none⟩,
  ⟨some 32, false, .call (.k 36) .no none [.l 0], none⟩,
  ⟨some 33, false, .load (.v 7) (some 7) (.g 7), none⟩,
  ⟨some 34, false, .call (.k 36) .no none [.l 2], none⟩,
  ⟨some 35, false, .call (.k 45) .no none [.l 1, .l 3], none⟩,
  ⟨some 36, false, .mov (.l 4), none⟩,
  ⟨some 37, false, .call (.k 35) .no none [], (some (5, true))⟩,
  ⟨some 38, false, .pick (.l 5) (.l 6) (.c (.bool false)), none⟩,
  ⟨some 4, true, .mov (.l 7), none⟩]
def c59 : C := .seq (.region false r59_0) (.seq (.seq (.region false r59_1) (.cond (.g 17) (.seq (.region false r59_2) (.ret)) (.skip))) (.seq (.region false r59_3) (.seq (.region false r59_4) (.seq (.region true r59_5) (.ret)))))
/-- stratigraph.stratigraphlaw14.GroupTwice -/
def F59 : F := ⟨2, [0, 1, 2, 3, 4, 5, 7, 17], [.t 4], none, c59⟩
attribute [go_sem] r59_0 r59_1 r59_2 r59_3 r59_4 r59_5 c59 F59
def r34_0 : List Op := [
  ⟨some 1, true, .box (.g 0), none⟩,
  ⟨some 2, true, .mov (.c (.bool false)), none⟩]
def r34_1 : List Op := [
  ⟨some 3, false, .fad (.g 1) 2, none⟩,
  ⟨some 4, false, .load (.v 1) none (.l 0), none⟩,
  ⟨some 5, false, .len false (.l 1), none⟩,
  ⟨some 6, false, .bin .leq (.l 2) (.c (.int .i64 100)), none⟩,
  ⟨some 7, false, .mov (.l 3), none⟩,
  ⟨some 8, false, .fad (.g 1) 6, (some (4, true))⟩,
  ⟨some 9, false, .load (.v 1) none (.l 5), (some (4, true))⟩,
  ⟨some 10, false, .len false (.l 6), (some (4, true))⟩,
  ⟨some 11, false, .bin .leq (.l 7) (.c (.int .i64 100)), (some (4, true))⟩,
  ⟨some 12, false, .pick (.l 4) (.l 8) (.c (.bool false)), none⟩,
  ⟨some 2, true, .mov (.l 9), none⟩]
def c34 : C := .seq (.region false r34_0) (.seq (.region false r34_1) (.ret))
/-- stratigraph.stratigraphlaw14.small -/
def F34 : F := ⟨1, [0, 1, 2], [.t 2], none, c34⟩
attribute [go_sem] r34_0 r34_1 c34 F34
def r35_0 : List Op := [
  ⟨some 0, true, .mov (.c (.bool false)), none⟩]
def r35_1 : List Op := [
  ⟨some 7, false, .mks 1 2 [.int .i64 0] [(0, .c (.int .i64 1)), (1, .c (.int .i64 2))], none⟩,
  ⟨some 8, false, .call (.k 43) .no none [.c (.int .i64 1), .l 0, .c (.str [120])], none⟩,
  ⟨some 6, false, .mov (.l 1), none⟩,
  ⟨some 9, false, .ext (.l 2) 0, none⟩,
  ⟨some 10, false, .ext (.l 2) 1, none⟩,
  ⟨some 1, true, .alloc [.int .i64 0, .int .i64 0, .slice 1 [], .int .i64 0, .str [], .str [], .slice 1 []], none⟩,
  ⟨none, false, .store (.v 1) 7 (.l 5) (.l 3), none⟩,
  ⟨some 2, true, .mov (.l 4), none⟩]
def r35_2 : List Op := [
  ⟨some 12, false, .load (.v 1) (some 7) (.g 1), none⟩,
  ⟨some 13, false, .call (.k 47) .no none [.l 0, .c (.str [121])], none⟩,
  ⟨some 11, false, .mov (.l 1), none⟩,
  ⟨some 14, false, .ext (.l 2) 0, none⟩,
  ⟨some 15, false, .ext (.l 2) 1, none⟩,
  ⟨some 16, false, .ext (.l 2) 2, none⟩,
  ⟨some 3, true, .alloc [.int .i64 0, .int .i64 0, .slice 1 [], .int .i64 0, .str [], .str [], .slice 1 []], none⟩,
  ⟨none, false, .store (.v 3) 7 (.l 6) (.l 3), none⟩,
  ⟨some 4, true, .mov (.l 4), none⟩,
  ⟨some 5, true, .mov (.l 5), none⟩]
def r35_3 : List Op := [
  ⟨some 17, false, .mov (.g 2), none⟩,
  ⟨some 18, false, .bin .eql (.l 0) (.c (.int .i64 0)), none⟩,
  ⟨some 19, false, .mov (.l 1), none⟩,
  ⟨some 20, false, .mov (.g 5), (some (2, true))⟩,
  ⟨some 21, false, .bin .eql (.l 3) (.c (.int .i64 0)), (some (2, true))⟩,
  ⟨some 22, false, .pick (.l 2) (.l 4) (.c (.bool false)), none⟩,
  ⟨some 23, false, .mov (.l 5), none⟩,
  ⟨some 24, false, .mov (.g 4), (some (6, true))⟩,
  ⟨some 25, false, .len false (.l 7), (some (6, true))⟩,
  ⟨some 26, false, .bin .eql (.l 8) (.c (.int .i64 1)), (some (6, true))⟩,
  ⟨some 27, false, .pick (.l 6) (.l 9) (.c (.bool false)), none⟩,
  ⟨some 28, false, .mov (.l 10), none⟩,
  ⟨some 29, false, .mov (.g 4), (some (11, true))⟩,
  ⟨some 30, false, .iad 7 (.l 12) (.c (.int .i64 0)), (some (11, true))⟩,
  ⟨some 31, false, .fad (.l 13) 2, (some (11, true))⟩,
  ⟨some 32, false, .load (.c) none (.l 14), (some (11, true))⟩,
  ⟨some 33, false, .bin .eql (.l 15) (.c (.int .i64 2)), (some (11, true))⟩,
  ⟨some 34, false, .pick (.l 11) (.l 16) (.c (.bool false)), none⟩,
  ⟨some 35, false, .mov (.l 17), none⟩,
  ⟨some 36, false, .mov (.g 4), (some (18, true))⟩,
  ⟨some 37, false, .iad 7 (.l 19) (.c (.int .i64 0)), (some (18, true))⟩,
  ⟨some 38, false, .fad (.l 20) 6, (some (18, true))⟩,
  ⟨some 39, false, .load (.c) none (.l 21), (some (18, true))⟩,
  ⟨some 40, false, .bin .eql (.l 22) (.c (.str [121])), (some (18, true))⟩,
  ⟨some 41, false, .pick (.l 18) (.l 23) (.c (.bool false)), none⟩,
  ⟨some 42, false, .mov (.l 24), none⟩,
  ⟨some 43, false, .fad (.g 3) 4, (some (25, true))⟩,
  ⟨some 44, false, .load (.v 3) none (.l 26), (some (25, true))⟩,
  ⟨some 45, false, .bin .eql (.l 27) (.c (.str [120])), (some (25, true))⟩,
  ⟨some 46, false, .pick (.l 25) (.l 28) (.c (.bool false)), none⟩,
  ⟨some 47, false, .mov (.l 29), none⟩,
  ⟨some 48, false, .load (.v 3) (some 7) (.g 3), (some (30, true))⟩,
  ⟨some 49, false, .call (.k 41) .no none [.l 31], (some (30, true))⟩,
  ⟨some 50, false, .pick (.l 30) (.l 32) (.c (.bool false)), none⟩,
  ⟨some 51, false, .mov (.l 33), none⟩,
  ⟨some 52, false, .load (.v 1) (some 7) (.g 1), (some (34, true))⟩,
  ⟨some 53, false, .call (.k 40) .no none [.l 35], (some (34, true))⟩,
  ⟨some 54, false, .pick (.l 34) (.l 36) (.c (.bool false)), none⟩,
  ⟨some 0, true, .mov (.l 37), none⟩]
def c35 : C := .seq (.region false r35_0) (.seq (.region false r35_1) (.seq (.region false r35_2) (.seq (.region false r35_3) (.ret))))
/-- stratigraph.stratigraphlaw14.awake -/
def F35 : F := ⟨0, [0, 1, 2, 3, 4, 5], [.t 0], none, c35⟩
attribute [go_sem] r35_0 r35_1 r35_2 r35_3 c35 F35
def r36_0 : List Op := [
  ⟨some 1, true, .box (.g 0), none⟩,
  ⟨some 2, true, .alloc [.int .i64 0, .int .i64 0, .slice 1 [], .int .i64 0, .str [], .str [], .slice 1 []], none⟩]
def r36_1 : List Op := [
  ⟨some 3, false, .load (.v 1) (some 7) (.g 1), none⟩,
  ⟨none, false, .store (.v 2) 7 (.g 2) (.l 0), none⟩]
def c36 : C := .seq (.region false r36_0) (.seq (.region false r36_1) (.ret))
/-- stratigraph.stratigraphlaw14.ref -/
def F36 : F := ⟨1, [0, 1, 2], [.cell 2 (some 7)], none, c36⟩
attribute [go_sem] r36_0 r36_1 c36 F36
def r37_0 : List Op := [
  ⟨some 1, true, .box (.g 0), none⟩,
  ⟨some 2, true, .mov (.c (.bool false)), none⟩]
def r37_1 : List Op := [
  ⟨some 4, false, .fad (.g 1) 0, none⟩,
  ⟨some 5, false, .load (.v 1) none (.l 0), none⟩,
  ⟨some 6, false, .bin .lss (.l 1) (.c (.int .i64 1)), none⟩,
  ⟨some 7, false, .mov (.l 2), none⟩,
  ⟨some 8, false, .fad (.g 1) 0, (some (3, false))⟩,
  ⟨some 9, false, .load (.v 1) none (.l 4), (some (3, false))⟩,
  ⟨some 10, false, .bin .gtr (.l 5) (.c (.int .i64 255)), (some (3, false))⟩,
  ⟨some 11, false, .pick (.l 3) (.c (.bool true)) (.l 6), none⟩,
  ⟨some 12, false, .mov (.l 7), none⟩,
  ⟨some 13, false, .fad (.g 1) 1, (some (8, false))⟩,
  ⟨some 14, false, .load (.v 1) none (.l 9), (some (8, false))⟩,
  ⟨some 15, false, .bin .neq (.l 10) (.c (.int .i64 0)), (some (8, false))⟩,
  ⟨some 16, false, .mov (.l 11), (some (8, false))⟩,
  ⟨some 17, false, .fad (.g 1) 1, (some (12, true))⟩,
  ⟨some 18, false, .load (.v 1) none (.l 13), (some (12, true))⟩,
  ⟨some 19, false, .call (.k 60) .no none [.l 14], (some (12, true))⟩,
  ⟨some 20, false, .un .not (.l 15), (some (12, true))⟩,
  ⟨some 21, false, .pick (.l 12) (.l 16) (.c (.bool false)), (some (8, false))⟩,
  ⟨some 22, false, .pick (.l 8) (.c (.bool true)) (.l 17), none⟩,
  ⟨some 23, false, .mov (.l 18), none⟩,
  ⟨some 24, false, .fad (.g 1) 3, (some (19, false))⟩,
  ⟨some 25, false, .load (.v 1) none (.l 20), (some (19, false))⟩,
  ⟨some 26, false, .bin .neq (.l 21) (.c (.int .i64 0)), (some (19, false))⟩,
  ⟨some 27, false, .mov (.l 22), (some (19, false))⟩,
  ⟨some 28, false, .fad (.g 1) 3, (some (23, true))⟩,
  ⟨some 29, false, .load (.v 1) none (.l 24), (some (23, true))⟩,
  ⟨some 30, false, .call (.k 60) .no none [.l 25], (some (23, true))⟩,
  ⟨some 31, false, .un .not (.l 26), (some (23, true))⟩,
  ⟨some 32, false, .pick (.l 23) (.l 27) (.c (.bool false)), (some (19, false))⟩,
  ⟨some 33, false, .pick (.l 19) (.c (.bool true)) (.l 28), none⟩,
  ⟨some 34, false, .mov (.l 29), none⟩,
  ⟨some 35, false, .fad (.g 1) 2, (some (30, false))⟩,
  ⟨some 36, false, .load (.v 1) none (.l 31), (some (30, false))⟩,
  ⟨some 37, false, .call (.k 61) .no none [.l 32], (some (30, false))⟩,
  ⟨some 38, false, .un .not (.l 33), (some (30, false))⟩,
  ⟨some 39, false, .pick (.l 30) (.c (.bool true)) (.l 34), none⟩,
  ⟨some 40, false, .mov (.l 35), none⟩,
  ⟨some 41, false, .fad (.g 1) 6, (some (36, false))⟩,
  ⟨some 42, false, .load (.v 1) none (.l 37), (some (36, false))⟩,
  ⟨some 43, false, .call (.k 61) .no none [.l 38], (some (36, false))⟩,
  ⟨some 44, false, .un .not (.l 39), (some (36, false))⟩,
  ⟨some 45, true, .pick (.l 36) (.c (.bool true)) (.l 40), none⟩]
def r37_2 : List Op := [
  ⟨some 2, true, .mov (.c (.bool false)), none⟩]
def r37_3 : List Op := [
  ⟨some 3, true, .mov (.c (.int .i64 0)), none⟩]
def r37_4 : List Op := [
  ⟨some 46, false, .mov (.g 3), none⟩,
  ⟨some 47, false, .fad (.g 1) 6, none⟩,
  ⟨some 48, false, .load (.v 1) none (.l 1), none⟩,
  ⟨some 49, false, .len false (.l 2), none⟩,
  ⟨some 50, true, .bin .lss (.l 0) (.l 3), none⟩]
def r37_5 : List Op := [
  ⟨some 53, false, .fad (.g 1) 2, none⟩,
  ⟨some 54, false, .load (.v 1) none (.l 0), none⟩,
  ⟨some 55, false, .fad (.g 1) 6, none⟩,
  ⟨some 56, false, .load (.v 1) none (.l 2), none⟩,
  ⟨some 57, false, .mov (.g 3), none⟩,
  ⟨some 58, false, .iad 1 (.l 3) (.l 4), none⟩,
  ⟨some 59, false, .load (.c) none (.l 5), none⟩,
  ⟨some 60, false, .call (.k 62) .no none [.l 1, .l 6], none⟩,
  ⟨some 61, true, .un .not (.l 7), none⟩]
def r37_6 : List Op := [
  ⟨some 2, true, .mov (.c (.bool false)), none⟩]
def r37_7 : List Op := [
  ⟨some 51, false, .mov (.g 3), none⟩,
  ⟨some 52, false, .bin .add (.l 0) (.c (.int .i64 1)), none⟩,
  ⟨some 3, true, .mov (.l 1), none⟩]
def b37_0 : C := .seq (.seq (.region false r37_4) (.cond (.g 50) (.skip) (.exit 0))) (.seq (.block 1 (.seq (.region true r37_5) (.cond (.g 61) (.seq (.region false r37_6) (.ret)) (.skip)))) (.region false r37_7))
def l37_0 : C := .loop [] [] [] [] b37_0
def r37_8 : List Op := [
  ⟨some 62, false, .fad (.g 1) 2, none⟩,
  ⟨some 63, false, .load (.v 1) none (.l 0), none⟩,
  ⟨some 64, false, .len false (.l 1), none⟩,
  ⟨some 65, false, .bin .gtr (.l 2) (.c (.int .i64 0)), none⟩,
  ⟨some 66, false, .mov (.l 3), none⟩,
  ⟨some 67, false, .fad (.g 1) 2, (some (4, true))⟩,
  ⟨some 68, false, .load (.v 1) none (.l 5), (some (4, true))⟩,
  ⟨some 69, false, .fad (.g 1) 0, (some (4, true))⟩,
  ⟨some 70, false, .load (.v 1) none (.l 7), (some (4, true))⟩,
  ⟨some 71, false, .call (.k 62) .no none [.l 6, .l 8], (some (4, true))⟩,
  ⟨some 72, false, .un .not (.l 9), (some (4, true))⟩,
  ⟨some 73, true, .pick (.l 4) (.l 10) (.c (.bool false)), none⟩]
def r37_9 : List Op := [
  ⟨some 2, true, .mov (.c (.bool false)), none⟩]
def r37_10 : List Op := [
  ⟨some 74, false, .load (.v 1) (some 7) (.g 1), none⟩,
  ⟨some 75, false, .call (.k 38) .no none [.l 0], none⟩,
  ⟨some 76, true, .un .not (.l 1), none⟩]
def r37_11 : List Op := [
  ⟨some 77, false, .fad (.g 1) 6, none⟩,
  ⟨some 78, false, .load (.v 1) none (.l 0), none⟩,
  ⟨some 79, false, .len false (.l 1), none⟩,
  ⟨some 80, false, .bin .eql (.l 2) (.c (.int .i64 0)), none⟩,
  ⟨some 81, false, .mov (.l 3), none⟩,
  ⟨some 82, false, .fad (.g 1) 4, (some (4, true))⟩,
  ⟨some 83, false, .load (.v 1) none (.l 5), (some (4, true))⟩,
  ⟨some 84, false, .fad (.g 1) 5, (some (4, true))⟩,
  ⟨some 85, false, .load (.v 1) none (.l 7), (some (4, true))⟩,
  ⟨some 86, false, .bin .eql (.l 6) (.l 8), (some (4, true))⟩,
  ⟨some 87, false, .pick (.l 4) (.l 9) (.c (.bool false)), none⟩,
  ⟨some 2, true, .mov (.l 10), none⟩]
def r37_12 : List Op := [
  ⟨some 88, false, .fad (.g 1) 6, none⟩,
  ⟨some 89, false, .load (.v 1) none (.l 0), none⟩,
  ⟨some 90, false, .fad (.g 1) 0, none⟩,
  ⟨some 91, false, .load (.v 1) none (.l 2), none⟩,
  ⟨some 92, false, .call (.k 62) .no none [.l 1, .l 3], none⟩,
  ⟨some 93, true, .un .not (.l 4), none⟩]
def r37_13 : List Op := [
  ⟨some 2, true, .mov (.c (.bool false)), none⟩]
def r37_14 : List Op := [
  ⟨some 94, false, .load (.v 1) (some 7) (.g 1), none⟩,
  ⟨some 95, false, .call (.k 42) .no none [.l 0], none⟩,
  ⟨some 96, false, .un .not (.l 1), none⟩,
  ⟨some 97, false, .mov (.l 2), none⟩,
  ⟨some 98, false, .fad (.g 1) 4, (some (3, false))⟩,
  ⟨some 99, false, .load (.v 1) none (.l 4), (some (3, false))⟩,
  ⟨some 100, false, .fad (.g 1) 5, (some (3, false))⟩,
  ⟨some 101, false, .load (.v 1) none (.l 6), (some (3, false))⟩,
  ⟨some 102, false, .bin .eql (.l 5) (.l 7), (some (3, false))⟩,
  ⟨some 103, false, .pick (.l 3) (.c (.bool true)) (.l 8), none⟩,
  ⟨some 2, true, .mov (.l 9), none⟩]
def c37 : C := .seq (.region false r37_0) (.seq (.seq (.region false r37_1) (.cond (.g 45) (.seq (.region false r37_2) (.ret)) (.skip))) (.seq (.seq (.region false r37_3) (.block 0 (l37_0))) (.seq (.seq (.region false r37_8) (.cond (.g 73) (.seq (.region false r37_9) (.ret)) (.skip))) (.seq (.seq (.region false r37_10) (.cond (.g 76) (.seq (.region false r37_11) (.ret)) (.skip))) (.seq (.seq (.region false r37_12) (.cond (.g 93) (.seq (.region false r37_13) (.ret)) (.skip))) (.seq (.region false r37_14) (.ret)))))))
/-- stratigraph.stratigraphref14.Right -/
def F37 : F := ⟨1, [0, 1, 2, 3, 45, 50, 61, 73, 76, 93], [.t 2], none, c37⟩
attribute [go_sem] r37_0 r37_1 r37_2 r37_3 r37_4 r37_5 r37_6 r37_7 b37_0 r37_8 r37_9 r37_10 r37_11 r37_12 r37_13 r37_14 c37 F37
def r38_0 : List Op := [
  ⟨some 1, true, .box (.g 0), none⟩,
  ⟨some 2, true, .mov (.c (.bool false)), none⟩]
def r38_1 : List Op := [
  ⟨some 3, false, .fad (.g 1) 2, none⟩,
  ⟨some 4, false, .load (.v 1) none (.l 0), none⟩,
  ⟨some 5, false, .len false (.l 1), none⟩,
  ⟨some 6, false, .bin .gtr (.l 2) (.c (.int .i64 0)), none⟩,
  ⟨some 7, false, .mov (.l 3), none⟩,
  ⟨some 8, false, .fad (.g 1) 2, (some (4, true))⟩,
  ⟨some 9, false, .load (.v 1) none (.l 5), (some (4, true))⟩,
  ⟨some 10, false, .iad 1 (.l 6) (.c (.int .i64 0)), (some (4, true))⟩,
  ⟨some 11, false, .load (.c) none (.l 7), (some (4, true))⟩,
  ⟨some 12, false, .fad (.g 1) 0, (some (4, true))⟩,
  ⟨some 13, false, .load (.v 1) none (.l 9), (some (4, true))⟩,
  ⟨some 14, false, .bin .eql (.l 8) (.l 10), (some (4, true))⟩,
  ⟨some 15, false, .pick (.l 4) (.l 11) (.c (.bool false)), none⟩,
  ⟨some 2, true, .mov (.l 12), none⟩]
def c38 : C := .seq (.region false r38_0) (.seq (.region true r38_1) (.ret))
/-- stratigraph.stratigraphref14.Leads -/
def F38 : F := ⟨1, [0, 1, 2], [.t 2], none, c38⟩
attribute [go_sem] r38_0 r38_1 c38 F38
def r39_0 : List Op := [
  ⟨some 1, true, .box (.g 0), none⟩,
  ⟨some 2, true, .mov (.c (.bool false)), none⟩]
def r39_1 : List Op := [
  ⟨some 3, false, .fad (.g 1) 0, none⟩,
  ⟨some 4, false, .load (.v 1) none (.l 0), none⟩,
  ⟨some 5, false, .bin .lss (.l 1) (.c (.int .i64 1)), none⟩,
  ⟨some 6, false, .mov (.l 2), none⟩,
  ⟨some 7, false, .fad (.g 1) 0, (some (3, false))⟩,
  ⟨some 8, false, .load (.v 1) none (.l 4), (some (3, false))⟩,
  ⟨some 9, false, .bin .gtr (.l 5) (.c (.int .i64 255)), (some (3, false))⟩,
  ⟨some 10, false, .pick (.l 3) (.c (.bool true)) (.l 6), none⟩,
  ⟨some 11, false, .mov (.l 7), none⟩,
  ⟨some 12, false, .fad (.g 1) 1, (some (8, false))⟩,
  ⟨some 13, false, .load (.v 1) none (.l 9), (some (8, false))⟩,
  ⟨some 14, false, .call (.k 63) .no none [.l 10, .c (.int .i64 0)], (some (8, false))⟩,
  ⟨some 15, false, .un .not (.l 11), (some (8, false))⟩,
  ⟨some 16, false, .pick (.l 8) (.c (.bool true)) (.l 12), none⟩,
  ⟨some 17, false, .mov (.l 13), none⟩,
  ⟨some 18, false, .fad (.g 1) 3, (some (14, false))⟩,
  ⟨some 19, false, .load (.v 1) none (.l 15), (some (14, false))⟩,
  ⟨some 20, false, .call (.k 63) .no none [.l 16, .c (.int .i64 0)], (some (14, false))⟩,
  ⟨some 21, false, .un .not (.l 17), (some (14, false))⟩,
  ⟨some 22, false, .pick (.l 14) (.c (.bool true)) (.l 18), none⟩,
  ⟨some 23, false, .mov (.l 19), none⟩,
  ⟨some 24, false, .fad (.g 1) 2, (some (20, false))⟩,
  ⟨some 25, false, .load (.v 1) none (.l 21), (some (20, false))⟩,
  ⟨some 26, false, .call (.k 64) .no none [.l 22], (some (20, false))⟩,
  ⟨some 27, false, .un .not (.l 23), (some (20, false))⟩,
  ⟨some 28, false, .pick (.l 20) (.c (.bool true)) (.l 24), none⟩,
  ⟨some 29, false, .mov (.l 25), none⟩,
  ⟨some 30, false, .fad (.g 1) 6, (some (26, false))⟩,
  ⟨some 31, false, .load (.v 1) none (.l 27), (some (26, false))⟩,
  ⟨some 32, false, .call (.k 64) .no none [.l 28], (some (26, false))⟩,
  ⟨some 33, false, .un .not (.l 29), (some (26, false))⟩,
  ⟨some 34, true, .pick (.l 26) (.c (.bool true)) (.l 30), none⟩]
def r39_2 : List Op := [
  ⟨some 2, true, .mov (.c (.bool false)), none⟩]
def r39_3 : List Op := [
  ⟨some 35, false, .fad (.g 1) 2, none⟩,
  ⟨some 36, false, .load (.v 1) none (.l 0), none⟩,
  ⟨some 37, false, .len false (.l 1), none⟩,
  ⟨some 38, false, .bin .gtr (.l 2) (.c (.int .i64 0)), none⟩,
  ⟨some 39, false, .mov (.l 3), none⟩,
  ⟨some 40, false, .fad (.g 1) 2, (some (4, true))⟩,
  ⟨some 41, false, .load (.v 1) none (.l 5), (some (4, true))⟩,
  ⟨some 42, false, .fad (.g 1) 0, (some (4, true))⟩,
  ⟨some 43, false, .load (.v 1) none (.l 7), (some (4, true))⟩,
  ⟨some 44, false, .call (.k 65) .no none [.l 6, .l 8], (some (4, true))⟩,
  ⟨some 45, false, .un .not (.l 9), (some (4, true))⟩,
  ⟨some 46, true, .pick (.l 4) (.l 10) (.c (.bool false)), none⟩]
def r39_4 : List Op := [
  ⟨some 2, true, .mov (.c (.bool false)), none⟩]
def r39_5 : List Op := [
  ⟨some 47, false, .fad (.g 1) 6, none⟩,
  ⟨some 48, false, .load (.v 1) none (.l 0), none⟩,
  ⟨some 49, false, .fn 66 [.g 1] [1], none⟩,
  ⟨some 50, true, .call (.k 67) .no none [.l 1, .l 2], none⟩]
def r39_6 : List Op := [
  ⟨some 2, true, .mov (.c (.bool false)), none⟩]
def r39_7 : List Op := [
  ⟨some 51, false, .load (.v 1) (some 7) (.g 1), none⟩,
  ⟨some 52, false, .call (.k 68) .no none [.l 0], none⟩,
  ⟨some 53, true, .un .not (.l 1), none⟩]
def r39_8 : List Op := [
  ⟨some 54, false, .fad (.g 1) 6, none⟩,
  ⟨some 55, false, .load (.v 1) none (.l 0), none⟩,
  ⟨some 56, false, .len false (.l 1), none⟩,
  ⟨some 57, false, .bin .eql (.l 2) (.c (.int .i64 0)), none⟩,
  ⟨some 58, false, .mov (.l 3), none⟩,
  ⟨some 59, false, .fad (.g 1) 4, (some (4, true))⟩,
  ⟨some 60, false, .load (.v 1) none (.l 5), (some (4, true))⟩,
  ⟨some 61, false, .fad (.g 1) 5, (some (4, true))⟩,
  ⟨some 62, false, .load (.v 1) none (.l 7), (some (4, true))⟩,
  ⟨some 63, false, .bin .eql (.l 6) (.l 8), (some (4, true))⟩,
  ⟨some 64, false, .pick (.l 4) (.l 9) (.c (.bool false)), none⟩,
  ⟨some 2, true, .mov (.l 10), none⟩]
def r39_9 : List Op := [
  ⟨some 65, false, .fad (.g 1) 6, none⟩,
  ⟨some 66, false, .load (.v 1) none (.l 0), none⟩,
  ⟨some 67, false, .fad (.g 1) 0, none⟩,
  ⟨some 68, false, .load (.v 1) none (.l 2), none⟩,
  ⟨some 69, false, .call (.k 65) .no none [.l 1, .l 3], none⟩,
  ⟨some 70, false, .mov (.l 4), none⟩,
  ⟨some 71, false, .fad (.g 1) 6, (some (5, true))⟩,
  ⟨some 72, false, .load (.v 1) none (.l 6), (some (5, true))⟩,
  ⟨some 73, false, .len false (.l 7), (some (5, true))⟩,
  ⟨some 74, false, .fad (.g 1) 2, (some (5, true))⟩,
  ⟨some 75, false, .load (.v 1) none (.l 9), (some (5, true))⟩,
  ⟨some 76, false, .len false (.l 10), (some (5, true))⟩,
  ⟨some 77, false, .bin .lss (.l 8) (.l 11), (some (5, true))⟩,
  ⟨some 78, false, .mov (.l 12), (some (5, true))⟩,
  ⟨some 79, false, .fad (.g 1) 4, (some (13, false))⟩,
  ⟨some 80, false, .load (.v 1) none (.l 14), (some (13, false))⟩,
  ⟨some 81, false, .fad (.g 1) 5, (some (13, false))⟩,
  ⟨some 82, false, .load (.v 1) none (.l 16), (some (13, false))⟩,
  ⟨some 83, false, .bin .eql (.l 15) (.l 17), (some (13, false))⟩,
  ⟨some 84, false, .pick (.l 13) (.c (.bool true)) (.l 18), (some (5, true))⟩,
  ⟨some 85, false, .pick (.l 5) (.l 19) (.c (.bool false)), none⟩,
  ⟨some 2, true, .mov (.l 20), none⟩]
def c39 : C := .seq (.region false r39_0) (.seq (.seq (.region false r39_1) (.cond (.g 34) (.seq (.region false r39_2) (.ret)) (.skip))) (.seq (.seq (.region false r39_3) (.cond (.g 46) (.seq (.region false r39_4) (.ret)) (.skip))) (.seq (.seq (.region false r39_5) (.cond (.g 50) (.seq (.region false r39_6) (.ret)) (.skip))) (.seq (.seq (.region false r39_7) (.cond (.g 53) (.seq (.region false r39_8) (.ret)) (.skip))) (.seq (.region false r39_9) (.ret))))))
/-- stratigraph.group.Right -/
def F39 : F := ⟨1, [0, 1, 2, 34, 46, 50, 53], [.t 2], none, c39⟩
attribute [go_sem] r39_0 r39_1 r39_2 r39_3 r39_4 r39_5 r39_6 r39_7 r39_8 r39_9 c39 F39
def r40_0 : List Op := [
  ⟨some 1, true, .box (.g 0), none⟩,
  ⟨some 2, true, .mov (.c (.bool false)), none⟩]
def r40_1 : List Op := [
  ⟨some 3, false, .load (.v 1) (some 7) (.g 1), none⟩,
  ⟨some 4, false, .call (.k 39) .no none [.l 0], none⟩,
  ⟨some 5, false, .mov (.l 1), none⟩,
  ⟨some 6, false, .load (.v 1) (some 7) (.g 1), (some (2, true))⟩,
  ⟨some 7, false, .call (.k 68) .no none [.l 3], (some (2, true))⟩,
  ⟨some 8, false, .pick (.l 2) (.l 4) (.c (.bool false)), none⟩,
  ⟨some 2, true, .mov (.l 5), none⟩]
def c40 : C := .seq (.region false r40_0) (.seq (.region false r40_1) (.ret))
/-- stratigraph.group.Leads -/
def F40 : F := ⟨1, [0, 1, 2], [.t 2], none, c40⟩
attribute [go_sem] r40_0 r40_1 c40 F40
def r41_0 : List Op := [
  ⟨some 1, true, .box (.g 0), none⟩,
  ⟨some 2, true, .mov (.c (.bool false)), none⟩]
def r41_1 : List Op := [
  ⟨some 3, false, .load (.v 1) (some 7) (.g 1), none⟩,
  ⟨some 4, false, .call (.k 40) .no none [.l 0], none⟩,
  ⟨some 5, false, .mov (.l 1), none⟩,
  ⟨some 6, false, .fad (.g 1) 6, (some (2, true))⟩,
  ⟨some 7, false, .load (.v 1) none (.l 3), (some (2, true))⟩,
  ⟨some 8, false, .len false (.l 4), (some (2, true))⟩,
  ⟨some 9, false, .fad (.g 1) 2, (some (2, true))⟩,
  ⟨some 10, false, .load (.v 1) none (.l 6), (some (2, true))⟩,
  ⟨some 11, false, .len false (.l 7), (some (2, true))⟩,
  ⟨some 12, false, .bin .lss (.l 5) (.l 8), (some (2, true))⟩,
  ⟨some 13, false, .pick (.l 2) (.l 9) (.c (.bool false)), none⟩,
  ⟨some 2, true, .mov (.l 10), none⟩]
def c41 : C := .seq (.region false r41_0) (.seq (.region false r41_1) (.ret))
/-- stratigraph.group.Busy -/
def F41 : F := ⟨1, [0, 1, 2], [.t 2], none, c41⟩
attribute [go_sem] r41_0 r41_1 c41 F41
def r42_0 : List Op := [
  ⟨some 1, true, .box (.g 0), none⟩,
  ⟨some 2, true, .mov (.c (.bool false)), none⟩]
def r42_1 : List Op := [
  ⟨some 3, true, .mov (.c (.int .i64 0)), none⟩]
def r42_2 : List Op := [
  ⟨some 4, false, .mov (.g 3), none⟩,
  ⟨some 5, false, .fad (.g 1) 2, none⟩,
  ⟨some 6, false, .load (.v 1) none (.l 1), none⟩,
  ⟨some 7, false, .len false (.l 2), none⟩,
  ⟨some 8, true, .bin .lss (.l 0) (.l 3), none⟩]
def r42_3 : List Op := [
  ⟨some 11, false, .fad (.g 1) 6, none⟩,
  ⟨some 12, false, .load (.v 1) none (.l 0), none⟩,
  ⟨some 13, false, .fad (.g 1) 2, none⟩,
  ⟨some 14, false, .load (.v 1) none (.l 2), none⟩,
  ⟨some 15, false, .mov (.g 3), none⟩,
  ⟨some 16, false, .iad 1 (.l 3) (.l 4), none⟩,
  ⟨some 17, false, .load (.c) none (.l 5), none⟩,
  ⟨some 18, false, .call (.k 62) .no none [.l 1, .l 6], none⟩,
  ⟨some 19, true, .un .not (.l 7), none⟩]
def r42_4 : List Op := [
  ⟨some 2, true, .mov (.c (.bool false)), none⟩]
def r42_5 : List Op := [
  ⟨some 9, false, .mov (.g 3), none⟩,
  ⟨some 10, false, .bin .add (.l 0) (.c (.int .i64 1)), none⟩,
  ⟨some 3, true, .mov (.l 1), none⟩]
def b42_0 : C := .seq (.seq (.region false r42_2) (.cond (.g 8) (.skip) (.exit 0))) (.seq (.block 1 (.seq (.region true r42_3) (.cond (.g 19) (.seq (.region false r42_4) (.ret)) (.skip)))) (.region false r42_5))
def l42_0 : C := .loop [] [] [] [] b42_0
def r42_6 : List Op := [
  ⟨some 2, true, .mov (.c (.bool true)), none⟩]
def c42 : C := .seq (.region false r42_0) (.seq (.seq (.region false r42_1) (.block 0 (l42_0))) (.seq (.region false r42_6) (.ret)))
/-- stratigraph.stratigraphref14.All -/
def F42 : F := ⟨1, [0, 1, 2, 3, 8, 19], [.t 2], none, c42⟩
attribute [go_sem] r42_0 r42_1 r42_2 r42_3 r42_4 r42_5 b42_0 r42_6 c42 F42
def r43_0 : List Op := [
  ⟨some 6, true, .alloc [.int .i64 0, .int .i64 0, .slice 1 [], .int .i64 0, .str [], .str [], .slice 1 []], none⟩,
  ⟨some 7, true, .mov (.c (.int .i64 0)), none⟩]
def r43_1 : List Op := [
  ⟨some 9, false, .mov (.g 0), none⟩,
  ⟨some 10, false, .mov (.g 1), none⟩,
  ⟨some 11, false, .call (.k 69) .no none [.l 1], none⟩,
  ⟨some 12, false, .mov (.g 2), none⟩,
  ⟨some 13, false, .mov (.g 2), none⟩,
  ⟨some 14, false, .build [.int .i64 0, .int .i64 0, .slice 1 [], .int .i64 0, .str [], .str [], .slice 1 []] [(0, 1, .l 0), (1, 1, .c (.int .i64 1)), (2, 1, .l 2), (3, 1, .c (.int .i64 1)), (4, 1, .l 3), (5, 1, .l 4)], none⟩,
  ⟨some 8, true, .alloc [.int .i64 0, .int .i64 0, .slice 1 [], .int .i64 0, .str [], .str [], .slice 1 []], none⟩,
  ⟨none, false, .store (.v 8) 7 (.l 6) (.l 5), none⟩]
def r43_2 : List Op := [
  ⟨some 15, false, .load (.v 8) (some 7) (.g 8), none⟩,
  ⟨some 16, true, .call (.k 68) .no none [.l 0], none⟩]
def r43_3 : List Op := [
  ⟨some 17, false, .mov (.g 1), none⟩,
  ⟨some 18, false, .call (.k 69) .no none [.l 0], none⟩,
  ⟨some 19, false, .fad (.g 8) 6, none⟩,
  ⟨none, false, .store (.v 8) 1 (.l 2) (.l 1), none⟩]
def r43_4 : List Op := [
  ⟨some 20, false, .mov (.g 1), none⟩,
  ⟨some 21, false, .len false (.l 0), none⟩,
  ⟨some 22, false, .bin .eql (.l 1) (.c (.int .i64 0)), none⟩,
  ⟨some 23, false, .mov (.l 2), none⟩,
  ⟨some 24, false, .load (.v 8) (some 7) (.g 8), (some (3, false))⟩,
  ⟨some 25, false, .call (.k 39) .no none [.l 4], (some (3, false))⟩,
  ⟨some 26, false, .un .not (.l 5), (some (3, false))⟩,
  ⟨some 27, true, .pick (.l 3) (.c (.bool true)) (.l 6), none⟩]
def r43_5 : List Op := [
  ⟨some 28, false, .build [.int .i64 0, .int .i64 0, .slice 1 [], .int .i64 0, .str [], .str [], .slice 1 []] [], none⟩,
  ⟨none, false, .store (.v 6) 7 (.g 6) (.l 0), none⟩,
  ⟨some 7, true, .mov (.c (.int .i64 1)), none⟩]
def r43_6 : List Op := [
  ⟨some 29, false, .load (.v 8) (some 7) (.g 8), none⟩,
  ⟨none, false, .store (.v 6) 7 (.g 6) (.l 0), none⟩,
  ⟨some 7, true, .mov (.c (.int .i64 0)), none⟩]
def c43 : C := .seq (.region false r43_0) (.seq (.region false r43_1) (.seq (.seq (.region false r43_2) (.cond (.g 16) (.region false r43_3) (.skip))) (.seq (.seq (.region false r43_4) (.cond (.g 27) (.seq (.region false r43_5) (.ret)) (.skip))) (.seq (.region false r43_6) (.ret)))))
/-- stratigraph.group.New -/
def F43 : F := ⟨3, [0, 1, 2, 6, 7, 8, 16, 27], [.cell 6 (some 7), .t 7], none, c43⟩
attribute [go_sem] r43_0 r43_1 r43_2 r43_3 r43_4 r43_5 r43_6 c43 F43
def r44_0 : List Op := [
  ⟨some 6, true, .alloc [.int .i64 0, .int .i64 0, .slice 1 [], .int .i64 0, .str [], .str [], .slice 1 []], none⟩,
  ⟨some 7, true, .mov (.c (.int .i64 0)), none⟩]
def r44_1 : List Op := [
  ⟨some 9, false, .mov (.g 0), none⟩,
  ⟨some 10, false, .bin .lss (.l 0) (.c (.int .i64 1)), none⟩,
  ⟨some 11, false, .mov (.l 1), none⟩,
  ⟨some 12, false, .mov (.g 0), (some (2, false))⟩,
  ⟨some 13, false, .bin .gtr (.l 3) (.c (.int .i64 255)), (some (2, false))⟩,
  ⟨some 14, false, .pick (.l 2) (.c (.bool true)) (.l 4), none⟩,
  ⟨some 15, false, .mov (.l 5), none⟩,
  ⟨some 16, false, .mov (.g 1), (some (6, false))⟩,
  ⟨some 17, false, .call (.k 61) .no none [.l 7], (some (6, false))⟩,
  ⟨some 18, false, .un .not (.l 8), (some (6, false))⟩,
  ⟨some 19, false, .pick (.l 6) (.c (.bool true)) (.l 9), none⟩,
  ⟨some 20, false, .mov (.l 10), none⟩,
  ⟨some 21, false, .mov (.g 1), (some (11, false))⟩,
  ⟨some 22, false, .mov (.g 0), (some (11, false))⟩,
  ⟨some 23, false, .call (.k 62) .no none [.l 12, .l 13], (some (11, false))⟩,
  ⟨some 24, false, .un .not (.l 14), (some (11, false))⟩,
  ⟨some 25, true, .pick (.l 11) (.c (.bool true)) (.l 15), none⟩]
def r44_2 : List Op := [
  ⟨some 26, false, .build [.int .i64 0, .int .i64 0, .slice 1 [], .int .i64 0, .str [], .str [], .slice 1 []] [], none⟩,
  ⟨none, false, .store (.v 6) 7 (.g 6) (.l 0), none⟩,
  ⟨some 7, true, .mov (.c (.int .i64 1)), none⟩]
def r44_3 : List Op := [
  ⟨some 27, false, .mov (.g 0), none⟩,
  ⟨some 28, false, .mov (.g 1), none⟩,
  ⟨some 29, false, .mov (.g 2), none⟩,
  ⟨some 30, false, .mov (.g 2), none⟩,
  ⟨some 31, false, .build [.int .i64 0, .int .i64 0, .slice 1 [], .int .i64 0, .str [], .str [], .slice 1 []] [(0, 1, .l 0), (1, 1, .c (.int .i64 1)), (2, 1, .l 1), (3, 1, .c (.int .i64 1)), (4, 1, .l 2), (5, 1, .l 3)], none⟩,
  ⟨some 8, true, .alloc [.int .i64 0, .int .i64 0, .slice 1 [], .int .i64 0, .str [], .str [], .slice 1 []], none⟩,
  ⟨none, false, .store (.v 8) 7 (.l 5) (.l 4), none⟩]
def r44_4 : List Op := [
  ⟨some 32, false, .mov (.g 1), none⟩,
  ⟨some 33, false, .iad 1 (.l 0) (.c (.int .i64 0)), none⟩,
  ⟨some 34, false, .load (.c) none (.l 1), none⟩,
  ⟨some 35, false, .mov (.g 0), none⟩,
  ⟨some 36, true, .bin .eql (.l 2) (.l 3), none⟩]
def r44_5 : List Op := [
  ⟨some 37, false, .mov (.g 1), none⟩,
  ⟨some 38, false, .fad (.g 8) 6, none⟩,
  ⟨none, false, .store (.v 8) 1 (.l 1) (.l 0), none⟩]
def r44_6 : List Op := [
  ⟨some 39, false, .load (.v 8) (some 7) (.g 8), none⟩,
  ⟨none, false, .store (.v 6) 7 (.g 6) (.l 0), none⟩,
  ⟨some 7, true, .mov (.c (.int .i64 0)), none⟩]
def c44 : C := .seq (.region false r44_0) (.seq (.seq (.region false r44_1) (.cond (.g 25) (.seq (.region false r44_2) (.ret)) (.skip))) (.seq (.region false r44_3) (.seq (.seq (.region false r44_4) (.cond (.g 36) (.region false r44_5) (.skip))) (.seq (.region false r44_6) (.ret)))))
/-- stratigraph.stratigraphref14.New -/
def F44 : F := ⟨3, [0, 1, 2, 6, 7, 8, 25, 36], [.cell 6 (some 7), .t 7], none, c44⟩
attribute [go_sem] r44_0 r44_1 r44_2 r44_3 r44_4 r44_5 r44_6 c44 F44
def r45_0 : List Op := [
  ⟨some 2, true, .box (.g 0), none⟩,
  ⟨some 3, true, .box (.g 1), none⟩,
  ⟨some 4, true, .mov (.c (.bool false)), none⟩]
def r45_1 : List Op := [
  ⟨some 5, false, .fad (.g 2) 0, none⟩,
  ⟨some 6, false, .load (.v 2) none (.l 0), none⟩,
  ⟨some 7, false, .fad (.g 3) 0, none⟩,
  ⟨some 8, false, .load (.v 3) none (.l 2), none⟩,
  ⟨some 9, false, .bin .eql (.l 1) (.l 3), none⟩,
  ⟨some 10, false, .mov (.l 4), none⟩,
  ⟨some 11, false, .fad (.g 2) 1, (some (5, true))⟩,
  ⟨some 12, false, .load (.v 2) none (.l 6), (some (5, true))⟩,
  ⟨some 13, false, .fad (.g 3) 1, (some (5, true))⟩,
  ⟨some 14, false, .load (.v 3) none (.l 8), (some (5, true))⟩,
  ⟨some 15, false, .bin .eql (.l 7) (.l 9), (some (5, true))⟩,
  ⟨some 16, false, .pick (.l 5) (.l 10) (.c (.bool false)), none⟩,
  ⟨some 17, false, .mov (.l 11), none⟩,
  ⟨some 18, false, .fad (.g 2) 2, (some (12, true))⟩,
  ⟨some 19, false, .load (.v 2) none (.l 13), (some (12, true))⟩,
  ⟨some 20, false, .fad (.g 3) 2, (some (12, true))⟩,
  ⟨some 21, false, .load (.v 3) none (.l 15), (some (12, true))⟩,
  ⟨some 22, false, .call (.k 70) .no none [.l 14, .l 16], (some (12, true))⟩,
  ⟨some 23, false, .pick (.l 12) (.l 17) (.c (.bool false)), none⟩,
  ⟨some 24, false, .mov (.l 18), none⟩,
  ⟨some 25, false, .fad (.g 2) 3, (some (19, true))⟩,
  ⟨some 26, false, .load (.v 2) none (.l 20), (some (19, true))⟩,
  ⟨some 27, false, .fad (.g 3) 3, (some (19, true))⟩,
  ⟨some 28, false, .load (.v 3) none (.l 22), (some (19, true))⟩,
  ⟨some 29, false, .bin .eql (.l 21) (.l 23), (some (19, true))⟩,
  ⟨some 30, false, .pick (.l 19) (.l 24) (.c (.bool false)), none⟩,
  ⟨some 31, false, .mov (.l 25), none⟩,
  ⟨some 32, false, .fad (.g 2) 4, (some (26, true))⟩,
  ⟨some 33, false, .load (.v 2) none (.l 27), (some (26, true))⟩,
  ⟨some 34, false, .fad (.g 3) 4, (some (26, true))⟩,
  ⟨some 35, false, .load (.v 3) none (.l 29), (some (26, true))⟩,
  ⟨some 36, false, .bin .eql (.l 28) (.l 30), (some (26, true))⟩,
  ⟨some 37, false, .pick (.l 26) (.l 31) (.c (.bool false)), none⟩,
  ⟨some 38, false, .mov (.l 32), none⟩,
  ⟨some 39, false, .fad (.g 2) 5, (some (33, true))⟩,
  ⟨some 40, false, .load (.v 2) none (.l 34), (some (33, true))⟩,
  ⟨some 41, false, .fad (.g 3) 5, (some (33, true))⟩,
  ⟨some 42, false, .load (.v 3) none (.l 36), (some (33, true))⟩,
  ⟨some 43, false, .bin .eql (.l 35) (.l 37), (some (33, true))⟩,
  ⟨some 44, false, .pick (.l 33) (.l 38) (.c (.bool false)), none⟩,
  ⟨some 45, false, .mov (.l 39), none⟩,
  ⟨some 46, false, .fad (.g 2) 6, (some (40, true))⟩,
  ⟨some 47, false, .load (.v 2) none (.l 41), (some (40, true))⟩,
  ⟨some 48, false, .fad (.g 3) 6, (some (40, true))⟩,
  ⟨some 49, false, .load (.v 3) none (.l 43), (some (40, true))⟩,
  ⟨some 50, false, .call (.k 70) .no none [.l 42, .l 44], (some (40, true))⟩,
  ⟨some 51, false, .pick (.l 40) (.l 45) (.c (.bool false)), none⟩,
  ⟨some 4, true, .mov (.l 46), none⟩]
def c45 : C := .seq (.region false r45_0) (.seq (.region false r45_1) (.ret))
/-- stratigraph.stratigraphref14.Equal -/
def F45 : F := ⟨2, [0, 1, 2, 3, 4], [.t 4], none, c45⟩
attribute [go_sem] r45_0 r45_1 c45 F45
def r47_0 : List Op := [
  ⟨some 2, true, .box (.g 0), none⟩,
  ⟨some 4, true, .alloc [.int .i64 0, .int .i64 0, .slice 1 [], .int .i64 0, .str [], .str [], .slice 1 []], none⟩,
  ⟨some 5, true, .mov (.c (.slice 7 [])), none⟩,
  ⟨some 6, true, .mov (.c (.int .i64 0)), none⟩]
def r47_1 : List Op := [
  ⟨some 8, false, .load (.v 2) (some 7) (.g 2), none⟩,
  ⟨some 9, false, .call (.k 39) .no none [.l 0], none⟩,
  ⟨some 10, false, .un .not (.l 1), none⟩,
  ⟨some 7, true, .mov (.l 2), none⟩]
def r47_2 : List Op := [
  ⟨some 11, false, .build [.int .i64 0, .int .i64 0, .slice 1 [], .int .i64 0, .str [], .str [], .slice 1 []] [], none⟩,
  ⟨none, false, .store (.v 4) 7 (.g 4) (.l 0), none⟩,
  ⟨some 5, true, .mov (.c (.slice 7 [])), none⟩,
  ⟨some 6, true, .mov (.c (.int .i64 1)), none⟩]
def r47_3 : List Op := [
  ⟨some 13, false, .load (.v 2) (some 7) (.g 2), none⟩,
  ⟨some 14, false, .call (.k 68) .no none [.l 0], none⟩,
  ⟨some 15, false, .un .not (.l 1), none⟩,
  ⟨some 12, true, .mov (.l 2), none⟩]
def r47_4 : List Op := [
  ⟨some 16, false, .build [.int .i64 0, .int .i64 0, .slice 1 [], .int .i64 0, .str [], .str [], .slice 1 []] [], none⟩,
  ⟨none, false, .store (.v 4) 7 (.g 4) (.l 0), none⟩,
  ⟨some 5, true, .mov (.c (.slice 7 [])), none⟩,
  ⟨some 6, true, .mov (.c (.int .i64 10)), none⟩]
def r47_5 : List Op := [
  ⟨some 18, false, .load (.v 2) (some 7) (.g 2), none⟩,
  ⟨some 19, false, .call (.k 41) .no none [.l 0], none⟩,
  ⟨some 17, true, .mov (.l 1), none⟩]
def r47_6 : List Op := [
  ⟨some 20, false, .build [.int .i64 0, .int .i64 0, .slice 1 [], .int .i64 0, .str [], .str [], .slice 1 []] [], none⟩,
  ⟨none, false, .store (.v 4) 7 (.g 4) (.l 0), none⟩,
  ⟨some 5, true, .mov (.c (.slice 7 [])), none⟩,
  ⟨some 6, true, .mov (.c (.int .i64 11)), none⟩]
def r47_7 : List Op := [
  ⟨some 22, false, .fad (.g 2) 3, none⟩,
  ⟨some 23, false, .load (.v 2) none (.l 0), none⟩,
  ⟨some 24, false, .bin .eql (.l 1) (.c (.int .i64 1099511627776)), none⟩,
  ⟨some 21, true, .mov (.l 2), none⟩]
def r47_8 : List Op := [
  ⟨some 25, false, .build [.int .i64 0, .int .i64 0, .slice 1 [], .int .i64 0, .str [], .str [], .slice 1 []] [], none⟩,
  ⟨none, false, .store (.v 4) 7 (.g 4) (.l 0), none⟩,
  ⟨some 5, true, .mov (.c (.slice 7 [])), none⟩,
  ⟨some 6, true, .mov (.c (.int .i64 6)), none⟩]
def r47_9 : List Op := [
  ⟨some 26, false, .fad (.g 2) 3, none⟩,
  ⟨some 27, false, .load (.v 2) none (.l 0), none⟩,
  ⟨some 28, false, .bin .add (.l 1) (.c (.int .i64 1)), none⟩,
  ⟨some 29, false, .fad (.g 2) 3, none⟩,
  ⟨none, false, .store (.v 2) 1 (.l 3) (.l 2), none⟩]
def r47_10 : List Op := [
  ⟨some 30, false, .mov (.g 1), none⟩,
  ⟨some 31, false, .fad (.g 2) 0, none⟩,
  ⟨some 32, false, .load (.v 2) none (.l 1), none⟩,
  ⟨some 33, false, .mks 1 1 [.int .i64 0] [(0, .l 2)], none⟩,
  ⟨some 34, false, .fad (.g 2) 5, none⟩,
  ⟨none, false, .store (.v 2) 1 (.l 4) (.l 0), none⟩,
  ⟨some 35, false, .fad (.g 2) 6, none⟩,
  ⟨none, false, .store (.v 2) 1 (.l 6) (.l 3), none⟩]
def r47_11 : List Op := [
  ⟨some 36, false, .load (.v 2) (some 7) (.g 2), none⟩,
  ⟨some 37, false, .call (.k 71) .no none [.l 0], none⟩,
  ⟨some 38, false, .load (.v 2) (some 7) (.g 2), none⟩,
  ⟨some 39, false, .call (.k 72) .no none [.l 2], none⟩,
  ⟨none, false, .store (.v 4) 7 (.g 4) (.l 1), none⟩,
  ⟨some 5, true, .mov (.l 3), none⟩,
  ⟨some 6, true, .mov (.c (.int .i64 0)), none⟩]
def c47 : C := .seq (.region false r47_0) (.seq (.block 0 (.seq (.region false r47_1) (.cond (.g 7) (.seq (.region false r47_2) (.ret)) (.seq (.region false r47_3) (.cond (.g 12) (.seq (.region false r47_4) (.ret)) (.seq (.region false r47_5) (.cond (.g 17) (.seq (.region false r47_6) (.ret)) (.seq (.region false r47_7) (.cond (.g 21) (.seq (.region false r47_8) (.ret)) (.skip)))))))))) (.seq (.region false r47_9) (.seq (.region false r47_10) (.seq (.region true r47_11) (.ret)))))
/-- stratigraph.group.Propose -/
def F47 : F := ⟨2, [0, 1, 2, 4, 5, 6, 7, 12, 17, 21], [.cell 4 (some 7), .t 5, .t 6], none, c47⟩
attribute [go_sem] r47_0 r47_1 r47_2 r47_3 r47_4 r47_5 r47_6 r47_7 r47_8 r47_9 r47_10 r47_11 c47 F47
def r48_0 : List Op := [
  ⟨some 2, true, .box (.g 0), none⟩,
  ⟨some 4, true, .alloc [.int .i64 0, .int .i64 0, .slice 1 [], .int .i64 0, .str [], .str [], .slice 1 []], none⟩,
  ⟨some 5, true, .mov (.c (.slice 7 [])), none⟩,
  ⟨some 6, true, .mov (.c (.int .i64 0)), none⟩]
def r48_1 : List Op := [
  ⟨some 7, false, .load (.v 2) (some 7) (.g 2), none⟩,
  ⟨some 8, false, .call (.k 37) .no none [.l 0], none⟩,
  ⟨some 9, true, .un .not (.l 1), none⟩]
def r48_2 : List Op := [
  ⟨some 10, false, .build [.int .i64 0, .int .i64 0, .slice 1 [], .int .i64 0, .str [], .str [], .slice 1 []] [], none⟩,
  ⟨none, false, .store (.v 4) 7 (.g 4) (.l 0), none⟩,
  ⟨some 5, true, .mov (.c (.slice 7 [])), none⟩,
  ⟨some 6, true, .mov (.c (.int .i64 1)), none⟩]
def r48_3 : List Op := [
  ⟨some 11, false, .load (.v 2) (some 7) (.g 2), none⟩,
  ⟨some 12, false, .call (.k 38) .no none [.l 0], none⟩,
  ⟨some 13, true, .un .not (.l 1), none⟩]
def r48_4 : List Op := [
  ⟨some 14, false, .build [.int .i64 0, .int .i64 0, .slice 1 [], .int .i64 0, .str [], .str [], .slice 1 []] [], none⟩,
  ⟨none, false, .store (.v 4) 7 (.g 4) (.l 0), none⟩,
  ⟨some 5, true, .mov (.c (.slice 7 [])), none⟩,
  ⟨some 6, true, .mov (.c (.int .i64 10)), none⟩]
def r48_5 : List Op := [
  ⟨some 15, false, .load (.v 2) (some 7) (.g 2), none⟩,
  ⟨some 16, false, .call (.k 42) .no none [.l 0], none⟩,
  ⟨some 17, true, .un .not (.l 1), none⟩]
def r48_6 : List Op := [
  ⟨some 18, false, .build [.int .i64 0, .int .i64 0, .slice 1 [], .int .i64 0, .str [], .str [], .slice 1 []] [], none⟩,
  ⟨none, false, .store (.v 4) 7 (.g 4) (.l 0), none⟩,
  ⟨some 5, true, .mov (.c (.slice 7 [])), none⟩,
  ⟨some 6, true, .mov (.c (.int .i64 11)), none⟩]
def r48_7 : List Op := [
  ⟨some 19, false, .fad (.g 2) 3, none⟩,
  ⟨some 20, false, .load (.v 2) none (.l 0), none⟩,
  ⟨some 21, true, .bin .geq (.l 1) (.c (.int .i64 1099511627776)), none⟩]
def r48_8 : List Op := [
  ⟨some 22, false, .build [.int .i64 0, .int .i64 0, .slice 1 [], .int .i64 0, .str [], .str [], .slice 1 []] [], none⟩,
  ⟨none, false, .store (.v 4) 7 (.g 4) (.l 0), none⟩,
  ⟨some 5, true, .mov (.c (.slice 7 [])), none⟩,
  ⟨some 6, true, .mov (.c (.int .i64 6)), none⟩]
def r48_9 : List Op := [
  ⟨some 23, false, .fad (.g 2) 3, none⟩,
  ⟨some 24, false, .load (.v 2) none (.l 0), none⟩,
  ⟨some 25, false, .bin .add (.l 1) (.c (.int .i64 1)), none⟩,
  ⟨some 26, false, .mov (.g 1), none⟩,
  ⟨some 27, false, .fad (.g 2) 0, none⟩,
  ⟨some 28, false, .load (.v 2) none (.l 4), none⟩,
  ⟨some 29, false, .mks 1 1 [.int .i64 0] [(0, .l 5)], none⟩,
  ⟨some 30, false, .fad (.g 2) 3, none⟩,
  ⟨none, false, .store (.v 2) 1 (.l 7) (.l 2), none⟩,
  ⟨some 31, false, .fad (.g 2) 5, none⟩,
  ⟨none, false, .store (.v 2) 1 (.l 9) (.l 3), none⟩,
  ⟨some 32, false, .fad (.g 2) 6, none⟩,
  ⟨none, false, .store (.v 2) 1 (.l 11) (.l 6), none⟩]
def r48_10 : List Op := [
  ⟨some 33, false, .fad (.g 2) 2, none⟩,
  ⟨some 34, false, .load (.v 2) none (.l 0), none⟩,
  ⟨some 35, false, .len false (.l 1), none⟩,
  ⟨some 36, true, .bin .eql (.l 2) (.c (.int .i64 1)), none⟩]
def r48_11 : List Op := [
  ⟨some 37, false, .mov (.g 1), none⟩,
  ⟨some 38, false, .fad (.g 2) 4, none⟩,
  ⟨none, false, .store (.v 2) 1 (.l 1) (.l 0), none⟩]
def r48_12 : List Op := [
  ⟨some 39, false, .load (.v 2) (some 7) (.g 2), none⟩,
  ⟨some 40, false, .load (.v 2) (some 7) (.g 2), none⟩,
  ⟨some 41, false, .call (.k 52) .no none [.l 1], none⟩,
  ⟨none, false, .store (.v 4) 7 (.g 4) (.l 0), none⟩,
  ⟨some 5, true, .mov (.l 2), none⟩,
  ⟨some 6, true, .mov (.c (.int .i64 0)), none⟩]
def c48 : C := .seq (.region false r48_0) (.seq (.seq (.region false r48_1) (.cond (.g 9) (.seq (.region false r48_2) (.ret)) (.skip))) (.seq (.seq (.region false r48_3) (.cond (.g 13) (.seq (.region false r48_4) (.ret)) (.skip))) (.seq (.seq (.region false r48_5) (.cond (.g 17) (.seq (.region false r48_6) (.ret)) (.skip))) (.seq (.seq (.region false r48_7) (.cond (.g 21) (.seq (.region false r48_8) (.ret)) (.skip))) (.seq (.region false r48_9) (.seq (.seq (.region false r48_10) (.cond (.g 36) (.region false r48_11) (.skip))) (.seq (.region true r48_12) (.ret))))))))
/-- stratigraph.stratigraphref14.Propose -/
def F48 : F := ⟨2, [0, 1, 2, 4, 5, 6, 9, 13, 17, 21, 36], [.cell 4 (some 7), .t 5, .t 6], none, c48⟩
attribute [go_sem] r48_0 r48_1 r48_2 r48_3 r48_4 r48_5 r48_6 r48_7 r48_8 r48_9 r48_10 r48_11 r48_12 c48 F48
def r49_0 : List Op := [
  ⟨some 2, true, .mov (.c (.slice 7 [])), none⟩]
def r49_1 : List Op := [
  ⟨some 3, true, .mko 7, none⟩]
def r49_2 : List Op := [
  ⟨some 6, true, .mov (.g 0), none⟩,
  ⟨some 7, true, .len false (.l 0), none⟩,
  ⟨some 8, true, .mov (.c (.int .i64 0)), none⟩]
def r49_3 : List Op := [
  ⟨some 9, true, .bin .lss (.g 8) (.g 7), none⟩]
def r49_4 : List Op := [
  ⟨some 10, false, .iad 7 (.g 6) (.g 8), none⟩,
  ⟨some 11, false, .load (.c) (some 7) (.l 0), none⟩,
  ⟨some 5, true, .alloc [.int .i64 0, .int .i64 0, .int .i64 0, .int .i64 0, .int .i64 0, .slice 1 [], .str []], none⟩,
  ⟨none, false, .store (.v 5) 7 (.l 2) (.l 1), none⟩]
def r49_5 : List Op := [
  ⟨some 12, false, .mov (.g 3), none⟩,
  ⟨some 13, false, .load (.v 5) (some 7) (.g 5), none⟩,
  ⟨some 14, false, .mks 7 1 [.int .i64 0, .int .i64 0, .int .i64 0, .int .i64 0, .int .i64 0, .slice 1 [], .str []] [(0, .l 1)], none⟩,
  ⟨some 15, false, .app 3 7 (.l 0) (.l 2), none⟩,
  ⟨some 3, true, .mov (.l 3), none⟩]
def r49_6 : List Op := [
  ⟨some 16, false, .bin .add (.g 8) (.c (.int .i64 1)), none⟩,
  ⟨some 8, true, .mov (.l 0), none⟩]
def b49_0 : C := .seq (.region false r49_3) (.seq (.cond (.g 9) (.skip) (.exit 0)) (.seq (.block 1 (.seq (.region false r49_4) (.region false r49_5))) (.region false r49_6)))
def l49_0 : C := .loop [] [] [5] [] b49_0
def r49_7 : List Op := [
  ⟨some 17, false, .mov (.g 3), none⟩,
  ⟨some 2, true, .mov (.l 0), none⟩]
def c49 : C := .seq (.region false r49_0) (.seq (.region false r49_1) (.seq (.seq (.region false r49_2) (.block 0 (l49_0))) (.seq (.region false r49_7) (.ret))))
/-- stratigraph.stratigraphlaw14.words -/
def F49 : F := ⟨1, [0, 2, 3, 5, 6, 7, 8, 9], [.t 2], none, c49⟩
attribute [go_sem] r49_0 r49_1 r49_2 r49_3 r49_4 r49_5 r49_6 b49_0 r49_7 c49 F49
def r50_0 : List Op := [
  ⟨some 4, true, .mov (.c (.bool false)), none⟩]
def r50_1 : List Op := [
  ⟨some 6, false, .mov (.g 0), none⟩,
  ⟨some 7, false, .len false (.l 0), none⟩,
  ⟨some 8, false, .mov (.g 1), none⟩,
  ⟨some 9, false, .len false (.l 2), none⟩,
  ⟨some 10, true, .bin .neq (.l 1) (.l 3), none⟩]
def r50_2 : List Op := [
  ⟨some 4, true, .mov (.c (.bool false)), none⟩]
def r50_3 : List Op := [
  ⟨some 5, true, .mov (.c (.int .i64 0)), none⟩]
def r50_4 : List Op := [
  ⟨some 11, false, .mov (.g 5), none⟩,
  ⟨some 12, false, .mov (.g 0), none⟩,
  ⟨some 13, false, .len false (.l 1), none⟩,
  ⟨some 14, true, .bin .lss (.l 0) (.l 2), none⟩]
def r50_5 : List Op := [
  ⟨some 17, false, .mov (.g 0), none⟩,
  ⟨some 18, false, .mov (.g 5), none⟩,
  ⟨some 19, false, .iad 7 (.l 0) (.l 1), none⟩,
  ⟨some 20, false, .fad (.l 2) 0, none⟩,
  ⟨some 21, false, .load (.c) none (.l 3), none⟩,
  ⟨some 22, false, .mov (.g 1), none⟩,
  ⟨some 23, false, .mov (.g 5), none⟩,
  ⟨some 24, false, .iad 7 (.l 5) (.l 6), none⟩,
  ⟨some 25, false, .fad (.l 7) 0, none⟩,
  ⟨some 26, false, .load (.c) none (.l 8), none⟩,
  ⟨some 27, false, .bin .neq (.l 4) (.l 9), none⟩,
  ⟨some 28, false, .mov (.l 10), none⟩,
  ⟨some 29, false, .mov (.g 0), (some (11, false))⟩,
  ⟨some 30, false, .mov (.g 5), (some (11, false))⟩,
  ⟨some 31, false, .iad 7 (.l 12) (.l 13), (some (11, false))⟩,
  ⟨some 32, false, .fad (.l 14) 1, (some (11, false))⟩,
  ⟨some 33, false, .load (.c) none (.l 15), (some (11, false))⟩,
  ⟨some 34, false, .mov (.g 1), (some (11, false))⟩,
  ⟨some 35, false, .mov (.g 5), (some (11, false))⟩,
  ⟨some 36, false, .iad 7 (.l 17) (.l 18), (some (11, false))⟩,
  ⟨some 37, false, .fad (.l 19) 1, (some (11, false))⟩,
  ⟨some 38, false, .load (.c) none (.l 20), (some (11, false))⟩,
  ⟨some 39, false, .bin .neq (.l 16) (.l 21), (some (11, false))⟩,
  ⟨some 40, false, .pick (.l 11) (.c (.bool true)) (.l 22), none⟩,
  ⟨some 41, false, .mov (.l 23), none⟩,
  ⟨some 42, false, .mov (.g 0), (some (24, false))⟩,
  ⟨some 43, false, .mov (.g 5), (some (24, false))⟩,
  ⟨some 44, false, .iad 7 (.l 25) (.l 26), (some (24, false))⟩,
  ⟨some 45, false, .fad (.l 27) 2, (some (24, false))⟩,
  ⟨some 46, false, .load (.c) none (.l 28), (some (24, false))⟩,
  ⟨some 47, false, .mov (.g 1), (some (24, false))⟩,
  ⟨some 48, false, .mov (.g 5), (some (24, false))⟩,
  ⟨some 49, false, .iad 7 (.l 30) (.l 31), (some (24, false))⟩,
  ⟨some 50, false, .fad (.l 32) 2, (some (24, false))⟩,
  ⟨some 51, false, .load (.c) none (.l 33), (some (24, false))⟩,
  ⟨some 52, false, .bin .neq (.l 29) (.l 34), (some (24, false))⟩,
  ⟨some 53, false, .pick (.l 24) (.c (.bool true)) (.l 35), none⟩,
  ⟨some 54, false, .mov (.l 36), none⟩,
  ⟨some 55, false, .mov (.g 0), (some (37, false))⟩,
  ⟨some 56, false, .mov (.g 5), (some (37, false))⟩,
  ⟨some 57, false, .iad 7 (.l 38) (.l 39), (some (37, false))⟩,
  ⟨some 58, false, .fad (.l 40) 3, (some (37, false))⟩,
  ⟨some 59, false, .load (.c) none (.l 41), (some (37, false))⟩,
  ⟨some 60, false, .mov (.g 1), (some (37, false))⟩,
  ⟨some 61, false, .mov (.g 5), (some (37, false))⟩,
  ⟨some 62, false, .iad 7 (.l 43) (.l 44), (some (37, false))⟩,
  ⟨some 63, false, .fad (.l 45) 3, (some (37, false))⟩,
  ⟨some 64, false, .load (.c) none (.l 46), (some (37, false))⟩,
  ⟨some 65, false, .bin .neq (.l 42) (.l 47), (some (37, false))⟩,
  ⟨some 66, false, .pick (.l 37) (.c (.bool true)) (.l 48), none⟩,
  ⟨some 67, false, .mov (.l 49), none⟩,
  ⟨some 68, false, .mov (.g 0), (some (50, false))⟩,
  ⟨some 69, false, .mov (.g 5), (some (50, false))⟩,
  ⟨some 70, false, .iad 7 (.l 51) (.l 52), (some (50, false))⟩,
  ⟨some 71, false, .fad (.l 53) 4, (some (50, false))⟩,
  ⟨some 72, false, .load (.c) none (.l 54), (some (50, false))⟩,
  ⟨some 73, false, .mov (.g 1), (some (50, false))⟩,
  ⟨some 74, false, .mov (.g 5), (some (50, false))⟩,
  ⟨some 75, false, .iad 7 (.l 56) (.l 57), (some (50, false))⟩,
  ⟨some 76, false, .fad (.l 58) 4, (some (50, false))⟩,
  ⟨some 77, false, .load (.c) none (.l 59), (some (50, false))⟩,
  ⟨some 78, false, .bin .neq (.l 55) (.l 60), (some (50, false))⟩,
  ⟨some 79, false, .pick (.l 50) (.c (.bool true)) (.l 61), none⟩,
  ⟨some 80, false, .mov (.l 62), none⟩,
  ⟨some 81, false, .mov (.g 0), (some (63, false))⟩,
  ⟨some 82, false, .mov (.g 5), (some (63, false))⟩,
  ⟨some 83, false, .iad 7 (.l 64) (.l 65), (some (63, false))⟩,
  ⟨some 84, false, .fad (.l 66) 5, (some (63, false))⟩,
  ⟨some 85, false, .load (.c) none (.l 67), (some (63, false))⟩,
  ⟨some 86, false, .mov (.g 1), (some (63, false))⟩,
  ⟨some 87, false, .mov (.g 5), (some (63, false))⟩,
  ⟨some 88, false, .iad 7 (.l 69) (.l 70), (some (63, false))⟩,
  ⟨some 89, false, .fad (.l 71) 5, (some (63, false))⟩,
  ⟨some 90, false, .load (.c) none (.l 72), (some (63, false))⟩,
  ⟨some 91, false, .call (.k 70) .no none [.l 68, .l 73], (some (63, false))⟩,
  ⟨some 92, false, .un .not (.l 74), (some (63, false))⟩,
  ⟨some 93, false, .pick (.l 63) (.c (.bool true)) (.l 75), none⟩,
  ⟨some 94, false, .mov (.l 76), none⟩,
  ⟨some 95, false, .mov (.g 0), (some (77, false))⟩,
  ⟨some 96, false, .mov (.g 5), (some (77, false))⟩,
  ⟨some 97, false, .iad 7 (.l 78) (.l 79), (some (77, false))⟩,
  ⟨some 98, false, .fad (.l 80) 6, (some (77, false))⟩,
  ⟨some 99, false, .load (.c) none (.l 81), (some (77, false))⟩,
  ⟨some 100, false, .mov (.g 1), (some (77, false))⟩,
  ⟨some 101, false, .mov (.g 5), (some (77, false))⟩,
  ⟨some 102, false, .iad 7 (.l 83) (.l 84), (some (77, false))⟩,
  ⟨some 103, false, .fad (.l 85) 6, (some (77, false))⟩,
  ⟨some 104, false, .load (.c) none (.l 86), (some (77, false))⟩,
  ⟨some 105, false, .bin .neq (.l 82) (.l 87), (some (77, false))⟩,
  ⟨some 106, true, .pick (.l 77) (.c (.bool true)) (.l 88), none⟩]
def r50_6 : List Op := [
  ⟨some 4, true, .mov (.c (.bool false)), none⟩]
def r50_7 : List Op := [
  ⟨some 15, false, .mov (.g 5), none⟩,
  ⟨some 16, false, .bin .add (.l 0) (.c (.int .i64 1)), none⟩,
  ⟨some 5, true, .mov (.l 1), none⟩]
def b50_0 : C := .seq (.seq (.region false r50_4) (.cond (.g 14) (.skip) (.exit 0))) (.seq (.block 1 (.seq (.region true r50_5) (.cond (.g 106) (.seq (.region false r50_6) (.ret)) (.skip)))) (.region false r50_7))
def l50_0 : C := .loop [] [] [] [] b50_0
def r50_8 : List Op := [
  ⟨some 4, true, .mov (.c (.bool true)), none⟩]
def c50 : C := .seq (.region false r50_0) (.seq (.seq (.region false r50_1) (.cond (.g 10) (.seq (.region false r50_2) (.ret)) (.skip))) (.seq (.seq (.region false r50_3) (.block 0 (l50_0))) (.seq (.region false r50_8) (.ret))))
/-- stratigraph.stratigraphref14.Said -/
def F50 : F := ⟨2, [0, 1, 4, 5, 10, 14, 106], [.t 4], none, c50⟩
attribute [go_sem] r50_0 r50_1 r50_2 r50_3 r50_4 r50_5 r50_6 r50_7 b50_0 r50_8 c50 F50
def r51_0 : List Op := [
  ⟨some 1, true, .box (.g 0), none⟩,
  ⟨some 2, true, .mov (.c (.slice 7 [])), none⟩]
def r51_1 : List Op := [
  ⟨some 3, false, .load (.v 1) (some 7) (.g 1), none⟩,
  ⟨some 4, false, .call (.k 41) .no none [.l 0], none⟩,
  ⟨some 5, true, .un .not (.l 1), none⟩]
def r51_2 : List Op := [
  ⟨some 2, true, .mov (.c (.slice 7 [])), none⟩]
def r51_3 : List Op := [
  ⟨some 6, false, .load (.v 1) (some 7) (.g 1), none⟩,
  ⟨some 7, false, .call (.k 72) .no none [.l 0], none⟩,
  ⟨some 2, true, .mov (.l 1), none⟩]
def c51 : C := .seq (.region false r51_0) (.seq (.seq (.region false r51_1) (.cond (.g 5) (.seq (.region false r51_2) (.ret)) (.skip))) (.seq (.region false r51_3) (.ret)))
/-- stratigraph.group.Again -/
def F51 : F := ⟨1, [0, 1, 2, 5], [.t 2], none, c51⟩
attribute [go_sem] r51_0 r51_1 r51_2 r51_3 c51 F51
def r52_0 : List Op := [
  ⟨some 1, true, .box (.g 0), none⟩,
  ⟨some 2, true, .mov (.c (.slice 7 [])), none⟩]
def r52_1 : List Op := [
  ⟨some 3, true, .mko 7, none⟩]
def r52_2 : List Op := [
  ⟨some 4, true, .mov (.c (.int .i64 0)), none⟩]
def r52_3 : List Op := [
  ⟨some 5, false, .mov (.g 4), none⟩,
  ⟨some 6, false, .fad (.g 1) 2, none⟩,
  ⟨some 7, false, .load (.v 1) none (.l 1), none⟩,
  ⟨some 8, false, .len false (.l 2), none⟩,
  ⟨some 9, true, .bin .lss (.l 0) (.l 3), none⟩]
def r52_4 : List Op := [
  ⟨some 12, false, .fad (.g 1) 6, none⟩,
  ⟨some 13, false, .load (.v 1) none (.l 0), none⟩,
  ⟨some 14, false, .fad (.g 1) 2, none⟩,
  ⟨some 15, false, .load (.v 1) none (.l 2), none⟩,
  ⟨some 16, false, .mov (.g 4), none⟩,
  ⟨some 17, false, .iad 1 (.l 3) (.l 4), none⟩,
  ⟨some 18, false, .load (.c) none (.l 5), none⟩,
  ⟨some 19, false, .call (.k 62) .no none [.l 1, .l 6], none⟩,
  ⟨some 20, true, .un .not (.l 7), none⟩]
def r52_5 : List Op := [
  ⟨some 21, false, .mov (.g 3), none⟩,
  ⟨some 22, false, .fad (.g 1) 0, none⟩,
  ⟨some 23, false, .load (.v 1) none (.l 1), none⟩,
  ⟨some 24, false, .fad (.g 1) 2, none⟩,
  ⟨some 25, false, .load (.v 1) none (.l 3), none⟩,
  ⟨some 26, false, .mov (.g 4), none⟩,
  ⟨some 27, false, .iad 1 (.l 4) (.l 5), none⟩,
  ⟨some 28, false, .load (.c) none (.l 6), none⟩,
  ⟨some 29, false, .fad (.g 1) 1, none⟩,
  ⟨some 30, false, .load (.v 1) none (.l 8), none⟩,
  ⟨some 31, false, .fad (.g 1) 3, none⟩,
  ⟨some 32, false, .load (.v 1) none (.l 10), none⟩,
  ⟨some 33, false, .fad (.g 1) 2, none⟩,
  ⟨some 34, false, .load (.v 1) none (.l 12), none⟩,
  ⟨some 35, false, .fad (.g 1) 5, none⟩,
  ⟨some 36, false, .load (.v 1) none (.l 14), none⟩,
  ⟨some 37, false, .build [.int .i64 0, .int .i64 0, .int .i64 0, .int .i64 0, .int .i64 0, .slice 1 [], .str []] [(0, 1, .c (.int .i64 1)), (1, 1, .l 2), (2, 1, .l 7), (3, 1, .l 9), (4, 1, .l 11), (5, 1, .l 13), (6, 1, .l 15)], none⟩,
  ⟨some 38, false, .mks 7 1 [.int .i64 0, .int .i64 0, .int .i64 0, .int .i64 0, .int .i64 0, .slice 1 [], .str []] [(0, .l 16)], none⟩,
  ⟨some 39, false, .app 3 7 (.l 0) (.l 17), none⟩,
  ⟨some 3, true, .mov (.l 18), none⟩]
def r52_6 : List Op := [
  ⟨some 10, false, .mov (.g 4), none⟩,
  ⟨some 11, false, .bin .add (.l 0) (.c (.int .i64 1)), none⟩,
  ⟨some 4, true, .mov (.l 1), none⟩]
def b52_0 : C := .seq (.seq (.region false r52_3) (.cond (.g 9) (.skip) (.exit 0))) (.seq (.block 1 (.seq (.region true r52_4) (.cond (.g 20) (.region true r52_5) (.skip)))) (.region false r52_6))
def l52_0 : C := .loop [] [] [] [] b52_0
def r52_7 : List Op := [
  ⟨some 40, false, .mov (.g 3), none⟩,
  ⟨some 2, true, .mov (.l 0), none⟩]
def c52 : C := .seq (.region false r52_0) (.seq (.region false r52_1) (.seq (.seq (.region false r52_2) (.block 0 (l52_0))) (.seq (.region false r52_7) (.ret))))
/-- stratigraph.stratigraphref14.Ships -/
def F52 : F := ⟨1, [0, 1, 2, 3, 4, 9, 20], [.t 2], none, c52⟩
attribute [go_sem] r52_0 r52_1 r52_2 r52_3 r52_4 r52_5 r52_6 b52_0 r52_7 c52 F52
def r54_0 : List Op := [
  ⟨some 3, true, .box (.g 0), none⟩,
  ⟨some 6, true, .alloc [.int .i64 0, .int .i64 0, .slice 1 [], .int .i64 0, .str [], .str [], .slice 1 []], none⟩,
  ⟨some 7, true, .mov (.c (.slice 7 [])), none⟩,
  ⟨some 8, true, .mov (.c (.int .i64 0)), none⟩]
def r54_1 : List Op := [
  ⟨some 9, false, .load (.v 3) (some 7) (.g 3), none⟩,
  ⟨some 10, false, .call (.k 39) .no none [.l 0], none⟩,
  ⟨some 11, false, .un .not (.l 1), none⟩,
  ⟨some 12, false, .mov (.l 2), none⟩,
  ⟨some 13, false, .mov (.g 2), (some (3, false))⟩,
  ⟨some 14, false, .fad (.g 3) 0, (some (3, false))⟩,
  ⟨some 15, false, .load (.v 3) none (.l 5), (some (3, false))⟩,
  ⟨some 16, false, .fad (.g 3) 0, (some (3, false))⟩,
  ⟨some 17, false, .load (.v 3) none (.l 7), (some (3, false))⟩,
  ⟨some 18, false, .call (.k 73) .no none [.l 4, .l 6, .l 8], (some (3, false))⟩,
  ⟨some 19, false, .un .not (.l 9), (some (3, false))⟩,
  ⟨some 20, false, .pick (.l 3) (.c (.bool true)) (.l 10), none⟩,
  ⟨some 21, false, .mov (.l 11), none⟩,
  ⟨some 22, false, .mov (.g 1), (some (12, false))⟩,
  ⟨some 23, false, .call (.k 63) .no none [.l 13, .c (.int .i64 1)], (some (12, false))⟩,
  ⟨some 24, false, .un .not (.l 14), (some (12, false))⟩,
  ⟨some 25, true, .pick (.l 12) (.c (.bool true)) (.l 15), none⟩]
def r54_2 : List Op := [
  ⟨some 26, false, .build [.int .i64 0, .int .i64 0, .slice 1 [], .int .i64 0, .str [], .str [], .slice 1 []] [], none⟩,
  ⟨none, false, .store (.v 6) 7 (.g 6) (.l 0), none⟩,
  ⟨some 7, true, .mov (.c (.slice 7 [])), none⟩,
  ⟨some 8, true, .mov (.c (.int .i64 1)), none⟩]
def r54_3 : List Op := [
  ⟨some 28, false, .mov (.g 1), none⟩,
  ⟨some 29, false, .fad (.g 3) 1, none⟩,
  ⟨some 30, false, .load (.v 3) none (.l 1), none⟩,
  ⟨some 31, false, .bin .eql (.l 0) (.l 2), none⟩,
  ⟨some 32, false, .mov (.l 3), none⟩,
  ⟨some 33, false, .load (.v 3) (some 7) (.g 3), (some (4, true))⟩,
  ⟨some 34, false, .call (.k 68) .no none [.l 5], (some (4, true))⟩,
  ⟨some 35, false, .pick (.l 4) (.l 6) (.c (.bool false)), none⟩,
  ⟨some 27, true, .mov (.l 7), none⟩]
def r54_4 : List Op := [
  ⟨some 36, false, .load (.v 3) (some 7) (.g 3), none⟩,
  ⟨some 37, false, .load (.v 3) (some 7) (.g 3), none⟩,
  ⟨some 38, false, .call (.k 72) .no none [.l 1], none⟩,
  ⟨none, false, .store (.v 6) 7 (.g 6) (.l 0), none⟩,
  ⟨some 7, true, .mov (.l 2), none⟩,
  ⟨some 8, true, .mov (.c (.int .i64 0)), none⟩]
def r54_5 : List Op := [
  ⟨some 40, false, .mov (.g 1), none⟩,
  ⟨some 41, false, .fad (.g 3) 1, none⟩,
  ⟨some 42, false, .load (.v 3) none (.l 1), none⟩,
  ⟨some 43, false, .bin .add (.l 2) (.c (.int .i64 1)), none⟩,
  ⟨some 44, false, .bin .neq (.l 0) (.l 3), none⟩,
  ⟨some 45, false, .mov (.l 4), none⟩,
  ⟨some 46, false, .fad (.g 3) 2, (some (5, false))⟩,
  ⟨some 47, false, .load (.v 3) none (.l 6), (some (5, false))⟩,
  ⟨some 48, false, .len false (.l 7), (some (5, false))⟩,
  ⟨some 49, false, .bin .eql (.l 8) (.c (.int .i64 0)), (some (5, false))⟩,
  ⟨some 50, false, .pick (.l 5) (.c (.bool true)) (.l 9), none⟩,
  ⟨some 39, true, .mov (.l 10), none⟩]
def r54_6 : List Op := [
  ⟨some 51, false, .build [.int .i64 0, .int .i64 0, .slice 1 [], .int .i64 0, .str [], .str [], .slice 1 []] [], none⟩,
  ⟨none, false, .store (.v 6) 7 (.g 6) (.l 0), none⟩,
  ⟨some 7, true, .mov (.c (.slice 7 [])), none⟩,
  ⟨some 8, true, .mov (.c (.int .i64 10)), none⟩]
def r54_7 : List Op := [
  ⟨some 53, false, .fad (.g 3) 3, none⟩,
  ⟨some 54, false, .load (.v 3) none (.l 0), none⟩,
  ⟨some 55, false, .bin .eql (.l 1) (.c (.int .i64 1099511627776)), none⟩,
  ⟨some 52, true, .mov (.l 2), none⟩]
def r54_8 : List Op := [
  ⟨some 56, false, .build [.int .i64 0, .int .i64 0, .slice 1 [], .int .i64 0, .str [], .str [], .slice 1 []] [], none⟩,
  ⟨none, false, .store (.v 6) 7 (.g 6) (.l 0), none⟩,
  ⟨some 7, true, .mov (.c (.slice 7 [])), none⟩,
  ⟨some 8, true, .mov (.c (.int .i64 6)), none⟩]
def r54_9 : List Op := [
  ⟨some 57, false, .mov (.g 1), none⟩,
  ⟨some 58, false, .mov (.g 2), none⟩,
  ⟨some 59, false, .call (.k 69) .no none [.l 1], none⟩,
  ⟨some 60, false, .fad (.g 3) 5, none⟩,
  ⟨some 61, false, .load (.v 3) none (.l 3), none⟩,
  ⟨some 62, false, .fad (.g 3) 0, none⟩,
  ⟨some 63, false, .load (.v 3) none (.l 5), none⟩,
  ⟨some 64, false, .mks 1 1 [.int .i64 0] [(0, .l 6)], none⟩,
  ⟨some 65, false, .fad (.g 3) 1, none⟩,
  ⟨none, false, .store (.v 3) 1 (.l 8) (.l 0), none⟩,
  ⟨some 66, false, .fad (.g 3) 2, none⟩,
  ⟨none, false, .store (.v 3) 1 (.l 10) (.l 2), none⟩,
  ⟨some 67, false, .fad (.g 3) 4, none⟩,
  ⟨none, false, .store (.v 3) 1 (.l 12) (.l 4), none⟩,
  ⟨some 68, false, .fad (.g 3) 6, none⟩,
  ⟨none, false, .store (.v 3) 1 (.l 14) (.l 7), none⟩]
def r54_10 : List Op := [
  ⟨some 69, false, .fad (.g 3) 3, none⟩,
  ⟨some 70, false, .load (.v 3) none (.l 0), none⟩,
  ⟨some 71, false, .bin .add (.l 1) (.c (.int .i64 1)), none⟩,
  ⟨some 72, false, .fad (.g 3) 3, none⟩,
  ⟨none, false, .store (.v 3) 1 (.l 3) (.l 2), none⟩]
def r54_11 : List Op := [
  ⟨some 73, false, .load (.v 3) (some 7) (.g 3), none⟩,
  ⟨some 74, false, .load (.v 3) (some 7) (.g 3), none⟩,
  ⟨some 75, false, .call (.k 72) .no none [.l 1], none⟩,
  ⟨none, false, .store (.v 6) 7 (.g 6) (.l 0), none⟩,
  ⟨some 7, true, .mov (.l 2), none⟩,
  ⟨some 8, true, .mov (.c (.int .i64 0)), none⟩]
def c54 : C := .seq (.region false r54_0) (.seq (.seq (.region false r54_1) (.cond (.g 25) (.seq (.region false r54_2) (.ret)) (.skip))) (.seq (.block 0 (.seq (.region false r54_3) (.cond (.g 27) (.seq (.region true r54_4) (.ret)) (.seq (.region false r54_5) (.cond (.g 39) (.seq (.region false r54_6) (.ret)) (.seq (.region false r54_7) (.cond (.g 52) (.seq (.region false r54_8) (.ret)) (.skip)))))))) (.seq (.region true r54_9) (.seq (.region false r54_10) (.seq (.region true r54_11) (.ret))))))
/-- stratigraph.group.Lead -/
def F54 : F := ⟨3, [0, 1, 2, 3, 6, 7, 8, 25, 27, 39, 52], [.cell 6 (some 7), .t 7, .t 8], none, c54⟩
attribute [go_sem] r54_0 r54_1 r54_2 r54_3 r54_4 r54_5 r54_6 r54_7 r54_8 r54_9 r54_10 r54_11 c54 F54
def r55_0 : List Op := [
  ⟨some 3, true, .box (.g 0), none⟩,
  ⟨some 6, true, .alloc [.int .i64 0, .int .i64 0, .slice 1 [], .int .i64 0, .str [], .str [], .slice 1 []], none⟩,
  ⟨some 7, true, .mov (.c (.slice 7 [])), none⟩,
  ⟨some 8, true, .mov (.c (.int .i64 0)), none⟩]
def r55_1 : List Op := [
  ⟨some 9, false, .load (.v 3) (some 7) (.g 3), none⟩,
  ⟨some 10, false, .call (.k 37) .no none [.l 0], none⟩,
  ⟨some 11, false, .un .not (.l 1), none⟩,
  ⟨some 12, false, .mov (.l 2), none⟩,
  ⟨some 13, false, .mov (.g 2), (some (3, false))⟩,
  ⟨some 14, false, .call (.k 61) .no none [.l 4], (some (3, false))⟩,
  ⟨some 15, false, .un .not (.l 5), (some (3, false))⟩,
  ⟨some 16, false, .pick (.l 3) (.c (.bool true)) (.l 6), none⟩,
  ⟨some 17, false, .mov (.l 7), none⟩,
  ⟨some 18, false, .mov (.g 2), (some (8, false))⟩,
  ⟨some 19, false, .len false (.l 9), (some (8, false))⟩,
  ⟨some 20, false, .bin .eql (.l 10) (.c (.int .i64 0)), (some (8, false))⟩,
  ⟨some 21, false, .pick (.l 8) (.c (.bool true)) (.l 11), none⟩,
  ⟨some 22, false, .mov (.l 12), none⟩,
  ⟨some 23, false, .mov (.g 2), (some (13, false))⟩,
  ⟨some 24, false, .iad 1 (.l 14) (.c (.int .i64 0)), (some (13, false))⟩,
  ⟨some 25, false, .load (.c) none (.l 15), (some (13, false))⟩,
  ⟨some 26, false, .fad (.g 3) 0, (some (13, false))⟩,
  ⟨some 27, false, .load (.v 3) none (.l 17), (some (13, false))⟩,
  ⟨some 28, false, .bin .neq (.l 16) (.l 18), (some (13, false))⟩,
  ⟨some 29, false, .pick (.l 13) (.c (.bool true)) (.l 19), none⟩,
  ⟨some 30, false, .mov (.l 20), none⟩,
  ⟨some 31, false, .mov (.g 1), (some (21, false))⟩,
  ⟨some 32, false, .call (.k 60) .no none [.l 22], (some (21, false))⟩,
  ⟨some 33, false, .un .not (.l 23), (some (21, false))⟩,
  ⟨some 34, true, .pick (.l 21) (.c (.bool true)) (.l 24), none⟩]
def r55_2 : List Op := [
  ⟨some 35, false, .build [.int .i64 0, .int .i64 0, .slice 1 [], .int .i64 0, .str [], .str [], .slice 1 []] [], none⟩,
  ⟨none, false, .store (.v 6) 7 (.g 6) (.l 0), none⟩,
  ⟨some 7, true, .mov (.c (.slice 7 [])), none⟩,
  ⟨some 8, true, .mov (.c (.int .i64 1)), none⟩]
def r55_3 : List Op := [
  ⟨some 36, false, .mov (.g 1), none⟩,
  ⟨some 37, false, .fad (.g 3) 1, none⟩,
  ⟨some 38, false, .load (.v 3) none (.l 1), none⟩,
  ⟨some 39, false, .bin .eql (.l 0) (.l 2), none⟩,
  ⟨some 40, false, .mov (.l 3), none⟩,
  ⟨some 41, false, .load (.v 3) (some 7) (.g 3), (some (4, true))⟩,
  ⟨some 42, false, .call (.k 38) .no none [.l 5], (some (4, true))⟩,
  ⟨some 43, true, .pick (.l 4) (.l 6) (.c (.bool false)), none⟩]
def r55_4 : List Op := [
  ⟨some 44, false, .load (.v 3) (some 7) (.g 3), none⟩,
  ⟨some 45, false, .load (.v 3) (some 7) (.g 3), none⟩,
  ⟨some 46, false, .call (.k 52) .no none [.l 1], none⟩,
  ⟨none, false, .store (.v 6) 7 (.g 6) (.l 0), none⟩,
  ⟨some 7, true, .mov (.l 2), none⟩,
  ⟨some 8, true, .mov (.c (.int .i64 0)), none⟩]
def r55_5 : List Op := [
  ⟨some 47, false, .mov (.g 1), none⟩,
  ⟨some 48, false, .bin .sub (.l 0) (.c (.int .i64 1)), none⟩,
  ⟨some 49, false, .fad (.g 3) 1, none⟩,
  ⟨some 50, false, .load (.v 3) none (.l 2), none⟩,
  ⟨some 51, false, .bin .neq (.l 1) (.l 3), none⟩,
  ⟨some 52, false, .mov (.l 4), none⟩,
  ⟨some 53, false, .fad (.g 3) 2, (some (5, false))⟩,
  ⟨some 54, false, .load (.v 3) none (.l 6), (some (5, false))⟩,
  ⟨some 55, false, .len false (.l 7), (some (5, false))⟩,
  ⟨some 56, false, .bin .eql (.l 8) (.c (.int .i64 0)), (some (5, false))⟩,
  ⟨some 57, true, .pick (.l 5) (.c (.bool true)) (.l 9), none⟩]
def r55_6 : List Op := [
  ⟨some 58, false, .build [.int .i64 0, .int .i64 0, .slice 1 [], .int .i64 0, .str [], .str [], .slice 1 []] [], none⟩,
  ⟨none, false, .store (.v 6) 7 (.g 6) (.l 0), none⟩,
  ⟨some 7, true, .mov (.c (.slice 7 [])), none⟩,
  ⟨some 8, true, .mov (.c (.int .i64 10)), none⟩]
def r55_7 : List Op := [
  ⟨some 59, false, .fad (.g 3) 3, none⟩,
  ⟨some 60, false, .load (.v 3) none (.l 0), none⟩,
  ⟨some 61, true, .bin .geq (.l 1) (.c (.int .i64 1099511627776)), none⟩]
def r55_8 : List Op := [
  ⟨some 62, false, .build [.int .i64 0, .int .i64 0, .slice 1 [], .int .i64 0, .str [], .str [], .slice 1 []] [], none⟩,
  ⟨none, false, .store (.v 6) 7 (.g 6) (.l 0), none⟩,
  ⟨some 7, true, .mov (.c (.slice 7 [])), none⟩,
  ⟨some 8, true, .mov (.c (.int .i64 6)), none⟩]
def r55_9 : List Op := [
  ⟨some 63, false, .fad (.g 3) 0, none⟩,
  ⟨some 64, false, .load (.v 3) none (.l 0), none⟩,
  ⟨some 65, false, .mov (.g 1), none⟩,
  ⟨some 66, false, .mov (.g 2), none⟩,
  ⟨some 67, false, .fad (.g 3) 3, none⟩,
  ⟨some 68, false, .load (.v 3) none (.l 4), none⟩,
  ⟨some 69, false, .bin .add (.l 5) (.c (.int .i64 1)), none⟩,
  ⟨some 70, false, .fad (.g 3) 5, none⟩,
  ⟨some 71, false, .load (.v 3) none (.l 7), none⟩,
  ⟨some 72, false, .fad (.g 3) 5, none⟩,
  ⟨some 73, false, .load (.v 3) none (.l 9), none⟩,
  ⟨some 74, false, .fad (.g 3) 0, none⟩,
  ⟨some 75, false, .load (.v 3) none (.l 11), none⟩,
  ⟨some 76, false, .mks 1 1 [.int .i64 0] [(0, .l 12)], none⟩,
  ⟨some 77, false, .build [.int .i64 0, .int .i64 0, .slice 1 [], .int .i64 0, .str [], .str [], .slice 1 []] [(0, 1, .l 1), (1, 1, .l 2), (2, 1, .l 3), (3, 1, .l 6), (4, 1, .l 8), (5, 1, .l 10), (6, 1, .l 13)], none⟩,
  ⟨none, false, .store (.v 3) 7 (.g 3) (.l 14), none⟩]
def r55_10 : List Op := [
  ⟨some 78, false, .load (.v 3) (some 7) (.g 3), none⟩,
  ⟨some 79, false, .load (.v 3) (some 7) (.g 3), none⟩,
  ⟨some 80, false, .call (.k 52) .no none [.l 1], none⟩,
  ⟨none, false, .store (.v 6) 7 (.g 6) (.l 0), none⟩,
  ⟨some 7, true, .mov (.l 2), none⟩,
  ⟨some 8, true, .mov (.c (.int .i64 0)), none⟩]
def c55 : C := .seq (.region false r55_0) (.seq (.seq (.region true r55_1) (.cond (.g 34) (.seq (.region false r55_2) (.ret)) (.skip))) (.seq (.seq (.region false r55_3) (.cond (.g 43) (.seq (.region true r55_4) (.ret)) (.skip))) (.seq (.seq (.region false r55_5) (.cond (.g 57) (.seq (.region false r55_6) (.ret)) (.skip))) (.seq (.seq (.region false r55_7) (.cond (.g 61) (.seq (.region false r55_8) (.ret)) (.skip))) (.seq (.region false r55_9) (.seq (.region true r55_10) (.ret)))))))
/-- stratigraph.stratigraphref14.Lead -/
def F55 : F := ⟨3, [0, 1, 2, 3, 6, 7, 8, 34, 43, 57, 61], [.cell 6 (some 7), .t 7, .t 8], none, c55⟩
attribute [go_sem] r55_0 r55_1 r55_2 r55_3 r55_4 r55_5 r55_6 r55_7 r55_8 r55_9 r55_10 c55 F55
def r57_0 : List Op := [
  ⟨some 2, true, .box (.g 0), none⟩,
  ⟨some 3, true, .box (.g 1), none⟩,
  ⟨some 4, true, .alloc [.int .i64 0, .int .i64 0, .slice 1 [], .int .i64 0, .str [], .str [], .slice 1 []], none⟩,
  ⟨some 5, true, .mov (.c (.slice 7 [])), none⟩]
def r57_1 : List Op := [
  ⟨some 6, false, .load (.v 2) (some 7) (.g 2), none⟩,
  ⟨some 7, false, .call (.k 39) .borrow none [.l 0], none⟩,
  ⟨some 8, false, .un .not (.l 1), none⟩,
  ⟨some 9, false, .mov (.l 2), none⟩,
  ⟨some 10, false, .fad (.g 3) 2, (some (3, false))⟩,
  ⟨some 11, false, .load (.v 3) none (.l 4), (some (3, false))⟩,
  ⟨some 12, false, .fad (.g 2) 0, (some (3, false))⟩,
  ⟨some 13, false, .load (.v 2) none (.l 6), (some (3, false))⟩,
  ⟨some 14, false, .bin .neq (.l 5) (.l 7), (some (3, false))⟩,
  ⟨some 15, true, .pick (.l 3) (.c (.bool true)) (.l 8), none⟩]
def r57_2 : List Op := [
  ⟨some 16, false, .load (.v 2) (some 7) (.g 2), none⟩,
  ⟨none, false, .store (.v 4) 7 (.g 4) (.l 0), none⟩,
  ⟨some 5, true, .mov (.c (.slice 7 [])), none⟩]
def r57_3 : List Op := [
  ⟨some 17, false, .fad (.g 3) 0, none⟩,
  ⟨some 18, true, .load (.v 3) none (.l 0), none⟩]
def r57_4 : List Op := [
  ⟨some 20, false, .bin .eql (.g 18) (.c (.int .i64 1)), none⟩,
  ⟨some 19, true, .mov (.l 0), none⟩]
def r57_5 : List Op := [
  ⟨some 21, false, .load (.v 2) (some 7) (.g 2), none⟩,
  ⟨some 22, false, .load (.v 3) (some 7) (.g 3), none⟩,
  ⟨some 23, false, .call (.k 74) .freeze none [.l 0, .l 1], none⟩,
  ⟨some 24, false, .ext (.l 2) 0, none⟩,
  ⟨some 25, false, .ext (.l 2) 1, none⟩,
  ⟨none, false, .store (.v 4) 7 (.g 4) (.l 3), none⟩,
  ⟨some 5, true, .mov (.l 4), none⟩]
def r57_6 : List Op := [
  ⟨some 27, false, .bin .eql (.g 18) (.c (.int .i64 2)), none⟩,
  ⟨some 26, true, .mov (.l 0), none⟩]
def r57_7 : List Op := [
  ⟨some 28, false, .load (.v 2) (some 7) (.g 2), none⟩,
  ⟨some 29, false, .call (.k 68) .borrow none [.l 0], none⟩,
  ⟨some 30, false, .mov (.l 1), none⟩,
  ⟨some 31, false, .fad (.g 3) 3, (some (2, true))⟩,
  ⟨some 32, false, .load (.v 3) none (.l 3), (some (2, true))⟩,
  ⟨some 33, false, .fad (.g 2) 1, (some (2, true))⟩,
  ⟨some 34, false, .load (.v 2) none (.l 5), (some (2, true))⟩,
  ⟨some 35, false, .bin .eql (.l 4) (.l 6), (some (2, true))⟩,
  ⟨some 36, false, .pick (.l 2) (.l 7) (.c (.bool false)), none⟩,
  ⟨some 37, false, .mov (.l 8), none⟩,
  ⟨some 38, false, .fad (.g 3) 4, (some (9, true))⟩,
  ⟨some 39, false, .load (.v 3) none (.l 10), (some (9, true))⟩,
  ⟨some 40, false, .fad (.g 2) 3, (some (9, true))⟩,
  ⟨some 41, false, .load (.v 2) none (.l 12), (some (9, true))⟩,
  ⟨some 42, false, .bin .eql (.l 11) (.l 13), (some (9, true))⟩,
  ⟨some 43, false, .pick (.l 9) (.l 14) (.c (.bool false)), none⟩,
  ⟨some 44, false, .mov (.l 15), none⟩,
  ⟨some 45, false, .fad (.g 2) 2, (some (16, true))⟩,
  ⟨some 46, false, .load (.v 2) none (.l 17), (some (16, true))⟩,
  ⟨some 47, false, .fad (.g 3) 1, (some (16, true))⟩,
  ⟨some 48, false, .load (.v 3) none (.l 19), (some (16, true))⟩,
  ⟨some 49, false, .call (.k 65) .borrow none [.l 18, .l 20], (some (16, true))⟩,
  ⟨some 50, false, .pick (.l 16) (.l 21) (.c (.bool false)), none⟩,
  ⟨some 51, false, .mov (.l 22), none⟩,
  ⟨some 52, false, .fad (.g 2) 6, (some (23, true))⟩,
  ⟨some 53, false, .load (.v 2) none (.l 24), (some (23, true))⟩,
  ⟨some 54, false, .fad (.g 3) 1, (some (23, true))⟩,
  ⟨some 55, false, .load (.v 3) none (.l 26), (some (23, true))⟩,
  ⟨some 56, false, .call (.k 65) .borrow none [.l 25, .l 27], (some (23, true))⟩,
  ⟨some 57, false, .un .not (.l 28), (some (23, true))⟩,
  ⟨some 58, true, .pick (.l 23) (.l 29) (.c (.bool false)), none⟩]
def r57_8 : List Op := [
  ⟨some 59, false, .fad (.g 2) 6, none⟩,
  ⟨some 60, false, .load (.v 2) none (.l 0), none⟩,
  ⟨some 61, false, .call (.k 69) .freeze (some 0) [.l 1], none⟩,
  ⟨some 62, false, .fad (.g 3) 1, none⟩,
  ⟨some 63, false, .load (.v 3) none (.l 3), none⟩,
  ⟨some 64, false, .mks 1 1 [.int .i64 0] [(0, .l 4)], none⟩,
  ⟨some 65, false, .app 61 1 (.l 2) (.l 5), none⟩,
  ⟨some 66, false, .fad (.g 2) 6, none⟩,
  ⟨none, false, .store (.v 2) 1 (.l 7) (.l 6), none⟩]
def r57_9 : List Op := [
  ⟨some 67, false, .load (.v 2) (some 7) (.g 2), none⟩,
  ⟨some 68, false, .call (.k 71) .freeze none [.l 0], none⟩,
  ⟨none, false, .store (.v 2) 7 (.g 2) (.l 1), none⟩]
def r57_10 : List Op := [
  ⟨some 70, false, .bin .eql (.g 18) (.c (.int .i64 3)), none⟩,
  ⟨some 69, true, .mov (.l 0), none⟩]
def r57_11 : List Op := [
  ⟨some 71, false, .fad (.g 3) 3, none⟩,
  ⟨some 72, false, .load (.v 3) none (.l 0), none⟩,
  ⟨some 73, false, .fad (.g 2) 1, none⟩,
  ⟨some 74, false, .load (.v 2) none (.l 2), none⟩,
  ⟨some 75, true, .bin .gtr (.l 1) (.l 3), none⟩]
def r57_12 : List Op := [
  ⟨some 76, false, .fad (.g 2) 5, none⟩,
  ⟨some 77, false, .load (.v 2) none (.l 0), none⟩,
  ⟨some 78, false, .fad (.g 2) 2, none⟩,
  ⟨none, false, .store (.v 2) 1 (.l 2) (.c (.slice 1 [])), none⟩,
  ⟨some 79, false, .fad (.g 2) 6, none⟩,
  ⟨none, false, .store (.v 2) 1 (.l 4) (.c (.slice 1 [])), none⟩,
  ⟨some 80, false, .fad (.g 2) 4, none⟩,
  ⟨none, false, .store (.v 2) 1 (.l 6) (.l 1), none⟩]
def r57_13 : List Op := [
  ⟨some 81, false, .load (.v 2) (some 7) (.g 2), none⟩,
  ⟨none, false, .store (.v 4) 7 (.g 4) (.l 0), none⟩,
  ⟨some 5, true, .mov (.c (.slice 7 [])), none⟩]
def c57 : C := .seq (.region false r57_0) (.seq (.seq (.region false r57_1) (.cond (.g 15) (.seq (.region false r57_2) (.ret)) (.skip))) (.seq (.seq (.region false r57_3) (.block 0 (.seq (.region false r57_4) (.cond (.g 19) (.seq (.region false r57_5) (.ret)) (.seq (.region false r57_6) (.cond (.g 26) (.seq (.region false r57_7) (.cond (.g 58) (.seq (.region true r57_8) (.region false r57_9)) (.skip))) (.seq (.region false r57_10) (.cond (.g 69) (.seq (.region false r57_11) (.cond (.g 75) (.region false r57_12) (.skip))) (.skip))))))))) (.seq (.region false r57_13) (.ret))))
/-- stratigraph.group.Hear -/
def F57 : F := ⟨2, [0, 1, 2, 3, 4, 5, 15, 18, 19, 26, 58, 69, 75], [.cell 4 (some 7), .t 5], none, c57⟩
attribute [go_sem] r57_0 r57_1 r57_2 r57_3 r57_4 r57_5 r57_6 r57_7 r57_8 r57_9 r57_10 r57_11 r57_12 r57_13 c57 F57
def r58_0 : List Op := [
  ⟨some 2, true, .box (.g 0), none⟩,
  ⟨some 3, true, .box (.g 1), none⟩,
  ⟨some 4, true, .alloc [.int .i64 0, .int .i64 0, .slice 1 [], .int .i64 0, .str [], .str [], .slice 1 []], none⟩,
  ⟨some 5, true, .mov (.c (.slice 7 [])), none⟩]
def r58_1 : List Op := [
  ⟨some 7, false, .load (.v 2) (some 7) (.g 2), none⟩,
  ⟨some 8, false, .call (.k 37) .borrow none [.l 0], none⟩,
  ⟨some 9, false, .un .not (.l 1), none⟩,
  ⟨some 10, false, .mov (.l 2), none⟩,
  ⟨some 11, false, .fad (.g 3) 2, (some (3, false))⟩,
  ⟨some 12, false, .load (.v 3) none (.l 4), (some (3, false))⟩,
  ⟨some 13, false, .fad (.g 2) 0, (some (3, false))⟩,
  ⟨some 14, false, .load (.v 2) none (.l 6), (some (3, false))⟩,
  ⟨some 15, false, .bin .neq (.l 5) (.l 7), (some (3, false))⟩,
  ⟨some 16, true, .pick (.l 3) (.c (.bool true)) (.l 8), none⟩]
def r58_2 : List Op := [
  ⟨some 17, false, .load (.v 2) (some 7) (.g 2), none⟩,
  ⟨none, false, .store (.v 4) 7 (.g 4) (.l 0), none⟩,
  ⟨some 5, true, .mov (.c (.slice 7 [])), none⟩]
def r58_3 : List Op := [
  ⟨some 18, false, .fad (.g 3) 0, none⟩,
  ⟨some 19, false, .load (.v 3) none (.l 0), none⟩,
  ⟨some 20, false, .bin .eql (.l 1) (.c (.int .i64 3)), none⟩,
  ⟨some 21, false, .mov (.l 2), none⟩,
  ⟨some 22, false, .fad (.g 3) 3, (some (3, true))⟩,
  ⟨some 23, false, .load (.v 3) none (.l 4), (some (3, true))⟩,
  ⟨some 24, false, .fad (.g 2) 1, (some (3, true))⟩,
  ⟨some 25, false, .load (.v 2) none (.l 6), (some (3, true))⟩,
  ⟨some 26, false, .bin .gtr (.l 5) (.l 7), (some (3, true))⟩,
  ⟨some 27, true, .pick (.l 3) (.l 8) (.c (.bool false)), none⟩]
def r58_4 : List Op := [
  ⟨some 28, false, .fad (.g 2) 0, none⟩,
  ⟨some 29, false, .load (.v 2) none (.l 0), none⟩,
  ⟨some 30, false, .fad (.g 2) 1, none⟩,
  ⟨some 31, false, .load (.v 2) none (.l 2), none⟩,
  ⟨some 32, false, .fad (.g 2) 3, none⟩,
  ⟨some 33, false, .load (.v 2) none (.l 4), none⟩,
  ⟨some 34, false, .fad (.g 2) 5, none⟩,
  ⟨some 35, false, .load (.v 2) none (.l 6), none⟩,
  ⟨some 36, false, .fad (.g 2) 5, none⟩,
  ⟨some 37, false, .load (.v 2) none (.l 8), none⟩,
  ⟨some 38, false, .build [.int .i64 0, .int .i64 0, .slice 1 [], .int .i64 0, .str [], .str [], .slice 1 []] [(0, 1, .l 1), (1, 1, .l 3), (3, 1, .l 5), (4, 1, .l 7), (5, 1, .l 9)], none⟩,
  ⟨none, false, .store (.v 4) 7 (.g 4) (.l 10), none⟩,
  ⟨some 5, true, .mov (.c (.slice 7 [])), none⟩]
def r58_5 : List Op := [
  ⟨some 39, false, .fad (.g 3) 0, none⟩,
  ⟨some 40, false, .load (.v 3) none (.l 0), none⟩,
  ⟨some 41, false, .bin .eql (.l 1) (.c (.int .i64 2)), none⟩,
  ⟨some 42, false, .mov (.l 2), none⟩,
  ⟨some 43, false, .load (.v 2) (some 7) (.g 2), (some (3, true))⟩,
  ⟨some 44, false, .call (.k 38) .borrow none [.l 4], (some (3, true))⟩,
  ⟨some 45, false, .pick (.l 3) (.l 5) (.c (.bool false)), none⟩,
  ⟨some 46, false, .mov (.l 6), none⟩,
  ⟨some 47, false, .fad (.g 3) 3, (some (7, true))⟩,
  ⟨some 48, false, .load (.v 3) none (.l 8), (some (7, true))⟩,
  ⟨some 49, false, .fad (.g 2) 1, (some (7, true))⟩,
  ⟨some 50, false, .load (.v 2) none (.l 10), (some (7, true))⟩,
  ⟨some 51, false, .bin .eql (.l 9) (.l 11), (some (7, true))⟩,
  ⟨some 52, false, .pick (.l 7) (.l 12) (.c (.bool false)), none⟩,
  ⟨some 53, false, .mov (.l 13), none⟩,
  ⟨some 54, false, .fad (.g 3) 4, (some (14, true))⟩,
  ⟨some 55, false, .load (.v 3) none (.l 15), (some (14, true))⟩,
  ⟨some 56, false, .fad (.g 2) 3, (some (14, true))⟩,
  ⟨some 57, false, .load (.v 2) none (.l 17), (some (14, true))⟩,
  ⟨some 58, false, .bin .eql (.l 16) (.l 18), (some (14, true))⟩,
  ⟨some 59, false, .pick (.l 14) (.l 19) (.c (.bool false)), none⟩,
  ⟨some 60, false, .mov (.l 20), none⟩,
  ⟨some 61, false, .fad (.g 2) 2, (some (21, true))⟩,
  ⟨some 62, false, .load (.v 2) none (.l 22), (some (21, true))⟩,
  ⟨some 63, false, .fad (.g 3) 1, (some (21, true))⟩,
  ⟨some 64, false, .load (.v 3) none (.l 24), (some (21, true))⟩,
  ⟨some 65, false, .call (.k 62) .borrow none [.l 23, .l 25], (some (21, true))⟩,
  ⟨some 66, false, .pick (.l 21) (.l 26) (.c (.bool false)), none⟩,
  ⟨some 67, false, .mov (.l 27), none⟩,
  ⟨some 68, false, .fad (.g 2) 6, (some (28, true))⟩,
  ⟨some 69, false, .load (.v 2) none (.l 29), (some (28, true))⟩,
  ⟨some 70, false, .fad (.g 3) 1, (some (28, true))⟩,
  ⟨some 71, false, .load (.v 3) none (.l 31), (some (28, true))⟩,
  ⟨some 72, false, .call (.k 62) .borrow none [.l 30, .l 32], (some (28, true))⟩,
  ⟨some 73, false, .un .not (.l 33), (some (28, true))⟩,
  ⟨some 74, true, .pick (.l 28) (.l 34) (.c (.bool false)), none⟩]
def r58_6 : List Op := [
  ⟨some 6, true, .mko 1, none⟩]
def r58_7 : List Op := [
  ⟨some 75, false, .mov (.g 6), none⟩,
  ⟨some 76, false, .fad (.g 2) 6, none⟩,
  ⟨some 77, false, .load (.v 2) none (.l 1), none⟩,
  ⟨some 78, false, .app 6 1 (.l 0) (.l 2), none⟩,
  ⟨some 79, false, .fad (.g 3) 1, none⟩,
  ⟨some 80, false, .load (.v 3) none (.l 4), none⟩,
  ⟨some 81, false, .mks 1 1 [.int .i64 0] [(0, .l 5)], none⟩,
  ⟨some 82, false, .app 6 1 (.l 3) (.l 6), none⟩,
  ⟨some 83, false, .fad (.g 2) 6, none⟩,
  ⟨none, false, .store (.v 2) 1 (.l 8) (.l 7), none⟩]
def r58_8 : List Op := [
  ⟨some 84, false, .load (.v 2) (some 7) (.g 2), none⟩,
  ⟨some 85, true, .call (.k 42) .borrow none [.l 0], none⟩]
def r58_9 : List Op := [
  ⟨some 86, false, .fad (.g 2) 5, none⟩,
  ⟨some 87, false, .load (.v 2) none (.l 0), none⟩,
  ⟨some 88, false, .fad (.g 2) 4, none⟩,
  ⟨none, false, .store (.v 2) 1 (.l 2) (.l 1), none⟩]
def r58_10 : List Op := [
  ⟨some 89, false, .load (.v 2) (some 7) (.g 2), none⟩,
  ⟨none, false, .store (.v 4) 7 (.g 4) (.l 0), none⟩,
  ⟨some 5, true, .mov (.c (.slice 7 [])), none⟩]
def r58_11 : List Op := [
  ⟨some 90, false, .fad (.g 3) 0, none⟩,
  ⟨some 91, false, .load (.v 3) none (.l 0), none⟩,
  ⟨some 92, false, .bin .neq (.l 1) (.c (.int .i64 1)), none⟩,
  ⟨some 93, false, .mov (.l 2), none⟩,
  ⟨some 94, false, .fad (.g 3) 5, (some (3, false))⟩,
  ⟨some 95, false, .load (.v 3) none (.l 4), (some (3, false))⟩,
  ⟨some 96, false, .call (.k 61) .borrow none [.l 5], (some (3, false))⟩,
  ⟨some 97, false, .un .not (.l 6), (some (3, false))⟩,
  ⟨some 98, false, .pick (.l 3) (.c (.bool true)) (.l 7), none⟩,
  ⟨some 99, false, .mov (.l 8), none⟩,
  ⟨some 100, false, .fad (.g 3) 5, (some (9, false))⟩,
  ⟨some 101, false, .load (.v 3) none (.l 10), (some (9, false))⟩,
  ⟨some 102, false, .fad (.g 2) 0, (some (9, false))⟩,
  ⟨some 103, false, .load (.v 2) none (.l 12), (some (9, false))⟩,
  ⟨some 104, false, .call (.k 62) .borrow none [.l 11, .l 13], (some (9, false))⟩,
  ⟨some 105, false, .un .not (.l 14), (some (9, false))⟩,
  ⟨some 106, false, .pick (.l 9) (.c (.bool true)) (.l 15), none⟩,
  ⟨some 107, false, .mov (.l 16), none⟩,
  ⟨some 108, false, .fad (.g 3) 5, (some (17, false))⟩,
  ⟨some 109, false, .load (.v 3) none (.l 18), (some (17, false))⟩,
  ⟨some 110, false, .iad 1 (.l 19) (.c (.int .i64 0)), (some (17, false))⟩,
  ⟨some 111, false, .load (.c) none (.l 20), (some (17, false))⟩,
  ⟨some 112, false, .fad (.g 3) 1, (some (17, false))⟩,
  ⟨some 113, false, .load (.v 3) none (.l 22), (some (17, false))⟩,
  ⟨some 114, false, .bin .neq (.l 21) (.l 23), (some (17, false))⟩,
  ⟨some 115, false, .pick (.l 17) (.c (.bool true)) (.l 24), none⟩,
  ⟨some 116, false, .mov (.l 25), none⟩,
  ⟨some 117, false, .fad (.g 3) 1, (some (26, false))⟩,
  ⟨some 118, false, .load (.v 3) none (.l 27), (some (26, false))⟩,
  ⟨some 119, false, .fad (.g 2) 0, (some (26, false))⟩,
  ⟨some 120, false, .load (.v 2) none (.l 29), (some (26, false))⟩,
  ⟨some 121, false, .bin .eql (.l 28) (.l 30), (some (26, false))⟩,
  ⟨some 122, false, .pick (.l 26) (.c (.bool true)) (.l 31), none⟩,
  ⟨some 123, false, .mov (.l 32), none⟩,
  ⟨some 124, false, .fad (.g 3) 3, (some (33, false))⟩,
  ⟨some 125, false, .load (.v 3) none (.l 34), (some (33, false))⟩,
  ⟨some 126, false, .call (.k 60) .borrow none [.l 35], (some (33, false))⟩,
  ⟨some 127, false, .un .not (.l 36), (some (33, false))⟩,
  ⟨some 128, false, .pick (.l 33) (.c (.bool true)) (.l 37), none⟩,
  ⟨some 129, false, .mov (.l 38), none⟩,
  ⟨some 130, false, .fad (.g 3) 4, (some (39, false))⟩,
  ⟨some 131, false, .load (.v 3) none (.l 40), (some (39, false))⟩,
  ⟨some 132, false, .call (.k 60) .borrow none [.l 41], (some (39, false))⟩,
  ⟨some 133, false, .un .not (.l 42), (some (39, false))⟩,
  ⟨some 134, true, .pick (.l 39) (.c (.bool true)) (.l 43), none⟩]
def r58_12 : List Op := [
  ⟨some 135, false, .load (.v 2) (some 7) (.g 2), none⟩,
  ⟨none, false, .store (.v 4) 7 (.g 4) (.l 0), none⟩,
  ⟨some 5, true, .mov (.c (.slice 7 [])), none⟩]
def r58_13 : List Op := [
  ⟨some 136, false, .fad (.g 3) 3, none⟩,
  ⟨some 137, false, .load (.v 3) none (.l 0), none⟩,
  ⟨some 138, false, .fad (.g 2) 1, none⟩,
  ⟨some 139, false, .load (.v 2) none (.l 2), none⟩,
  ⟨some 140, true, .bin .lss (.l 1) (.l 3), none⟩]
def r58_14 : List Op := [
  ⟨some 141, false, .load (.v 2) (some 7) (.g 2), none⟩,
  ⟨some 142, false, .fad (.g 2) 0, none⟩,
  ⟨some 143, false, .load (.v 2) none (.l 1), none⟩,
  ⟨some 144, false, .fad (.g 3) 1, none⟩,
  ⟨some 145, false, .load (.v 3) none (.l 3), none⟩,
  ⟨some 146, false, .fad (.g 2) 1, none⟩,
  ⟨some 147, false, .load (.v 2) none (.l 5), none⟩,
  ⟨some 148, false, .build [.int .i64 0, .int .i64 0, .int .i64 0, .int .i64 0, .int .i64 0, .slice 1 [], .str []] [(0, 1, .c (.int .i64 3)), (1, 1, .l 2), (2, 1, .l 4), (3, 1, .l 6)], none⟩,
  ⟨some 149, false, .mks 7 1 [.int .i64 0, .int .i64 0, .int .i64 0, .int .i64 0, .int .i64 0, .slice 1 [], .str []] [(0, .l 7)], none⟩,
  ⟨none, false, .store (.v 4) 7 (.g 4) (.l 0), none⟩,
  ⟨some 5, true, .mov (.l 8), none⟩]
def r58_15 : List Op := [
  ⟨some 150, false, .fad (.g 3) 3, none⟩,
  ⟨some 151, false, .load (.v 3) none (.l 0), none⟩,
  ⟨some 152, false, .fad (.g 2) 1, none⟩,
  ⟨some 153, false, .load (.v 2) none (.l 2), none⟩,
  ⟨some 154, false, .bin .eql (.l 1) (.l 3), none⟩,
  ⟨some 155, false, .mov (.l 4), none⟩,
  ⟨some 156, false, .load (.v 2) (some 7) (.g 2), (some (5, true))⟩,
  ⟨some 157, false, .call (.k 38) .borrow none [.l 6], (some (5, true))⟩,
  ⟨some 158, false, .mov (.l 7), (some (5, true))⟩,
  ⟨some 159, false, .fad (.g 2) 3, (some (8, false))⟩,
  ⟨some 160, false, .load (.v 2) none (.l 9), (some (8, false))⟩,
  ⟨some 161, false, .fad (.g 3) 4, (some (8, false))⟩,
  ⟨some 162, false, .load (.v 3) none (.l 11), (some (8, false))⟩,
  ⟨some 163, false, .bin .gtr (.l 10) (.l 12), (some (8, false))⟩,
  ⟨some 164, false, .pick (.l 8) (.c (.bool true)) (.l 13), (some (5, true))⟩,
  ⟨some 165, true, .pick (.l 5) (.l 14) (.c (.bool false)), none⟩]
def r58_16 : List Op := [
  ⟨some 166, false, .load (.v 2) (some 7) (.g 2), none⟩,
  ⟨none, false, .store (.v 4) 7 (.g 4) (.l 0), none⟩,
  ⟨some 5, true, .mov (.c (.slice 7 [])), none⟩]
def r58_17 : List Op := [
  ⟨some 167, false, .fad (.g 3) 3, none⟩,
  ⟨some 168, false, .load (.v 3) none (.l 0), none⟩,
  ⟨some 169, false, .fad (.g 2) 1, none⟩,
  ⟨some 170, false, .load (.v 2) none (.l 2), none⟩,
  ⟨some 171, false, .bin .gtr (.l 1) (.l 3), none⟩,
  ⟨some 172, false, .mov (.l 4), none⟩,
  ⟨some 173, false, .fad (.g 3) 4, (some (5, false))⟩,
  ⟨some 174, false, .load (.v 3) none (.l 6), (some (5, false))⟩,
  ⟨some 175, false, .fad (.g 2) 3, (some (5, false))⟩,
  ⟨some 176, false, .load (.v 2) none (.l 8), (some (5, false))⟩,
  ⟨some 177, false, .bin .gtr (.l 7) (.l 9), (some (5, false))⟩,
  ⟨some 178, true, .pick (.l 5) (.c (.bool true)) (.l 10), none⟩]
def r58_18 : List Op := [
  ⟨some 179, false, .fad (.g 2) 0, none⟩,
  ⟨some 180, false, .load (.v 2) none (.l 0), none⟩,
  ⟨some 181, false, .fad (.g 3) 3, none⟩,
  ⟨some 182, false, .load (.v 3) none (.l 2), none⟩,
  ⟨some 183, false, .fad (.g 3) 5, none⟩,
  ⟨some 184, false, .load (.v 3) none (.l 4), none⟩,
  ⟨some 185, false, .fad (.g 3) 4, none⟩,
  ⟨some 186, false, .load (.v 3) none (.l 6), none⟩,
  ⟨some 187, false, .fad (.g 3) 6, none⟩,
  ⟨some 188, false, .load (.v 3) none (.l 8), none⟩,
  ⟨some 189, false, .fad (.g 3) 6, none⟩,
  ⟨some 190, false, .load (.v 3) none (.l 10), none⟩,
  ⟨some 191, false, .build [.int .i64 0, .int .i64 0, .slice 1 [], .int .i64 0, .str [], .str [], .slice 1 []] [(0, 1, .l 1), (1, 1, .l 3), (2, 1, .l 5), (3, 1, .l 7), (4, 1, .l 9), (5, 1, .l 11)], none⟩,
  ⟨none, false, .store (.v 2) 7 (.g 2) (.l 12), none⟩]
def r58_19 : List Op := [
  ⟨some 192, false, .load (.v 2) (some 7) (.g 2), none⟩,
  ⟨some 193, false, .fad (.g 2) 0, none⟩,
  ⟨some 194, false, .load (.v 2) none (.l 1), none⟩,
  ⟨some 195, false, .fad (.g 3) 1, none⟩,
  ⟨some 196, false, .load (.v 3) none (.l 3), none⟩,
  ⟨some 197, false, .fad (.g 3) 3, none⟩,
  ⟨some 198, false, .load (.v 3) none (.l 5), none⟩,
  ⟨some 199, false, .fad (.g 3) 4, none⟩,
  ⟨some 200, false, .load (.v 3) none (.l 7), none⟩,
  ⟨some 201, false, .build [.int .i64 0, .int .i64 0, .int .i64 0, .int .i64 0, .int .i64 0, .slice 1 [], .str []] [(0, 1, .c (.int .i64 2)), (1, 1, .l 2), (2, 1, .l 4), (3, 1, .l 6), (4, 1, .l 8)], none⟩,
  ⟨some 202, false, .mks 7 1 [.int .i64 0, .int .i64 0, .int .i64 0, .int .i64 0, .int .i64 0, .slice 1 [], .str []] [(0, .l 9)], none⟩,
  ⟨none, false, .store (.v 4) 7 (.g 4) (.l 0), none⟩,
  ⟨some 5, true, .mov (.l 10), none⟩]
def c58 : C := .seq (.region false r58_0) (.seq (.seq (.region false r58_1) (.cond (.g 16) (.seq (.region false r58_2) (.ret)) (.skip))) (.seq (.seq (.region false r58_3) (.cond (.g 27) (.seq (.region false r58_4) (.ret)) (.skip))) (.seq (.seq (.region false r58_5) (.cond (.g 74) (.seq (.region false r58_6) (.seq (.region true r58_7) (.seq (.seq (.region false r58_8) (.cond (.g 85) (.region false r58_9) (.skip))) (.seq (.region false r58_10) (.ret))))) (.skip))) (.seq (.seq (.region true r58_11) (.cond (.g 134) (.seq (.region false r58_12) (.ret)) (.skip))) (.seq (.seq (.region false r58_13) (.cond (.g 140) (.seq (.region true r58_14) (.ret)) (.skip))) (.seq (.seq (.region false r58_15) (.cond (.g 165) (.seq (.region false r58_16) (.ret)) (.skip))) (.seq (.seq (.region false r58_17) (.cond (.g 178) (.region false r58_18) (.skip))) (.seq (.region true r58_19) (.ret)))))))))
/-- stratigraph.stratigraphref14.Hear -/
def F58 : F := ⟨2, [0, 1, 2, 3, 4, 5, 6, 16, 27, 74, 85, 134, 140, 165, 178], [.cell 4 (some 7), .t 5], none, c58⟩
attribute [go_sem] r58_0 r58_1 r58_2 r58_3 r58_4 r58_5 r58_6 r58_7 r58_8 r58_9 r58_10 r58_11 r58_12 r58_13 r58_14 r58_15 r58_16 r58_17 r58_18 r58_19 c58 F58
def r60_0 : List Op := [
  ⟨some 2, true, .mov (.c (.bool false)), none⟩]
def r60_1 : List Op := [
  ⟨some 3, false, .mov (.g 0), none⟩,
  ⟨some 4, false, .bin .geq (.l 0) (.c (.int .i64 1)), none⟩,
  ⟨some 5, false, .mov (.l 1), none⟩,
  ⟨some 6, false, .mov (.g 0), (some (2, true))⟩,
  ⟨some 7, false, .bin .leq (.l 3) (.c (.int .i64 1099511627776)), (some (2, true))⟩,
  ⟨some 8, false, .pick (.l 2) (.l 4) (.c (.bool false)), none⟩,
  ⟨some 2, true, .mov (.l 5), none⟩]
def c60 : C := .seq (.region false r60_0) (.seq (.region false r60_1) (.ret))
/-- stratigraph.stratigraphref14.number -/
def F60 : F := ⟨1, [0, 2], [.t 2], none, c60⟩
attribute [go_sem] r60_0 r60_1 c60 F60
def r61_0 : List Op := [
  ⟨some 2, true, .mov (.c (.bool false)), none⟩]
def r61_1 : List Op := [
  ⟨some 5, false, .mov (.g 0), none⟩,
  ⟨some 6, false, .len false (.l 0), none⟩,
  ⟨some 7, true, .bin .gtr (.l 1) (.c (.int .i64 8)), none⟩]
def r61_2 : List Op := [
  ⟨some 2, true, .mov (.c (.bool false)), none⟩]
def r61_3 : List Op := [
  ⟨some 3, true, .mov (.c (.int .i64 0)), none⟩]
def r61_4 : List Op := [
  ⟨some 8, false, .mov (.g 3), none⟩,
  ⟨some 9, false, .mov (.g 0), none⟩,
  ⟨some 10, false, .len false (.l 1), none⟩,
  ⟨some 11, true, .bin .lss (.l 0) (.l 2), none⟩]
def r61_5 : List Op := [
  ⟨some 14, false, .mov (.g 0), none⟩,
  ⟨some 15, false, .mov (.g 3), none⟩,
  ⟨some 16, false, .iad 1 (.l 0) (.l 1), none⟩,
  ⟨some 17, false, .load (.c) none (.l 2), none⟩,
  ⟨some 18, false, .bin .lss (.l 3) (.c (.int .i64 1)), none⟩,
  ⟨some 19, false, .mov (.l 4), none⟩,
  ⟨some 20, false, .mov (.g 0), (some (5, false))⟩,
  ⟨some 21, false, .mov (.g 3), (some (5, false))⟩,
  ⟨some 22, false, .iad 1 (.l 6) (.l 7), (some (5, false))⟩,
  ⟨some 23, false, .load (.c) none (.l 8), (some (5, false))⟩,
  ⟨some 24, false, .bin .gtr (.l 9) (.c (.int .i64 255)), (some (5, false))⟩,
  ⟨some 25, true, .pick (.l 5) (.c (.bool true)) (.l 10), none⟩]
def r61_6 : List Op := [
  ⟨some 2, true, .mov (.c (.bool false)), none⟩]
def r61_7 : List Op := [
  ⟨some 4, true, .mov (.c (.int .i64 0)), none⟩]
def r61_8 : List Op := [
  ⟨some 26, false, .mov (.g 4), none⟩,
  ⟨some 27, false, .mov (.g 3), none⟩,
  ⟨some 28, true, .bin .lss (.l 0) (.l 1), none⟩]
def r61_9 : List Op := [
  ⟨some 31, false, .mov (.g 0), none⟩,
  ⟨some 32, false, .mov (.g 4), none⟩,
  ⟨some 33, false, .iad 1 (.l 0) (.l 1), none⟩,
  ⟨some 34, false, .load (.c) none (.l 2), none⟩,
  ⟨some 35, false, .mov (.g 0), none⟩,
  ⟨some 36, false, .mov (.g 3), none⟩,
  ⟨some 37, false, .iad 1 (.l 4) (.l 5), none⟩,
  ⟨some 38, false, .load (.c) none (.l 6), none⟩,
  ⟨some 39, true, .bin .eql (.l 3) (.l 7), none⟩]
def r61_10 : List Op := [
  ⟨some 2, true, .mov (.c (.bool false)), none⟩]
def r61_11 : List Op := [
  ⟨some 29, false, .mov (.g 4), none⟩,
  ⟨some 30, false, .bin .add (.l 0) (.c (.int .i64 1)), none⟩,
  ⟨some 4, true, .mov (.l 1), none⟩]
def b61_1 : C := .seq (.seq (.region false r61_8) (.cond (.g 28) (.skip) (.exit 2))) (.seq (.block 3 (.seq (.region true r61_9) (.cond (.g 39) (.seq (.region false r61_10) (.ret)) (.skip)))) (.region false r61_11))
def l61_1 : C := .loop [] [] [] [] b61_1
def r61_12 : List Op := [
  ⟨some 12, false, .mov (.g 3), none⟩,
  ⟨some 13, false, .bin .add (.l 0) (.c (.int .i64 1)), none⟩,
  ⟨some 3, true, .mov (.l 1), none⟩]
def b61_0 : C := .seq (.seq (.region false r61_4) (.cond (.g 11) (.skip) (.exit 0))) (.seq (.block 1 (.seq (.seq (.region false r61_5) (.cond (.g 25) (.seq (.region false r61_6) (.ret)) (.skip))) (.seq (.region false r61_7) (.block 2 (l61_1))))) (.region false r61_12))
def l61_0 : C := .loop [] [] [] [] b61_0
def r61_13 : List Op := [
  ⟨some 2, true, .mov (.c (.bool true)), none⟩]
def c61 : C := .seq (.region false r61_0) (.seq (.seq (.region false r61_1) (.cond (.g 7) (.seq (.region false r61_2) (.ret)) (.skip))) (.seq (.seq (.region false r61_3) (.block 0 (l61_0))) (.seq (.region false r61_13) (.ret))))
/-- stratigraph.stratigraphref14.Set -/
def F61 : F := ⟨1, [0, 2, 3, 4, 7, 11, 25, 28, 39], [.t 2], none, c61⟩
attribute [go_sem] r61_0 r61_1 r61_2 r61_3 r61_4 r61_5 r61_6 r61_7 r61_8 r61_9 r61_10 r61_11 b61_1 r61_12 b61_0 r61_13 c61 F61
def r62_0 : List Op := [
  ⟨some 4, true, .mov (.c (.bool false)), none⟩]
def r62_1 : List Op := [
  ⟨some 5, true, .mov (.c (.int .i64 0)), none⟩]
def r62_2 : List Op := [
  ⟨some 6, false, .mov (.g 5), none⟩,
  ⟨some 7, false, .mov (.g 0), none⟩,
  ⟨some 8, false, .len false (.l 1), none⟩,
  ⟨some 9, true, .bin .lss (.l 0) (.l 2), none⟩]
def r62_3 : List Op := [
  ⟨some 12, false, .mov (.g 0), none⟩,
  ⟨some 13, false, .mov (.g 5), none⟩,
  ⟨some 14, false, .iad 1 (.l 0) (.l 1), none⟩,
  ⟨some 15, false, .load (.c) none (.l 2), none⟩,
  ⟨some 16, false, .mov (.g 1), none⟩,
  ⟨some 17, true, .bin .eql (.l 3) (.l 4), none⟩]
def r62_4 : List Op := [
  ⟨some 4, true, .mov (.c (.bool true)), none⟩]
def r62_5 : List Op := [
  ⟨some 10, false, .mov (.g 5), none⟩,
  ⟨some 11, false, .bin .add (.l 0) (.c (.int .i64 1)), none⟩,
  ⟨some 5, true, .mov (.l 1), none⟩]
def b62_0 : C := .seq (.seq (.region false r62_2) (.cond (.g 9) (.skip) (.exit 0))) (.seq (.block 1 (.seq (.region false r62_3) (.cond (.g 17) (.seq (.region false r62_4) (.ret)) (.skip)))) (.region false r62_5))
def l62_0 : C := .loop [] [] [] [] b62_0
def r62_6 : List Op := [
  ⟨some 4, true, .mov (.c (.bool false)), none⟩]
def c62 : C := .seq (.region false r62_0) (.seq (.seq (.region false r62_1) (.block 0 (l62_0))) (.seq (.region false r62_6) (.ret)))
/-- stratigraph.stratigraphref14.in -/
def F62 : F := ⟨2, [0, 1, 4, 5, 9, 17], [.t 4], none, c62⟩
attribute [go_sem] r62_0 r62_1 r62_2 r62_3 r62_4 r62_5 b62_0 r62_6 c62 F62
def r63_0 : List Op := [
  ⟨some 4, true, .mov (.c (.bool false)), none⟩]
def r63_1 : List Op := [
  ⟨some 5, false, .mov (.g 0), none⟩,
  ⟨some 6, false, .mov (.g 1), none⟩,
  ⟨some 7, false, .bin .geq (.l 0) (.l 1), none⟩,
  ⟨some 8, false, .mov (.l 2), none⟩,
  ⟨some 9, false, .mov (.g 0), (some (3, true))⟩,
  ⟨some 10, false, .bin .leq (.l 4) (.c (.int .i64 1099511627776)), (some (3, true))⟩,
  ⟨some 11, false, .pick (.l 3) (.l 5) (.c (.bool false)), none⟩,
  ⟨some 4, true, .mov (.l 6), none⟩]
def c63 : C := .seq (.region false r63_0) (.seq (.region false r63_1) (.ret))
/-- stratigraph.group.number -/
def F63 : F := ⟨2, [0, 1, 4], [.t 4], none, c63⟩
attribute [go_sem] r63_0 r63_1 c63 F63
def r64_0 : List Op := [
  ⟨some 2, true, .mov (.c (.bool false)), none⟩]
def r64_1 : List Op := [
  ⟨some 5, true, .mov (.g 0), none⟩,
  ⟨some 6, true, .len false (.l 0), none⟩,
  ⟨some 7, true, .mov (.c (.int .i64 0)), none⟩]
def r64_2 : List Op := [
  ⟨some 8, true, .bin .lss (.g 7) (.g 6), none⟩]
def r64_3 : List Op := [
  ⟨some 9, false, .mov (.g 7), none⟩,
  ⟨some 10, false, .iad 1 (.g 5) (.g 7), none⟩,
  ⟨some 11, false, .load (.c) none (.l 1), none⟩,
  ⟨some 3, true, .mov (.l 0), none⟩,
  ⟨some 4, true, .mov (.l 2), none⟩]
def r64_4 : List Op := [
  ⟨some 12, false, .mov (.g 4), none⟩,
  ⟨some 13, false, .bin .lss (.l 0) (.c (.int .i64 1)), none⟩,
  ⟨some 14, false, .mov (.l 1), none⟩,
  ⟨some 15, false, .mov (.g 4), (some (2, false))⟩,
  ⟨some 16, false, .bin .gtr (.l 3) (.c (.int .i64 255)), (some (2, false))⟩,
  ⟨some 17, false, .pick (.l 2) (.c (.bool true)) (.l 4), none⟩,
  ⟨some 18, false, .mov (.l 5), none⟩,
  ⟨some 19, false, .mov (.g 0), (some (6, false))⟩,
  ⟨some 20, false, .mov (.g 3), (some (6, false))⟩,
  ⟨some 21, false, .sl false 1 (.l 7) none (some (.l 8)), (some (6, false))⟩,
  ⟨some 22, false, .mov (.g 4), (some (6, false))⟩,
  ⟨some 23, false, .call (.k 65) .no none [.l 9, .l 10], (some (6, false))⟩,
  ⟨some 24, true, .pick (.l 6) (.c (.bool true)) (.l 11), none⟩]
def r64_5 : List Op := [
  ⟨some 2, true, .mov (.c (.bool false)), none⟩]
def r64_6 : List Op := [
  ⟨some 25, false, .bin .add (.g 7) (.c (.int .i64 1)), none⟩,
  ⟨some 7, true, .mov (.l 0), none⟩]
def b64_0 : C := .seq (.region false r64_2) (.seq (.cond (.g 8) (.skip) (.exit 0)) (.seq (.block 1 (.seq (.region false r64_3) (.seq (.region false r64_4) (.cond (.g 24) (.seq (.region false r64_5) (.ret)) (.skip))))) (.region false r64_6)))
def l64_0 : C := .loop [] [] [] [] b64_0
def r64_7 : List Op := [
  ⟨some 26, false, .mov (.g 0), none⟩,
  ⟨some 27, false, .len false (.l 0), none⟩,
  ⟨some 28, false, .bin .leq (.l 1) (.c (.int .i64 8)), none⟩,
  ⟨some 2, true, .mov (.l 2), none⟩]
def c64 : C := .seq (.region false r64_0) (.seq (.seq (.region false r64_1) (.block 0 (l64_0))) (.seq (.region false r64_7) (.ret)))
/-- stratigraph.group.set -/
def F64 : F := ⟨1, [0, 2, 3, 4, 5, 6, 7, 8, 24], [.t 2], none, c64⟩
attribute [go_sem] r64_0 r64_1 r64_2 r64_3 r64_4 r64_5 r64_6 b64_0 r64_7 c64 F64
def r65_0 : List Op := [
  ⟨some 4, true, .mov (.c (.bool false)), none⟩]
def r65_1 : List Op := [
  ⟨some 5, false, .mov (.g 0), none⟩,
  ⟨some 6, false, .mov (.g 1), none⟩,
  ⟨some 7, false, .call (.k 75) .no none [.l 0, .l 1], none⟩,
  ⟨some 8, false, .bin .geq (.l 2) (.c (.int .i64 0)), none⟩,
  ⟨some 4, true, .mov (.l 3), none⟩]
def c65 : C := .seq (.region false r65_0) (.seq (.region false r65_1) (.ret))
/-- slices.Contains[[]int,int] -/
def F65 : F := ⟨2, [0, 1, 4], [.t 4], none, c65⟩
attribute [go_sem] r65_0 r65_1 c65 F65
def r66_0 : List Op := [
  ⟨some 3, true, .mov (.c (.bool false)), none⟩]
def r66_1 : List Op := [
  ⟨some 4, false, .fad (.g 1) 2, none⟩,
  ⟨some 5, false, .load (.c) none (.l 0), none⟩,
  ⟨some 6, false, .mov (.g 0), none⟩,
  ⟨some 7, false, .call (.k 65) .no none [.l 1, .l 2], none⟩,
  ⟨some 8, false, .un .not (.l 3), none⟩,
  ⟨some 3, true, .mov (.l 4), none⟩]
def c66 : C := .seq (.region false r66_0) (.seq (.region false r66_1) (.ret))
/-- stratigraph.group.Right fn 1 -/
def F66 : F := ⟨2, [0, 1, 3], [.t 3], none, c66⟩
attribute [go_sem] r66_0 r66_1 c66 F66
def r67_0 : List Op := [
  ⟨some 4, true, .mov (.c (.bool false)), none⟩]
def r67_1 : List Op := [
  ⟨some 5, false, .mov (.g 0), none⟩,
  ⟨some 6, false, .mov (.g 1), none⟩,
  ⟨some 7, false, .call (.k 76) .no none [.l 0, .l 1], none⟩,
  ⟨some 8, false, .bin .geq (.l 2) (.c (.int .i64 0)), none⟩,
  ⟨some 4, true, .mov (.l 3), none⟩]
def c67 : C := .seq (.region false r67_0) (.seq (.region false r67_1) (.ret))
/-- slices.ContainsFunc[[]int,int] -/
def F67 : F := ⟨2, [0, 1, 4], [.t 4], none, c67⟩
attribute [go_sem] r67_0 r67_1 c67 F67
def r68_0 : List Op := [
  ⟨some 1, true, .box (.g 0), none⟩,
  ⟨some 2, true, .mov (.c (.bool false)), none⟩]
def r68_1 : List Op := [
  ⟨some 3, false, .fad (.g 1) 2, none⟩,
  ⟨some 4, false, .load (.v 1) none (.l 0), none⟩,
  ⟨some 5, false, .len false (.l 1), none⟩,
  ⟨some 6, false, .bin .gtr (.l 2) (.c (.int .i64 0)), none⟩,
  ⟨some 7, false, .mov (.l 3), none⟩,
  ⟨some 8, false, .fad (.g 1) 2, (some (4, true))⟩,
  ⟨some 9, false, .load (.v 1) none (.l 5), (some (4, true))⟩,
  ⟨some 10, false, .iad 1 (.l 6) (.c (.int .i64 0)), (some (4, true))⟩,
  ⟨some 11, false, .load (.c) none (.l 7), (some (4, true))⟩,
  ⟨some 12, false, .fad (.g 1) 0, (some (4, true))⟩,
  ⟨some 13, false, .load (.v 1) none (.l 9), (some (4, true))⟩,
  ⟨some 14, false, .bin .eql (.l 8) (.l 10), (some (4, true))⟩,
  ⟨some 15, false, .pick (.l 4) (.l 11) (.c (.bool false)), none⟩,
  ⟨some 2, true, .mov (.l 12), none⟩]
def c68 : C := .seq (.region false r68_0) (.seq (.region true r68_1) (.ret))
/-- stratigraph.group.leads -/
def F68 : F := ⟨1, [0, 1, 2], [.t 2], none, c68⟩
attribute [go_sem] r68_0 r68_1 c68 F68
def r70_0 : List Op := [
  ⟨some 4, true, .mov (.c (.bool false)), none⟩]
def r70_1 : List Op := [
  ⟨some 6, false, .mov (.g 0), none⟩,
  ⟨some 7, false, .len false (.l 0), none⟩,
  ⟨some 8, false, .mov (.g 1), none⟩,
  ⟨some 9, false, .len false (.l 2), none⟩,
  ⟨some 10, true, .bin .neq (.l 1) (.l 3), none⟩]
def r70_2 : List Op := [
  ⟨some 4, true, .mov (.c (.bool false)), none⟩]
def r70_3 : List Op := [
  ⟨some 5, true, .mov (.c (.int .i64 0)), none⟩]
def r70_4 : List Op := [
  ⟨some 11, false, .mov (.g 5), none⟩,
  ⟨some 12, false, .mov (.g 0), none⟩,
  ⟨some 13, false, .len false (.l 1), none⟩,
  ⟨some 14, true, .bin .lss (.l 0) (.l 2), none⟩]
def r70_5 : List Op := [
  ⟨some 17, false, .mov (.g 0), none⟩,
  ⟨some 18, false, .mov (.g 5), none⟩,
  ⟨some 19, false, .iad 1 (.l 0) (.l 1), none⟩,
  ⟨some 20, false, .load (.c) none (.l 2), none⟩,
  ⟨some 21, false, .mov (.g 1), none⟩,
  ⟨some 22, false, .mov (.g 5), none⟩,
  ⟨some 23, false, .iad 1 (.l 4) (.l 5), none⟩,
  ⟨some 24, false, .load (.c) none (.l 6), none⟩,
  ⟨some 25, true, .bin .neq (.l 3) (.l 7), none⟩]
def r70_6 : List Op := [
  ⟨some 4, true, .mov (.c (.bool false)), none⟩]
def r70_7 : List Op := [
  ⟨some 15, false, .mov (.g 5), none⟩,
  ⟨some 16, false, .bin .add (.l 0) (.c (.int .i64 1)), none⟩,
  ⟨some 5, true, .mov (.l 1), none⟩]
def b70_0 : C := .seq (.seq (.region false r70_4) (.cond (.g 14) (.skip) (.exit 0))) (.seq (.block 1 (.seq (.region true r70_5) (.cond (.g 25) (.seq (.region false r70_6) (.ret)) (.skip)))) (.region false r70_7))
def l70_0 : C := .loop [] [] [] [] b70_0
def r70_8 : List Op := [
  ⟨some 4, true, .mov (.c (.bool true)), none⟩]
def c70 : C := .seq (.region false r70_0) (.seq (.seq (.region false r70_1) (.cond (.g 10) (.seq (.region false r70_2) (.ret)) (.skip))) (.seq (.seq (.region false r70_3) (.block 0 (l70_0))) (.seq (.region false r70_8) (.ret))))
/-- stratigraph.stratigraphref14.same -/
def F70 : F := ⟨2, [0, 1, 4, 5, 10, 14, 25], [.t 4], none, c70⟩
attribute [go_sem] r70_0 r70_1 r70_2 r70_3 r70_4 r70_5 r70_6 r70_7 b70_0 r70_8 c70 F70
def r71_0 : List Op := [
  ⟨some 1, true, .box (.g 0), none⟩,
  ⟨some 2, true, .alloc [.int .i64 0, .int .i64 0, .slice 1 [], .int .i64 0, .str [], .str [], .slice 1 []], none⟩]
def r71_1 : List Op := [
  ⟨some 3, false, .fad (.g 1) 6, none⟩,
  ⟨some 4, false, .load (.v 1) none (.l 0), none⟩,
  ⟨some 5, false, .len false (.l 1), none⟩,
  ⟨some 6, false, .fad (.g 1) 2, none⟩,
  ⟨some 7, false, .load (.v 1) none (.l 3), none⟩,
  ⟨some 8, false, .len false (.l 4), none⟩,
  ⟨some 9, true, .bin .eql (.l 2) (.l 5), none⟩]
def r71_2 : List Op := [
  ⟨some 10, false, .fad (.g 1) 5, none⟩,
  ⟨some 11, false, .load (.v 1) none (.l 0), none⟩,
  ⟨some 12, false, .fad (.g 1) 4, none⟩,
  ⟨none, false, .store (.v 1) 1 (.l 2) (.l 1), none⟩]
def r71_3 : List Op := [
  ⟨some 13, false, .load (.v 1) (some 7) (.g 1), none⟩,
  ⟨none, false, .store (.v 2) 7 (.g 2) (.l 0), none⟩]
def c71 : C := .seq (.region false r71_0) (.seq (.seq (.region false r71_1) (.cond (.g 9) (.region false r71_2) (.skip))) (.seq (.region false r71_3) (.ret)))
/-- stratigraph.group.fixed -/
def F71 : F := ⟨1, [0, 1, 2, 9], [.cell 2 (some 7)], none, c71⟩
attribute [go_sem] r71_0 r71_1 r71_2 r71_3 c71 F71
def r72_0 : List Op := [
  ⟨some 1, true, .box (.g 0), none⟩,
  ⟨some 2, true, .mov (.c (.slice 7 [])), none⟩]
def r72_1 : List Op := [
  ⟨some 3, true, .mko 7, none⟩]
def r72_2 : List Op := [
  ⟨some 6, false, .fad (.g 1) 2, none⟩,
  ⟨some 7, true, .load (.v 1) none (.l 0), none⟩,
  ⟨some 8, true, .len false (.l 1), none⟩,
  ⟨some 9, true, .mov (.c (.int .i64 0)), none⟩]
def r72_3 : List Op := [
  ⟨some 10, true, .bin .lss (.g 9) (.g 8), none⟩]
def r72_4 : List Op := [
  ⟨some 11, false, .iad 1 (.g 7) (.g 9), none⟩,
  ⟨some 12, false, .load (.c) none (.l 0), none⟩,
  ⟨some 5, true, .mov (.l 1), none⟩]
def r72_5 : List Op := [
  ⟨some 13, false, .fad (.g 1) 6, none⟩,
  ⟨some 14, false, .load (.v 1) none (.l 0), none⟩,
  ⟨some 15, false, .mov (.g 5), none⟩,
  ⟨some 16, false, .call (.k 65) .no none [.l 1, .l 2], none⟩,
  ⟨some 17, true, .un .not (.l 3), none⟩]
def r72_6 : List Op := [
  ⟨some 18, false, .mov (.g 3), none⟩,
  ⟨some 19, false, .fad (.g 1) 0, none⟩,
  ⟨some 20, false, .load (.v 1) none (.l 1), none⟩,
  ⟨some 21, false, .mov (.g 5), none⟩,
  ⟨some 22, false, .fad (.g 1) 1, none⟩,
  ⟨some 23, false, .load (.v 1) none (.l 4), none⟩,
  ⟨some 24, false, .fad (.g 1) 3, none⟩,
  ⟨some 25, false, .load (.v 1) none (.l 6), none⟩,
  ⟨some 26, false, .fad (.g 1) 2, none⟩,
  ⟨some 27, false, .load (.v 1) none (.l 8), none⟩,
  ⟨some 28, false, .call (.k 69) .no none [.l 9], none⟩,
  ⟨some 29, false, .fad (.g 1) 5, none⟩,
  ⟨some 30, false, .load (.v 1) none (.l 11), none⟩,
  ⟨some 31, false, .build [.int .i64 0, .int .i64 0, .int .i64 0, .int .i64 0, .int .i64 0, .slice 1 [], .str []] [(0, 1, .c (.int .i64 1)), (1, 1, .l 2), (2, 1, .l 3), (3, 1, .l 5), (4, 1, .l 7), (5, 1, .l 10), (6, 1, .l 12)], none⟩,
  ⟨some 32, false, .mks 7 1 [.int .i64 0, .int .i64 0, .int .i64 0, .int .i64 0, .int .i64 0, .slice 1 [], .str []] [(0, .l 13)], none⟩,
  ⟨some 33, false, .app 3 7 (.l 0) (.l 14), none⟩,
  ⟨some 3, true, .mov (.l 15), none⟩]
def r72_7 : List Op := [
  ⟨some 34, false, .bin .add (.g 9) (.c (.int .i64 1)), none⟩,
  ⟨some 9, true, .mov (.l 0), none⟩]
def b72_0 : C := .seq (.region false r72_3) (.seq (.cond (.g 10) (.skip) (.exit 0)) (.seq (.block 1 (.seq (.region false r72_4) (.seq (.region false r72_5) (.cond (.g 17) (.region true r72_6) (.skip))))) (.region false r72_7)))
def l72_0 : C := .loop [] [] [] [] b72_0
def r72_8 : List Op := [
  ⟨some 35, false, .mov (.g 3), none⟩,
  ⟨some 2, true, .mov (.l 0), none⟩]
def c72 : C := .seq (.region false r72_0) (.seq (.region false r72_1) (.seq (.seq (.region false r72_2) (.block 0 (l72_0))) (.seq (.region false r72_8) (.ret))))
/-- stratigraph.group.ships -/
def F72 : F := ⟨1, [0, 1, 2, 3, 5, 7, 8, 9, 10, 17], [.t 2], none, c72⟩
attribute [go_sem] r72_0 r72_1 r72_2 r72_3 r72_4 r72_5 r72_6 r72_7 b72_0 r72_8 c72 F72
def r73_0 : List Op := [
  ⟨some 6, true, .mov (.c (.bool false)), none⟩]
def r73_1 : List Op := [
  ⟨some 7, false, .mov (.g 0), none⟩,
  ⟨some 8, false, .len false (.l 0), none⟩,
  ⟨some 9, false, .bin .gtr (.l 1) (.c (.int .i64 0)), none⟩,
  ⟨some 10, false, .mov (.l 2), none⟩,
  ⟨some 11, false, .mov (.g 0), (some (3, true))⟩,
  ⟨some 12, false, .call (.k 64) .no none [.l 4], (some (3, true))⟩,
  ⟨some 13, false, .pick (.l 3) (.l 5) (.c (.bool false)), none⟩,
  ⟨some 14, false, .mov (.l 6), none⟩,
  ⟨some 15, false, .mov (.g 0), (some (7, true))⟩,
  ⟨some 16, false, .mov (.g 1), (some (7, true))⟩,
  ⟨some 17, false, .call (.k 65) .no none [.l 8, .l 9], (some (7, true))⟩,
  ⟨some 18, false, .pick (.l 7) (.l 10) (.c (.bool false)), none⟩,
  ⟨some 19, false, .mov (.l 11), none⟩,
  ⟨some 20, false, .mov (.g 0), (some (12, true))⟩,
  ⟨some 21, false, .iad 1 (.l 13) (.c (.int .i64 0)), (some (12, true))⟩,
  ⟨some 22, false, .load (.c) none (.l 14), (some (12, true))⟩,
  ⟨some 23, false, .mov (.g 2), (some (12, true))⟩,
  ⟨some 24, false, .bin .eql (.l 15) (.l 16), (some (12, true))⟩,
  ⟨some 25, false, .pick (.l 12) (.l 17) (.c (.bool false)), none⟩,
  ⟨some 6, true, .mov (.l 18), none⟩]
def c73 : C := .seq (.region false r73_0) (.seq (.region false r73_1) (.ret))
/-- stratigraph.group.members -/
def F73 : F := ⟨3, [0, 1, 2, 6], [.t 6], none, c73⟩
attribute [go_sem] r73_0 r73_1 c73 F73
def r74_0 : List Op := [
  ⟨some 2, true, .box (.g 0), none⟩,
  ⟨some 3, true, .box (.g 1), none⟩,
  ⟨some 4, true, .alloc [.int .i64 0, .int .i64 0, .slice 1 [], .int .i64 0, .str [], .str [], .slice 1 []], none⟩,
  ⟨some 5, true, .mov (.c (.slice 7 [])), none⟩]
def r74_1 : List Op := [
  ⟨some 7, false, .fad (.g 3) 1, none⟩,
  ⟨some 8, false, .load (.v 3) none (.l 0), none⟩,
  ⟨some 9, false, .fad (.g 2) 0, none⟩,
  ⟨some 10, false, .load (.v 2) none (.l 2), none⟩,
  ⟨some 11, false, .bin .eql (.l 1) (.l 3), none⟩,
  ⟨some 12, false, .mov (.l 4), none⟩,
  ⟨some 13, false, .fad (.g 3) 5, (some (5, false))⟩,
  ⟨some 14, false, .load (.v 3) none (.l 6), (some (5, false))⟩,
  ⟨some 15, false, .fad (.g 2) 0, (some (5, false))⟩,
  ⟨some 16, false, .load (.v 2) none (.l 8), (some (5, false))⟩,
  ⟨some 17, false, .fad (.g 3) 1, (some (5, false))⟩,
  ⟨some 18, false, .load (.v 3) none (.l 10), (some (5, false))⟩,
  ⟨some 19, false, .call (.k 73) .no none [.l 7, .l 9, .l 11], (some (5, false))⟩,
  ⟨some 20, false, .un .not (.l 12), (some (5, false))⟩,
  ⟨some 21, false, .pick (.l 5) (.c (.bool true)) (.l 13), none⟩,
  ⟨some 22, false, .mov (.l 14), none⟩,
  ⟨some 23, false, .fad (.g 3) 3, (some (15, false))⟩,
  ⟨some 24, false, .load (.v 3) none (.l 16), (some (15, false))⟩,
  ⟨some 25, false, .call (.k 63) .no none [.l 17, .c (.int .i64 1)], (some (15, false))⟩,
  ⟨some 26, false, .un .not (.l 18), (some (15, false))⟩,
  ⟨some 27, false, .pick (.l 15) (.c (.bool true)) (.l 19), none⟩,
  ⟨some 28, false, .mov (.l 20), none⟩,
  ⟨some 29, false, .fad (.g 3) 4, (some (21, false))⟩,
  ⟨some 30, false, .load (.v 3) none (.l 22), (some (21, false))⟩,
  ⟨some 31, false, .call (.k 63) .no none [.l 23, .c (.int .i64 1)], (some (21, false))⟩,
  ⟨some 32, false, .un .not (.l 24), (some (21, false))⟩,
  ⟨some 33, true, .pick (.l 21) (.c (.bool true)) (.l 25), none⟩]
def r74_2 : List Op := [
  ⟨some 34, false, .load (.v 2) (some 7) (.g 2), none⟩,
  ⟨none, false, .store (.v 4) 7 (.g 4) (.l 0), none⟩,
  ⟨some 5, true, .mov (.c (.slice 7 [])), none⟩]
def r74_3 : List Op := [
  ⟨some 35, false, .fad (.g 3) 3, none⟩,
  ⟨some 36, false, .load (.v 3) none (.l 0), none⟩,
  ⟨some 37, false, .fad (.g 2) 1, none⟩,
  ⟨some 38, false, .load (.v 2) none (.l 2), none⟩,
  ⟨some 39, true, .bin .lss (.l 1) (.l 3), none⟩]
def r74_4 : List Op := [
  ⟨some 40, false, .load (.v 2) (some 7) (.g 2), none⟩,
  ⟨some 41, false, .fad (.g 2) 0, none⟩,
  ⟨some 42, false, .load (.v 2) none (.l 1), none⟩,
  ⟨some 43, false, .fad (.g 3) 1, none⟩,
  ⟨some 44, false, .load (.v 3) none (.l 3), none⟩,
  ⟨some 45, false, .fad (.g 2) 1, none⟩,
  ⟨some 46, false, .load (.v 2) none (.l 5), none⟩,
  ⟨some 47, false, .build [.int .i64 0, .int .i64 0, .int .i64 0, .int .i64 0, .int .i64 0, .slice 1 [], .str []] [(0, 1, .c (.int .i64 3)), (1, 1, .l 2), (2, 1, .l 4), (3, 1, .l 6)], none⟩,
  ⟨some 48, false, .mks 7 1 [.int .i64 0, .int .i64 0, .int .i64 0, .int .i64 0, .int .i64 0, .slice 1 [], .str []] [(0, .l 7)], none⟩,
  ⟨none, false, .store (.v 4) 7 (.g 4) (.l 0), none⟩,
  ⟨some 5, true, .mov (.l 8), none⟩]
def r74_5 : List Op := [
  ⟨some 49, false, .fad (.g 3) 3, none⟩,
  ⟨some 50, false, .load (.v 3) none (.l 0), none⟩,
  ⟨some 51, false, .fad (.g 2) 1, none⟩,
  ⟨some 52, false, .load (.v 2) none (.l 2), none⟩,
  ⟨some 53, false, .bin .eql (.l 1) (.l 3), none⟩,
  ⟨some 6, true, .mov (.l 4), none⟩]
def r74_6 : List Op := [
  ⟨some 55, false, .mov (.g 6), none⟩,
  ⟨some 56, false, .mov (.l 0), none⟩,
  ⟨some 57, false, .load (.v 2) (some 7) (.g 2), (some (1, true))⟩,
  ⟨some 58, false, .call (.k 68) .no none [.l 2], (some (1, true))⟩,
  ⟨some 59, false, .mov (.l 3), (some (1, true))⟩,
  ⟨some 60, false, .fad (.g 3) 4, (some (4, false))⟩,
  ⟨some 61, false, .load (.v 3) none (.l 5), (some (4, false))⟩,
  ⟨some 62, false, .fad (.g 2) 3, (some (4, false))⟩,
  ⟨some 63, false, .load (.v 2) none (.l 7), (some (4, false))⟩,
  ⟨some 64, false, .bin .lss (.l 6) (.l 8), (some (4, false))⟩,
  ⟨some 65, false, .pick (.l 4) (.c (.bool true)) (.l 9), (some (1, true))⟩,
  ⟨some 66, false, .pick (.l 1) (.l 10) (.c (.bool false)), none⟩,
  ⟨some 54, true, .mov (.l 11), none⟩]
def r74_7 : List Op := [
  ⟨some 67, false, .load (.v 2) (some 7) (.g 2), none⟩,
  ⟨none, false, .store (.v 4) 7 (.g 4) (.l 0), none⟩,
  ⟨some 5, true, .mov (.c (.slice 7 [])), none⟩]
def r74_8 : List Op := [
  ⟨some 69, false, .mov (.g 6), none⟩,
  ⟨some 70, false, .un .not (.l 0), none⟩,
  ⟨some 71, false, .mov (.l 1), none⟩,
  ⟨some 72, false, .fad (.g 3) 4, (some (2, false))⟩,
  ⟨some 73, false, .load (.v 3) none (.l 3), (some (2, false))⟩,
  ⟨some 74, false, .fad (.g 2) 3, (some (2, false))⟩,
  ⟨some 75, false, .load (.v 2) none (.l 5), (some (2, false))⟩,
  ⟨some 76, false, .bin .gtr (.l 4) (.l 6), (some (2, false))⟩,
  ⟨some 77, false, .pick (.l 2) (.c (.bool true)) (.l 7), none⟩,
  ⟨some 68, true, .mov (.l 8), none⟩]
def r74_9 : List Op := [
  ⟨some 78, false, .fad (.g 3) 3, none⟩,
  ⟨some 79, false, .load (.v 3) none (.l 0), none⟩,
  ⟨some 80, false, .fad (.g 3) 5, none⟩,
  ⟨some 81, false, .load (.v 3) none (.l 2), none⟩,
  ⟨some 82, false, .call (.k 69) .no none [.l 3], none⟩,
  ⟨some 83, false, .fad (.g 3) 4, none⟩,
  ⟨some 84, false, .load (.v 3) none (.l 5), none⟩,
  ⟨some 85, false, .fad (.g 2) 1, none⟩,
  ⟨none, false, .store (.v 2) 1 (.l 7) (.l 1), none⟩,
  ⟨some 86, false, .fad (.g 2) 2, none⟩,
  ⟨none, false, .store (.v 2) 1 (.l 9) (.l 4), none⟩,
  ⟨some 87, false, .fad (.g 2) 3, none⟩,
  ⟨none, false, .store (.v 2) 1 (.l 11) (.l 6), none⟩]
def r74_10 : List Op := [
  ⟨some 88, false, .fad (.g 3) 6, none⟩,
  ⟨some 89, false, .load (.v 3) none (.l 0), none⟩,
  ⟨some 90, false, .fad (.g 3) 6, none⟩,
  ⟨some 91, false, .load (.v 3) none (.l 2), none⟩,
  ⟨some 92, false, .fad (.g 2) 4, none⟩,
  ⟨none, false, .store (.v 2) 1 (.l 4) (.l 1), none⟩,
  ⟨some 93, false, .fad (.g 2) 5, none⟩,
  ⟨none, false, .store (.v 2) 1 (.l 6) (.l 3), none⟩,
  ⟨some 94, false, .fad (.g 2) 6, none⟩,
  ⟨none, false, .store (.v 2) 1 (.l 8) (.c (.slice 1 [])), none⟩]
def r74_11 : List Op := [
  ⟨some 95, false, .load (.v 2) (some 7) (.g 2), none⟩,
  ⟨some 96, false, .fad (.g 2) 0, none⟩,
  ⟨some 97, false, .load (.v 2) none (.l 1), none⟩,
  ⟨some 98, false, .fad (.g 3) 1, none⟩,
  ⟨some 99, false, .load (.v 3) none (.l 3), none⟩,
  ⟨some 100, false, .fad (.g 2) 1, none⟩,
  ⟨some 101, false, .load (.v 2) none (.l 5), none⟩,
  ⟨some 102, false, .fad (.g 2) 3, none⟩,
  ⟨some 103, false, .load (.v 2) none (.l 7), none⟩,
  ⟨some 104, false, .build [.int .i64 0, .int .i64 0, .int .i64 0, .int .i64 0, .int .i64 0, .slice 1 [], .str []] [(0, 1, .c (.int .i64 2)), (1, 1, .l 2), (2, 1, .l 4), (3, 1, .l 6), (4, 1, .l 8)], none⟩,
  ⟨some 105, false, .mks 7 1 [.int .i64 0, .int .i64 0, .int .i64 0, .int .i64 0, .int .i64 0, .slice 1 [], .str []] [(0, .l 9)], none⟩,
  ⟨none, false, .store (.v 4) 7 (.g 4) (.l 0), none⟩,
  ⟨some 5, true, .mov (.l 10), none⟩]
def c74 : C := .seq (.region false r74_0) (.seq (.seq (.region false r74_1) (.cond (.g 33) (.seq (.region false r74_2) (.ret)) (.skip))) (.seq (.seq (.region false r74_3) (.cond (.g 39) (.seq (.region true r74_4) (.ret)) (.skip))) (.seq (.region false r74_5) (.seq (.block 0 (.seq (.region false r74_6) (.cond (.g 54) (.seq (.region false r74_7) (.ret)) (.seq (.region false r74_8) (.cond (.g 68) (.seq (.region true r74_9) (.region true r74_10)) (.skip)))))) (.seq (.region true r74_11) (.ret))))))
/-- stratigraph.group.ship -/
def F74 : F := ⟨2, [0, 1, 2, 3, 4, 5, 6, 33, 39, 54, 68], [.cell 4 (some 7), .t 5], none, c74⟩
attribute [go_sem] r74_0 r74_1 r74_2 r74_3 r74_4 r74_5 r74_6 r74_7 r74_8 r74_9 r74_10 r74_11 c74 F74
def r75_0 : List Op := [
  ⟨some 4, true, .mov (.c (.int .i64 0)), none⟩]
def r75_1 : List Op := [
  ⟨some 6, false, .mov (.g 0), none⟩,
  ⟨some 7, true, .len false (.l 0), none⟩,
  ⟨some 8, true, .mov (.c (.int .i64 0)), none⟩]
def r75_2 : List Op := [
  ⟨some 9, true, .bin .lss (.g 8) (.g 7), none⟩]
def r75_3 : List Op := [
  ⟨some 10, false, .mov (.g 8), none⟩,
  ⟨some 5, true, .mov (.l 0), none⟩]
def r75_4 : List Op := [
  ⟨some 11, false, .mov (.g 1), none⟩,
  ⟨some 12, false, .mov (.g 0), none⟩,
  ⟨some 13, false, .mov (.g 5), none⟩,
  ⟨some 14, false, .iad 1 (.l 1) (.l 2), none⟩,
  ⟨some 15, false, .load (.c) none (.l 3), none⟩,
  ⟨some 16, true, .bin .eql (.l 0) (.l 4), none⟩]
def r75_5 : List Op := [
  ⟨some 17, false, .mov (.g 5), none⟩,
  ⟨some 4, true, .mov (.l 0), none⟩]
def r75_6 : List Op := [
  ⟨some 18, false, .bin .add (.g 8) (.c (.int .i64 1)), none⟩,
  ⟨some 8, true, .mov (.l 0), none⟩]
def b75_0 : C := .seq (.region false r75_2) (.seq (.cond (.g 9) (.skip) (.exit 0)) (.seq (.block 1 (.seq (.region false r75_3) (.seq (.region false r75_4) (.cond (.g 16) (.seq (.region false r75_5) (.ret)) (.skip))))) (.region false r75_6)))
def l75_0 : C := .loop [] [] [] [] b75_0
def r75_7 : List Op := [
  ⟨some 4, true, .mov (.c (.int .i64 (-1))), none⟩]
def c75 : C := .seq (.region false r75_0) (.seq (.seq (.region false r75_1) (.block 0 (l75_0))) (.seq (.region false r75_7) (.ret)))
/-- slices.Index[[]int,int] -/
def F75 : F := ⟨2, [0, 1, 4, 5, 7, 8, 9, 16], [.t 4], none, c75⟩
attribute [go_sem] r75_0 r75_1 r75_2 r75_3 r75_4 r75_5 r75_6 b75_0 r75_7 c75 F75
def r76_0 : List Op := [
  ⟨some 4, true, .mov (.c (.int .i64 0)), none⟩]
def r76_1 : List Op := [
  ⟨some 6, false, .mov (.g 0), none⟩,
  ⟨some 7, true, .len false (.l 0), none⟩,
  ⟨some 8, true, .mov (.c (.int .i64 0)), none⟩]
def r76_2 : List Op := [
  ⟨some 9, true, .bin .lss (.g 8) (.g 7), none⟩]
def r76_3 : List Op := [
  ⟨some 10, false, .mov (.g 8), none⟩,
  ⟨some 5, true, .mov (.l 0), none⟩]
def r76_4 : List Op := [
  ⟨some 11, false, .mov (.g 1), none⟩,
  ⟨some 12, false, .mov (.g 0), none⟩,
  ⟨some 13, false, .mov (.g 5), none⟩,
  ⟨some 14, false, .iad 1 (.l 1) (.l 2), none⟩,
  ⟨some 15, false, .load (.c) none (.l 3), none⟩,
  ⟨some 16, true, .call (.v (.l 0)) .no none [.l 4], none⟩]
def r76_5 : List Op := [
  ⟨some 17, false, .mov (.g 5), none⟩,
  ⟨some 4, true, .mov (.l 0), none⟩]
def r76_6 : List Op := [
  ⟨some 18, false, .bin .add (.g 8) (.c (.int .i64 1)), none⟩,
  ⟨some 8, true, .mov (.l 0), none⟩]
def b76_0 : C := .seq (.region false r76_2) (.seq (.cond (.g 9) (.skip) (.exit 0)) (.seq (.block 1 (.seq (.region false r76_3) (.seq (.region false r76_4) (.cond (.g 16) (.seq (.region false r76_5) (.ret)) (.skip))))) (.region false r76_6)))
def l76_0 : C := .loop [] [] [] [] b76_0
def r76_7 : List Op := [
  ⟨some 4, true, .mov (.c (.int .i64 (-1))), none⟩]
def c76 : C := .seq (.region false r76_0) (.seq (.seq (.region false r76_1) (.block 0 (l76_0))) (.seq (.region false r76_7) (.ret)))
/-- slices.IndexFunc[[]int,int] -/
def F76 : F := ⟨2, [0, 1, 4, 5, 7, 8, 9, 16], [.t 4], none, c76⟩
attribute [go_sem] r76_0 r76_1 r76_2 r76_3 r76_4 r76_5 r76_6 b76_0 r76_7 c76 F76
end Sg
