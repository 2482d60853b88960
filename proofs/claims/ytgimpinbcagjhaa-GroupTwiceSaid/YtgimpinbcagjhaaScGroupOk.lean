import Derived.Test.YtgimpinbcagjhaaScTab
import Derived.Test.YtgimpinbcagjhaaScGroup
import Derived.Test.YtgimpinbcagjhaaSgClone
import Derived.Test.YtgimpinbcagjhaaChecked
namespace Sg
open Go.Proofs
def groupFm : List (Nat × Nat) := [(33, 3), (46, 4), (53, 5), (56, 6), (59, 7), (34, 10), (35, 11), (36, 13), (37, 12), (38, 14), (39, 15), (40, 16), (41, 17), (42, 18), (43, 19), (44, 20), (45, 21), (47, 22), (48, 23), (49, 25), (50, 24), (51, 26), (52, 27), (54, 28), (55, 29), (57, 30), (58, 31), (60, 37), (61, 38), (62, 39), (63, 40), (64, 41), (65, 42), (66, 44), (67, 43), (68, 45), (70, 47), (71, 48), (72, 49), (73, 50), (74, 51), (75, 54), (76, 55), (69, 46)]
def groupTab : List (Nat × Fn) := [(33, .code F33), (46, .code F46), (53, .code F53), (56, .code F56), (59, .code F59), (34, .code F34), (35, .code F35), (36, .code F36), (37, .code F37), (38, .code F38), (39, .code F39), (40, .code F40), (41, .code F41), (42, .code F42), (43, .code F43), (44, .code F44), (45, .code F45), (47, .code F47), (48, .code F48), (49, .code F49), (50, .code F50), (51, .code F51), (52, .code F52), (54, .code F54), (55, .code F55), (57, .code F57), (58, .code F58), (60, .code F60), (61, .code F61), (62, .code F62), (63, .code F63), (64, .code F64), (65, .code F65), (66, .code F66), (67, .code F67), (68, .code F68), (70, .code F70), (71, .code F71), (72, .code F72), (73, .code F73), (74, .code F74), (75, .code F75), (76, .code F76), (69, .prim (some 0) (cloneQ 1))]
set_option maxRecDepth 100000
theorem okc {P : Go.Program} {cx : Cx} {tab : List (Nat × Fn)} {k : Nat} {F : F} {l : List (Nat × Fn)} (h : okF P cx (look tab) (cx.fm k) F = true) (t : okTab P cx tab l = true) : okTab P cx tab ((k, .code F) :: l) = true := by simp [okTab, h, t]
theorem okp {P : Go.Program} {cx : Cx} {tab : List (Nat × Fn)} {k : Nat} {o : Option Nat} {p} {l : List (Nat × Fn)} (t : okTab P cx tab l = true) : okTab P cx tab ((k, .prim o p) :: l) = true := t
theorem ok33 : okF Try.prog (cxOf groupFm) (look groupTab) ((cxOf groupFm).fm 33) F33 = true := by kernel_rfl
theorem ok46 : okF Try.prog (cxOf groupFm) (look groupTab) ((cxOf groupFm).fm 46) F46 = true := by kernel_rfl
theorem ok53 : okF Try.prog (cxOf groupFm) (look groupTab) ((cxOf groupFm).fm 53) F53 = true := by kernel_rfl
theorem ok56 : okF Try.prog (cxOf groupFm) (look groupTab) ((cxOf groupFm).fm 56) F56 = true := by kernel_rfl
theorem ok59 : okF Try.prog (cxOf groupFm) (look groupTab) ((cxOf groupFm).fm 59) F59 = true := by kernel_rfl
theorem ok34 : okF Try.prog (cxOf groupFm) (look groupTab) ((cxOf groupFm).fm 34) F34 = true := by kernel_rfl
theorem ok35 : okF Try.prog (cxOf groupFm) (look groupTab) ((cxOf groupFm).fm 35) F35 = true := by kernel_rfl
theorem ok36 : okF Try.prog (cxOf groupFm) (look groupTab) ((cxOf groupFm).fm 36) F36 = true := by kernel_rfl
theorem ok37 : okF Try.prog (cxOf groupFm) (look groupTab) ((cxOf groupFm).fm 37) F37 = true := by kernel_rfl
theorem ok38 : okF Try.prog (cxOf groupFm) (look groupTab) ((cxOf groupFm).fm 38) F38 = true := by kernel_rfl
theorem ok39 : okF Try.prog (cxOf groupFm) (look groupTab) ((cxOf groupFm).fm 39) F39 = true := by kernel_rfl
theorem ok40 : okF Try.prog (cxOf groupFm) (look groupTab) ((cxOf groupFm).fm 40) F40 = true := by kernel_rfl
theorem ok41 : okF Try.prog (cxOf groupFm) (look groupTab) ((cxOf groupFm).fm 41) F41 = true := by kernel_rfl
theorem ok42 : okF Try.prog (cxOf groupFm) (look groupTab) ((cxOf groupFm).fm 42) F42 = true := by kernel_rfl
theorem ok43 : okF Try.prog (cxOf groupFm) (look groupTab) ((cxOf groupFm).fm 43) F43 = true := by kernel_rfl
theorem ok44 : okF Try.prog (cxOf groupFm) (look groupTab) ((cxOf groupFm).fm 44) F44 = true := by kernel_rfl
theorem ok45 : okF Try.prog (cxOf groupFm) (look groupTab) ((cxOf groupFm).fm 45) F45 = true := by kernel_rfl
theorem ok47 : okF Try.prog (cxOf groupFm) (look groupTab) ((cxOf groupFm).fm 47) F47 = true := by kernel_rfl
theorem ok48 : okF Try.prog (cxOf groupFm) (look groupTab) ((cxOf groupFm).fm 48) F48 = true := by kernel_rfl
theorem ok49 : okF Try.prog (cxOf groupFm) (look groupTab) ((cxOf groupFm).fm 49) F49 = true := by kernel_rfl
theorem ok50 : okF Try.prog (cxOf groupFm) (look groupTab) ((cxOf groupFm).fm 50) F50 = true := by kernel_rfl
theorem ok51 : okF Try.prog (cxOf groupFm) (look groupTab) ((cxOf groupFm).fm 51) F51 = true := by kernel_rfl
theorem ok52 : okF Try.prog (cxOf groupFm) (look groupTab) ((cxOf groupFm).fm 52) F52 = true := by kernel_rfl
theorem ok54 : okF Try.prog (cxOf groupFm) (look groupTab) ((cxOf groupFm).fm 54) F54 = true := by kernel_rfl
theorem ok55 : okF Try.prog (cxOf groupFm) (look groupTab) ((cxOf groupFm).fm 55) F55 = true := by kernel_rfl
theorem ok57 : okF Try.prog (cxOf groupFm) (look groupTab) ((cxOf groupFm).fm 57) F57 = true := by kernel_rfl
theorem ok58 : okF Try.prog (cxOf groupFm) (look groupTab) ((cxOf groupFm).fm 58) F58 = true := by kernel_rfl
theorem ok60 : okF Try.prog (cxOf groupFm) (look groupTab) ((cxOf groupFm).fm 60) F60 = true := by kernel_rfl
theorem ok61 : okF Try.prog (cxOf groupFm) (look groupTab) ((cxOf groupFm).fm 61) F61 = true := by kernel_rfl
theorem ok62 : okF Try.prog (cxOf groupFm) (look groupTab) ((cxOf groupFm).fm 62) F62 = true := by kernel_rfl
theorem ok63 : okF Try.prog (cxOf groupFm) (look groupTab) ((cxOf groupFm).fm 63) F63 = true := by kernel_rfl
theorem ok64 : okF Try.prog (cxOf groupFm) (look groupTab) ((cxOf groupFm).fm 64) F64 = true := by kernel_rfl
theorem ok65 : okF Try.prog (cxOf groupFm) (look groupTab) ((cxOf groupFm).fm 65) F65 = true := by kernel_rfl
theorem ok66 : okF Try.prog (cxOf groupFm) (look groupTab) ((cxOf groupFm).fm 66) F66 = true := by kernel_rfl
theorem ok67 : okF Try.prog (cxOf groupFm) (look groupTab) ((cxOf groupFm).fm 67) F67 = true := by kernel_rfl
theorem ok68 : okF Try.prog (cxOf groupFm) (look groupTab) ((cxOf groupFm).fm 68) F68 = true := by kernel_rfl
theorem ok70 : okF Try.prog (cxOf groupFm) (look groupTab) ((cxOf groupFm).fm 70) F70 = true := by kernel_rfl
theorem ok71 : okF Try.prog (cxOf groupFm) (look groupTab) ((cxOf groupFm).fm 71) F71 = true := by kernel_rfl
theorem ok72 : okF Try.prog (cxOf groupFm) (look groupTab) ((cxOf groupFm).fm 72) F72 = true := by kernel_rfl
theorem ok73 : okF Try.prog (cxOf groupFm) (look groupTab) ((cxOf groupFm).fm 73) F73 = true := by kernel_rfl
theorem ok74 : okF Try.prog (cxOf groupFm) (look groupTab) ((cxOf groupFm).fm 74) F74 = true := by kernel_rfl
theorem ok75 : okF Try.prog (cxOf groupFm) (look groupTab) ((cxOf groupFm).fm 75) F75 = true := by kernel_rfl
theorem ok76 : okF Try.prog (cxOf groupFm) (look groupTab) ((cxOf groupFm).fm 76) F76 = true := by kernel_rfl
theorem okAll : okTab Try.prog (cxOf groupFm) groupTab groupTab = true := okc ok33 (okc ok46 (okc ok53 (okc ok56 (okc ok59 (okc ok34 (okc ok35 (okc ok36 (okc ok37 (okc ok38 (okc ok39 (okc ok40 (okc ok41 (okc ok42 (okc ok43 (okc ok44 (okc ok45 (okc ok47 (okc ok48 (okc ok49 (okc ok50 (okc ok51 (okc ok52 (okc ok54 (okc ok55 (okc ok57 (okc ok58 (okc ok60 (okc ok61 (okc ok62 (okc ok63 (okc ok64 (okc ok65 (okc ok66 (okc ok67 (okc ok68 (okc ok70 (okc ok71 (okc ok72 (okc ok73 (okc ok74 (okc ok75 (okc ok76 (okp (rfl))))))))))))))))))))))))))))))))))))))))))))
theorem okClone69 : okF Try.prog (cxOf groupFm) (onePg 69 (cloneF 1 [.int .i64 0])) 46 (cloneF 1 [.int .i64 0]) = true := by kernel_rfl
#print axioms okAll
end Sg
