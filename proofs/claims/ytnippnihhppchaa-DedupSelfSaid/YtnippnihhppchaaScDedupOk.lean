import Derived.Test.YtnippnihhppchaaScTab
import Derived.Test.YtnippnihhppchaaScDedup
import Derived.Test.YtnippnihhppchaaSgClone
import Derived.Test.YtnippnihhppchaaChecked
namespace Sg
open Go.Proofs
def noQ : List V → Option V := fun _ => none
def dedupFm : List (Nat × Nat) := [(77, 3), (87, 4), (90, 5), (93, 6), (94, 7), (78, 8), (79, 9), (80, 10), (81, 11), (82, 12), (83, 13), (84, 14), (85, 15), (86, 16), (88, 17), (89, 18), (91, 19), (92, 20), (95, 21), (96, 22), (97, 23), (98, 24), (99, 25), (100, 26), (101, 27), (104, 30), (24, 31), (28, 32), (105, 34), (106, 33), (32, 37), (102, 28), (103, 29)]
def dedupTab : List (Nat × Fn) := [(77, .code F77), (87, .code F87), (90, .code F90), (93, .code F93), (94, .code F94), (78, .code F78), (79, .code F79), (80, .code F80), (81, .code F81), (82, .code F82), (83, .code F83), (84, .code F84), (85, .code F85), (86, .code F86), (88, .code F88), (89, .code F89), (91, .code F91), (92, .code F92), (95, .code F95), (96, .code F96), (97, .code F97), (98, .code F98), (99, .code F99), (100, .code F100), (101, .code F101), (104, .code F104), (24, .code F24), (28, .code F28), (105, .code F105), (106, .code F106), (32, .code F32), (102, .prim (some 0) (cloneQ 11)), (103, .prim (some 1011) noQ)]
set_option maxRecDepth 100000
theorem okc {P : Go.Program} {cx : Cx} {tab : List (Nat × Fn)} {k : Nat} {F : F} {l : List (Nat × Fn)} (h : okF P cx (look tab) (cx.fm k) F = true) (t : okTab P cx tab l = true) : okTab P cx tab ((k, .code F) :: l) = true := by simp [okTab, h, t]
theorem okp {P : Go.Program} {cx : Cx} {tab : List (Nat × Fn)} {k : Nat} {o : Option Nat} {p} {l : List (Nat × Fn)} (t : okTab P cx tab l = true) : okTab P cx tab ((k, .prim o p) :: l) = true := t
theorem ok77 : okF Try.prog (cxOf dedupFm) (look dedupTab) ((cxOf dedupFm).fm 77) F77 = true := by kernel_rfl
theorem ok87 : okF Try.prog (cxOf dedupFm) (look dedupTab) ((cxOf dedupFm).fm 87) F87 = true := by kernel_rfl
theorem ok90 : okF Try.prog (cxOf dedupFm) (look dedupTab) ((cxOf dedupFm).fm 90) F90 = true := by kernel_rfl
theorem ok93 : okF Try.prog (cxOf dedupFm) (look dedupTab) ((cxOf dedupFm).fm 93) F93 = true := by kernel_rfl
theorem ok94 : okF Try.prog (cxOf dedupFm) (look dedupTab) ((cxOf dedupFm).fm 94) F94 = true := by kernel_rfl
theorem ok78 : okF Try.prog (cxOf dedupFm) (look dedupTab) ((cxOf dedupFm).fm 78) F78 = true := by kernel_rfl
theorem ok79 : okF Try.prog (cxOf dedupFm) (look dedupTab) ((cxOf dedupFm).fm 79) F79 = true := by kernel_rfl
theorem ok80 : okF Try.prog (cxOf dedupFm) (look dedupTab) ((cxOf dedupFm).fm 80) F80 = true := by kernel_rfl
theorem ok81 : okF Try.prog (cxOf dedupFm) (look dedupTab) ((cxOf dedupFm).fm 81) F81 = true := by kernel_rfl
theorem ok82 : okF Try.prog (cxOf dedupFm) (look dedupTab) ((cxOf dedupFm).fm 82) F82 = true := by kernel_rfl
theorem ok83 : okF Try.prog (cxOf dedupFm) (look dedupTab) ((cxOf dedupFm).fm 83) F83 = true := by kernel_rfl
theorem ok84 : okF Try.prog (cxOf dedupFm) (look dedupTab) ((cxOf dedupFm).fm 84) F84 = true := by kernel_rfl
theorem ok85 : okF Try.prog (cxOf dedupFm) (look dedupTab) ((cxOf dedupFm).fm 85) F85 = true := by kernel_rfl
theorem ok86 : okF Try.prog (cxOf dedupFm) (look dedupTab) ((cxOf dedupFm).fm 86) F86 = true := by kernel_rfl
theorem ok88 : okF Try.prog (cxOf dedupFm) (look dedupTab) ((cxOf dedupFm).fm 88) F88 = true := by kernel_rfl
theorem ok89 : okF Try.prog (cxOf dedupFm) (look dedupTab) ((cxOf dedupFm).fm 89) F89 = true := by kernel_rfl
theorem ok91 : okF Try.prog (cxOf dedupFm) (look dedupTab) ((cxOf dedupFm).fm 91) F91 = true := by kernel_rfl
theorem ok92 : okF Try.prog (cxOf dedupFm) (look dedupTab) ((cxOf dedupFm).fm 92) F92 = true := by kernel_rfl
theorem ok95 : okF Try.prog (cxOf dedupFm) (look dedupTab) ((cxOf dedupFm).fm 95) F95 = true := by kernel_rfl
theorem ok96 : okF Try.prog (cxOf dedupFm) (look dedupTab) ((cxOf dedupFm).fm 96) F96 = true := by kernel_rfl
theorem ok97 : okF Try.prog (cxOf dedupFm) (look dedupTab) ((cxOf dedupFm).fm 97) F97 = true := by kernel_rfl
theorem ok98 : okF Try.prog (cxOf dedupFm) (look dedupTab) ((cxOf dedupFm).fm 98) F98 = true := by kernel_rfl
theorem ok99 : okF Try.prog (cxOf dedupFm) (look dedupTab) ((cxOf dedupFm).fm 99) F99 = true := by kernel_rfl
theorem ok100 : okF Try.prog (cxOf dedupFm) (look dedupTab) ((cxOf dedupFm).fm 100) F100 = true := by kernel_rfl
theorem ok101 : okF Try.prog (cxOf dedupFm) (look dedupTab) ((cxOf dedupFm).fm 101) F101 = true := by kernel_rfl
theorem ok104 : okF Try.prog (cxOf dedupFm) (look dedupTab) ((cxOf dedupFm).fm 104) F104 = true := by kernel_rfl
theorem ok24 : okF Try.prog (cxOf dedupFm) (look dedupTab) ((cxOf dedupFm).fm 24) F24 = true := by kernel_rfl
theorem ok28 : okF Try.prog (cxOf dedupFm) (look dedupTab) ((cxOf dedupFm).fm 28) F28 = true := by kernel_rfl
theorem ok105 : okF Try.prog (cxOf dedupFm) (look dedupTab) ((cxOf dedupFm).fm 105) F105 = true := by kernel_rfl
theorem ok106 : okF Try.prog (cxOf dedupFm) (look dedupTab) ((cxOf dedupFm).fm 106) F106 = true := by kernel_rfl
theorem ok32 : okF Try.prog (cxOf dedupFm) (look dedupTab) ((cxOf dedupFm).fm 32) F32 = true := by kernel_rfl
theorem okAll : okTab Try.prog (cxOf dedupFm) dedupTab dedupTab = true := okc ok77 (okc ok87 (okc ok90 (okc ok93 (okc ok94 (okc ok78 (okc ok79 (okc ok80 (okc ok81 (okc ok82 (okc ok83 (okc ok84 (okc ok85 (okc ok86 (okc ok88 (okc ok89 (okc ok91 (okc ok92 (okc ok95 (okc ok96 (okc ok97 (okc ok98 (okc ok99 (okc ok100 (okc ok101 (okc ok104 (okc ok24 (okc ok28 (okc ok105 (okc ok106 (okc ok32 (okp (okp (rfl)))))))))))))))))))))))))))))))))
theorem okClone102 : okF Try.prog (cxOf dedupFm) (onePg 102 (cloneF 11 [.int .i64 0, .int .i64 0, .int .i64 0, .int .i64 0, .int .i64 0, .int .i64 0, .bool false, .str [], .slice 2 [], .str [], .bool false])) 28 (cloneF 11 [.int .i64 0, .int .i64 0, .int .i64 0, .int .i64 0, .int .i64 0, .int .i64 0, .bool false, .str [], .slice 2 [], .str [], .bool false]) = true := by kernel_rfl
#print axioms okAll
end Sg
