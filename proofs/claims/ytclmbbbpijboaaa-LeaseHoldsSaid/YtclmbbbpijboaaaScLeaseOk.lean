import Derived.Test.YtclmbbbpijboaaaScTab
import Derived.Test.YtclmbbbpijboaaaScLease
import Derived.Test.YtclmbbbpijboaaaSgClone
import Derived.Test.YtclmbbbpijboaaaChecked
namespace Sg
open Go.Proofs
def noQ : List V → Option V := fun _ => none
def leaseFm : List (Nat × Nat) := [(107, 3), (111, 4), (117, 5), (119, 6), (122, 7), (127, 8), (108, 9), (109, 10), (110, 11), (112, 12), (113, 13), (114, 14), (115, 16), (116, 15), (15, 17), (118, 18), (120, 19), (121, 20), (123, 21), (124, 22), (125, 23), (126, 24), (28, 25), (128, 26), (129, 27), (130, 28), (131, 29), (21, 30), (24, 31), (6, 32), (132, 33), (26, 35), (27, 34), (133, 36), (32, 40), (137, 41), (31, 42), (138, 44), (139, 43), (134, 38), (135, 37), (136, 39)]
def leaseTab : List (Nat × Fn) := [(107, .code F107), (111, .code F111), (117, .code F117), (119, .code F119), (122, .code F122), (127, .code F127), (108, .code F108), (109, .code F109), (110, .code F110), (112, .code F112), (113, .code F113), (114, .code F114), (115, .code F115), (116, .code F116), (15, .code F15), (118, .code F118), (120, .code F120), (121, .code F121), (123, .code F123), (124, .code F124), (125, .code F125), (126, .code F126), (28, .code F28), (128, .code F128), (129, .code F129), (130, .code F130), (131, .code F131), (21, .code F21), (24, .code F24), (6, .code F6), (132, .code F132), (26, .code F26), (27, .code F27), (133, .code F133), (32, .code F32), (137, .code F137), (31, .code F31), (138, .code F138), (139, .code F139), (134, .prim (some 0) (cloneQ 5)), (135, .prim (some 1005) noQ), (136, .prim (some 2005) noQ)]
set_option maxRecDepth 100000
theorem okc {P : Go.Program} {cx : Cx} {tab : List (Nat × Fn)} {k : Nat} {F : F} {l : List (Nat × Fn)} (h : okF P cx (look tab) (cx.fm k) F = true) (t : okTab P cx tab l = true) : okTab P cx tab ((k, .code F) :: l) = true := by simp [okTab, h, t]
theorem okp {P : Go.Program} {cx : Cx} {tab : List (Nat × Fn)} {k : Nat} {o : Option Nat} {p} {l : List (Nat × Fn)} (t : okTab P cx tab l = true) : okTab P cx tab ((k, .prim o p) :: l) = true := t
theorem ok107 : okF Try.prog (cxOf leaseFm) (look leaseTab) ((cxOf leaseFm).fm 107) F107 = true := by kernel_rfl
theorem ok111 : okF Try.prog (cxOf leaseFm) (look leaseTab) ((cxOf leaseFm).fm 111) F111 = true := by kernel_rfl
theorem ok117 : okF Try.prog (cxOf leaseFm) (look leaseTab) ((cxOf leaseFm).fm 117) F117 = true := by kernel_rfl
theorem ok119 : okF Try.prog (cxOf leaseFm) (look leaseTab) ((cxOf leaseFm).fm 119) F119 = true := by kernel_rfl
theorem ok122 : okF Try.prog (cxOf leaseFm) (look leaseTab) ((cxOf leaseFm).fm 122) F122 = true := by kernel_rfl
theorem ok127 : okF Try.prog (cxOf leaseFm) (look leaseTab) ((cxOf leaseFm).fm 127) F127 = true := by kernel_rfl
theorem ok108 : okF Try.prog (cxOf leaseFm) (look leaseTab) ((cxOf leaseFm).fm 108) F108 = true := by kernel_rfl
theorem ok109 : okF Try.prog (cxOf leaseFm) (look leaseTab) ((cxOf leaseFm).fm 109) F109 = true := by kernel_rfl
theorem ok110 : okF Try.prog (cxOf leaseFm) (look leaseTab) ((cxOf leaseFm).fm 110) F110 = true := by kernel_rfl
theorem ok112 : okF Try.prog (cxOf leaseFm) (look leaseTab) ((cxOf leaseFm).fm 112) F112 = true := by kernel_rfl
theorem ok113 : okF Try.prog (cxOf leaseFm) (look leaseTab) ((cxOf leaseFm).fm 113) F113 = true := by kernel_rfl
theorem ok114 : okF Try.prog (cxOf leaseFm) (look leaseTab) ((cxOf leaseFm).fm 114) F114 = true := by kernel_rfl
theorem ok115 : okF Try.prog (cxOf leaseFm) (look leaseTab) ((cxOf leaseFm).fm 115) F115 = true := by kernel_rfl
theorem ok116 : okF Try.prog (cxOf leaseFm) (look leaseTab) ((cxOf leaseFm).fm 116) F116 = true := by kernel_rfl
theorem ok15 : okF Try.prog (cxOf leaseFm) (look leaseTab) ((cxOf leaseFm).fm 15) F15 = true := by kernel_rfl
theorem ok118 : okF Try.prog (cxOf leaseFm) (look leaseTab) ((cxOf leaseFm).fm 118) F118 = true := by kernel_rfl
theorem ok120 : okF Try.prog (cxOf leaseFm) (look leaseTab) ((cxOf leaseFm).fm 120) F120 = true := by kernel_rfl
theorem ok121 : okF Try.prog (cxOf leaseFm) (look leaseTab) ((cxOf leaseFm).fm 121) F121 = true := by kernel_rfl
theorem ok123 : okF Try.prog (cxOf leaseFm) (look leaseTab) ((cxOf leaseFm).fm 123) F123 = true := by kernel_rfl
theorem ok124 : okF Try.prog (cxOf leaseFm) (look leaseTab) ((cxOf leaseFm).fm 124) F124 = true := by kernel_rfl
theorem ok125 : okF Try.prog (cxOf leaseFm) (look leaseTab) ((cxOf leaseFm).fm 125) F125 = true := by kernel_rfl
theorem ok126 : okF Try.prog (cxOf leaseFm) (look leaseTab) ((cxOf leaseFm).fm 126) F126 = true := by kernel_rfl
theorem ok28 : okF Try.prog (cxOf leaseFm) (look leaseTab) ((cxOf leaseFm).fm 28) F28 = true := by kernel_rfl
theorem ok128 : okF Try.prog (cxOf leaseFm) (look leaseTab) ((cxOf leaseFm).fm 128) F128 = true := by kernel_rfl
theorem ok129 : okF Try.prog (cxOf leaseFm) (look leaseTab) ((cxOf leaseFm).fm 129) F129 = true := by kernel_rfl
theorem ok130 : okF Try.prog (cxOf leaseFm) (look leaseTab) ((cxOf leaseFm).fm 130) F130 = true := by kernel_rfl
theorem ok131 : okF Try.prog (cxOf leaseFm) (look leaseTab) ((cxOf leaseFm).fm 131) F131 = true := by kernel_rfl
theorem ok21 : okF Try.prog (cxOf leaseFm) (look leaseTab) ((cxOf leaseFm).fm 21) F21 = true := by kernel_rfl
theorem ok24 : okF Try.prog (cxOf leaseFm) (look leaseTab) ((cxOf leaseFm).fm 24) F24 = true := by kernel_rfl
theorem ok6 : okF Try.prog (cxOf leaseFm) (look leaseTab) ((cxOf leaseFm).fm 6) F6 = true := by kernel_rfl
theorem ok132 : okF Try.prog (cxOf leaseFm) (look leaseTab) ((cxOf leaseFm).fm 132) F132 = true := by kernel_rfl
theorem ok26 : okF Try.prog (cxOf leaseFm) (look leaseTab) ((cxOf leaseFm).fm 26) F26 = true := by kernel_rfl
theorem ok27 : okF Try.prog (cxOf leaseFm) (look leaseTab) ((cxOf leaseFm).fm 27) F27 = true := by kernel_rfl
theorem ok133 : okF Try.prog (cxOf leaseFm) (look leaseTab) ((cxOf leaseFm).fm 133) F133 = true := by kernel_rfl
theorem ok32 : okF Try.prog (cxOf leaseFm) (look leaseTab) ((cxOf leaseFm).fm 32) F32 = true := by kernel_rfl
theorem ok137 : okF Try.prog (cxOf leaseFm) (look leaseTab) ((cxOf leaseFm).fm 137) F137 = true := by kernel_rfl
theorem ok31 : okF Try.prog (cxOf leaseFm) (look leaseTab) ((cxOf leaseFm).fm 31) F31 = true := by kernel_rfl
theorem ok138 : okF Try.prog (cxOf leaseFm) (look leaseTab) ((cxOf leaseFm).fm 138) F138 = true := by kernel_rfl
theorem ok139 : okF Try.prog (cxOf leaseFm) (look leaseTab) ((cxOf leaseFm).fm 139) F139 = true := by kernel_rfl
theorem okAll : okTab Try.prog (cxOf leaseFm) leaseTab leaseTab = true := okc ok107 (okc ok111 (okc ok117 (okc ok119 (okc ok122 (okc ok127 (okc ok108 (okc ok109 (okc ok110 (okc ok112 (okc ok113 (okc ok114 (okc ok115 (okc ok116 (okc ok15 (okc ok118 (okc ok120 (okc ok121 (okc ok123 (okc ok124 (okc ok125 (okc ok126 (okc ok28 (okc ok128 (okc ok129 (okc ok130 (okc ok131 (okc ok21 (okc ok24 (okc ok6 (okc ok132 (okc ok26 (okc ok27 (okc ok133 (okc ok32 (okc ok137 (okc ok31 (okc ok138 (okc ok139 (okp (okp (okp (rfl))))))))))))))))))))))))))))))))))))))))))
theorem okClone134 : okF Try.prog (cxOf leaseFm) (onePg 134 (cloneF 5 [.int .i64 0, .int .i64 0, .int .i64 0, .int .i64 0, .int .i64 0])) 38 (cloneF 5 [.int .i64 0, .int .i64 0, .int .i64 0, .int .i64 0, .int .i64 0]) = true := by kernel_rfl
#print axioms okAll
end Sg
