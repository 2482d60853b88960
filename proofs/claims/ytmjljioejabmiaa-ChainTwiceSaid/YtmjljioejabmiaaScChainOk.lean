import Derived.Test.YtmjljioejabmiaaScTab
import Derived.Test.YtmjljioejabmiaaScChain
import Derived.Test.YtmjljioejabmiaaSgClone
import Derived.Test.YtmjljioejabmiaaChecked
namespace Sg
open Go.Proofs
def chainFm : List (Nat × Nat) := [(1, 3), (9, 4), (14, 5), (16, 6), (19, 7), (20, 8), (2, 9), (3, 10), (4, 11), (5, 12), (6, 13), (7, 14), (8, 15), (10, 16), (11, 17), (12, 18), (13, 19), (15, 20), (17, 21), (18, 22), (21, 23), (22, 24), (24, 26), (25, 27), (26, 29), (27, 28), (28, 30), (29, 31), (30, 32), (31, 33), (32, 34), (23, 25)]
def chainTab : List (Nat × Fn) := [(1, .code F1), (9, .code F9), (14, .code F14), (16, .code F16), (19, .code F19), (20, .code F20), (2, .code F2), (3, .code F3), (4, .code F4), (5, .code F5), (6, .code F6), (7, .code F7), (8, .code F8), (10, .code F10), (11, .code F11), (12, .code F12), (13, .code F13), (15, .code F15), (17, .code F17), (18, .code F18), (21, .code F21), (22, .code F22), (24, .code F24), (25, .code F25), (26, .code F26), (27, .code F27), (28, .code F28), (29, .code F29), (30, .code F30), (31, .code F31), (32, .code F32), (23, .prim (some 0) (cloneQ 5))]
set_option maxRecDepth 100000
theorem okAll : okTab Try.prog (cxOf chainFm) chainTab chainTab = true := by kernel_rfl
theorem okClone23 : okF Try.prog (cxOf chainFm) (onePg 23 (cloneF 5 [.int .i64 0, .int .i64 0, .int .i64 0, .bool false, .str []])) 25 (cloneF 5 [.int .i64 0, .int .i64 0, .int .i64 0, .bool false, .str []]) = true := by kernel_rfl
#print axioms okAll
end Sg
