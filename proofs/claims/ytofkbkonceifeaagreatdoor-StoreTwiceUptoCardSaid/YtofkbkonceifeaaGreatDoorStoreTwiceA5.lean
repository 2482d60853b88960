/- StoreTwice, wherever what it reads is of bulk at most 1048576: proved over a checked abstract run of the translated code; no condition but that. A part. -/
import Derived.Test.YtofkbkonceifeaaGreatDoorChecked
import Derived.Test.YtofkbkonceifeaaGreatDoorStoreTwiceA4
namespace Sg
open Go.Proofs
open _root_.Go
def noQ : List V → Option V := fun _ => none
def storeFm : List (Nat × Nat) := [(419, 8), (398, 14), (404, 19), (339, 29), (400, 16), (413, 30), (399, 13), (395, 9), (420, 40), (407, 22), (406, 21), (408, 23), (341, 59), (437, 67), (438, 68), (427, 49), (40, 50), (439, 69), (41, 56), (428, 51), (440, 70), (441, 71), (15, 72), (261, 74), (442, 73), (443, 75), (444, 76), (45, 38), (360, 25), (397, 12), (401, 17), (345, 11), (43, 35), (51, 53), (429, 52), (368, 37), (39, 54), (430, 55), (431, 58), (432, 57), (366, 125), (67, 122), (367, 126), (28, 101), (57, 136), (473, 137), (54, 138), (462, 113), (463, 112), (68, 93), (464, 114), (465, 115), (466, 116), (467, 117), (249, 41), (474, 139), (240, 140), (247, 141), (475, 142), (26, 144), (27, 143), (21, 146), (47, 145), (476, 147), (477, 148), (262, 149), (256, 150), (258, 151), (265, 152), (478, 153), (253, 154), (266, 155), (267, 156), (270, 157), (271, 158), (273, 159), (275, 160), (70, 96), (372, 60), (421, 42), (422, 43), (423, 44), (72, 118), (63, 119), (64, 120), (65, 121), (66, 123), (468, 124), (76, 209), (32, 195), (74, 216), (71, 217), (496, 218), (73, 221), (490, 204), (491, 205), (492, 206), (493, 207), (244, 99), (301, 100), (284, 102), (499, 222), (285, 223), (286, 224), (287, 225), (171, 193), (288, 226), (289, 227), (290, 228), (291, 229), (500, 230), (31, 231), (501, 232), (217, 234), (304, 235), (303, 236), (302, 237), (308, 238), (178, 239), (309, 240), (211, 241), (311, 242), (213, 243), (91, 244), (101, 127), (153, 128), (455, 103), (456, 104), (457, 105), (458, 106), (75, 208), (505, 269), (506, 270), (507, 271), (186, 188), (203, 189), (81, 190), (298, 192), (299, 191), (316, 194), (313, 196), (314, 276), (192, 261), (82, 277), (84, 278), (200, 279), (88, 280), (312, 281), (206, 282), (17, 283), (220, 286), (221, 287), (483, 197), (484, 198), (485, 199), (7, 262), (97, 263), (98, 264), (315, 265), (191, 293), (319, 296), (320, 297), (100, 298), (3, 299), (10, 303), (12, 304), (25, 305), (225, 309), (226, 310), (22, 294), (105, 315), (106, 314), (29, 320), (30, 321), (69, 92), (497, 219), (498, 220), (307, 233), (170, 260), (317, 284), (318, 285), (190, 292), (222, 300), (102, 301), (103, 302), (23, 306), (227, 311)]
def storeTab : List (Nat × Fn) := [(419, .code F419), (398, .code F398), (404, .code F404), (339, .code F339), (400, .code F400), (413, .code F413), (399, .code F399), (395, .code F395), (420, .code F420), (407, .code F407), (406, .code F406), (408, .code F408), (341, .code F341), (437, .code F437), (427, .code F427), (40, .code F40), (439, .code F439), (41, .code F41), (428, .code F428), (440, .code F440), (15, .code F15), (442, .code F442), (45, .code F45), (360, .code F360), (397, .code F397), (401, .code F401), (345, .code F345), (43, .code F43), (51, .code F51), (429, .code F429), (368, .code F368), (39, .code F39), (430, .code F430), (431, .code F431), (432, .code F432), (366, .code F366), (67, .code F67), (367, .code F367), (28, .code F28), (57, .code F57), (473, .code F473), (462, .code F462), (463, .code F463), (68, .code F68), (464, .codeR F464 0), (465, .codeR F465 0), (466, .codeR F466 0), (467, .codeR F467 0), (249, .code F249), (474, .code F474), (240, .code F240), (26, .code F26), (27, .code F27), (47, .code F47), (70, .code F70), (372, .code F372), (421, .codeR F421 0), (422, .codeR F422 0), (423, .codeR F423 0), (72, .code F72), (63, .code F63), (64, .code F64), (65, .code F65), (66, .code F66), (468, .code F468), (76, .code F76), (32, .code F32), (74, .code F74), (71, .code F71), (496, .code F496), (73, .code F73), (490, .code F490), (491, .code F491), (492, .codeR F492 0), (493, .codeR F493 0), (244, .code F244), (301, .code F301), (284, .code F284), (499, .code F499), (285, .code F285), (287, .code F287), (171, .code F171), (288, .code F288), (289, .code F289), (290, .code F290), (31, .code F31), (304, .code F304), (101, .code F101), (153, .code F153), (455, .code F455), (456, .code F456), (457, .codeR F457 0), (458, .codeR F458 0), (75, .code F75), (505, .code F505), (506, .code F506), (507, .code F507), (186, .code F186), (203, .code F203), (81, .code F81), (298, .code F298), (299, .code F299), (316, .code F316), (313, .code F313), (314, .code F314), (192, .code F192), (82, .code F82), (84, .code F84), (200, .code F200), (88, .code F88), (312, .code F312), (220, .code F220), (221, .code F221), (483, .code F483), (484, .code F484), (485, .code F485), (7, .code F7), (97, .code F97), (98, .code F98), (315, .code F315), (319, .code F319), (320, .code F320), (100, .code F100), (3, .code F3), (225, .code F225), (22, .code F22), (106, .code F106), (69, .prim (some 0) (cloneQ 1)), (497, .prim (some 0) (cloneQ 9)), (498, .prim (some 1009) noQ), (307, .prim (some 0) (cloneQ 17)), (170, .prim none keyQ), (317, .prim (some 1017) noQ), (190, .prim none decQ), (222, .prim (some 1002) noQ), (102, .prim (some 0) (cloneQ 11)), (103, .prim (some 1011) noQ), (23, .prim (some 0) (cloneQ 5)), (227, .prim (some 0) (cloneQ 2))]
set_option maxRecDepth 100000
theorem okc {P : Go.Program} {cx : Cx} {tab : List (Nat × Fn)} {k : Nat} {F : F} {l : List (Nat × Fn)} (h : okF P cx (look tab) (cx.fm k) F = true) (t : okTab P cx tab l = true) : okTab P cx tab ((k, .code F) :: l) = true := by simp [okTab, h, t]
theorem okcr {P : Go.Program} {cx : Cx} {tab : List (Nat × Fn)} {k j : Nat} {F : F} {l : List (Nat × Fn)} (h : okF P cx (look tab) (cx.fm k) F = true) (h2 : rfQ F j = true) (t : okTab P cx tab l = true) : okTab P cx tab ((k, .codeR F j) :: l) = true := by simp [okTab, h, h2, t]
theorem okp {P : Go.Program} {cx : Cx} {tab : List (Nat × Fn)} {k : Nat} {o : Option Nat} {p} {l : List (Nat × Fn)} (h : plQ o = true) (t : okTab P cx tab l = true) : okTab P cx tab ((k, .prim o p) :: l) = true := by simp [okTab, h, t]
theorem ok419 : okF Tryz.prog (cxU storeFm) (look storeTab) ((cxU storeFm).fm 419) F419 = true := by kernel_rfl
theorem ok398 : okF Tryz.prog (cxU storeFm) (look storeTab) ((cxU storeFm).fm 398) F398 = true := by kernel_rfl
theorem ok404 : okF Tryz.prog (cxU storeFm) (look storeTab) ((cxU storeFm).fm 404) F404 = true := by kernel_rfl
theorem ok339 : okF Tryz.prog (cxU storeFm) (look storeTab) ((cxU storeFm).fm 339) F339 = true := by kernel_rfl
theorem ok400 : okF Tryz.prog (cxU storeFm) (look storeTab) ((cxU storeFm).fm 400) F400 = true := by kernel_rfl
theorem ok413 : okF Tryz.prog (cxU storeFm) (look storeTab) ((cxU storeFm).fm 413) F413 = true := by kernel_rfl
theorem ok399 : okF Tryz.prog (cxU storeFm) (look storeTab) ((cxU storeFm).fm 399) F399 = true := by kernel_rfl
theorem ok395 : okF Tryz.prog (cxU storeFm) (look storeTab) ((cxU storeFm).fm 395) F395 = true := by kernel_rfl
theorem ok420 : okF Tryz.prog (cxU storeFm) (look storeTab) ((cxU storeFm).fm 420) F420 = true := by kernel_rfl
theorem ok407 : okF Tryz.prog (cxU storeFm) (look storeTab) ((cxU storeFm).fm 407) F407 = true := by kernel_rfl
theorem ok406 : okF Tryz.prog (cxU storeFm) (look storeTab) ((cxU storeFm).fm 406) F406 = true := by kernel_rfl
theorem ok408 : okF Tryz.prog (cxU storeFm) (look storeTab) ((cxU storeFm).fm 408) F408 = true := by kernel_rfl
theorem ok341 : okF Tryz.prog (cxU storeFm) (look storeTab) ((cxU storeFm).fm 341) F341 = true := by kernel_rfl
theorem ok437 : okF Tryz.prog (cxU storeFm) (look storeTab) ((cxU storeFm).fm 437) F437 = true := by kernel_rfl
theorem ok427 : okF Tryz.prog (cxU storeFm) (look storeTab) ((cxU storeFm).fm 427) F427 = true := by kernel_rfl
theorem ok40 : okF Tryz.prog (cxU storeFm) (look storeTab) ((cxU storeFm).fm 40) F40 = true := by kernel_rfl
theorem ok439 : okF Tryz.prog (cxU storeFm) (look storeTab) ((cxU storeFm).fm 439) F439 = true := by kernel_rfl
theorem ok41 : okF Tryz.prog (cxU storeFm) (look storeTab) ((cxU storeFm).fm 41) F41 = true := by kernel_rfl
theorem ok428 : okF Tryz.prog (cxU storeFm) (look storeTab) ((cxU storeFm).fm 428) F428 = true := by kernel_rfl
theorem ok440 : okF Tryz.prog (cxU storeFm) (look storeTab) ((cxU storeFm).fm 440) F440 = true := by kernel_rfl
theorem ok15 : okF Tryz.prog (cxU storeFm) (look storeTab) ((cxU storeFm).fm 15) F15 = true := by kernel_rfl
theorem ok442 : okF Tryz.prog (cxU storeFm) (look storeTab) ((cxU storeFm).fm 442) F442 = true := by kernel_rfl
theorem ok45 : okF Tryz.prog (cxU storeFm) (look storeTab) ((cxU storeFm).fm 45) F45 = true := by kernel_rfl
theorem ok360 : okF Tryz.prog (cxU storeFm) (look storeTab) ((cxU storeFm).fm 360) F360 = true := by kernel_rfl
theorem ok397 : okF Tryz.prog (cxU storeFm) (look storeTab) ((cxU storeFm).fm 397) F397 = true := by kernel_rfl
theorem ok401 : okF Tryz.prog (cxU storeFm) (look storeTab) ((cxU storeFm).fm 401) F401 = true := by kernel_rfl
theorem ok345 : okF Tryz.prog (cxU storeFm) (look storeTab) ((cxU storeFm).fm 345) F345 = true := by kernel_rfl
theorem ok43 : okF Tryz.prog (cxU storeFm) (look storeTab) ((cxU storeFm).fm 43) F43 = true := by kernel_rfl
theorem ok51 : okF Tryz.prog (cxU storeFm) (look storeTab) ((cxU storeFm).fm 51) F51 = true := by kernel_rfl
theorem ok429 : okF Tryz.prog (cxU storeFm) (look storeTab) ((cxU storeFm).fm 429) F429 = true := by kernel_rfl
theorem ok368 : okF Tryz.prog (cxU storeFm) (look storeTab) ((cxU storeFm).fm 368) F368 = true := by kernel_rfl
theorem ok39 : okF Tryz.prog (cxU storeFm) (look storeTab) ((cxU storeFm).fm 39) F39 = true := by kernel_rfl
theorem ok430 : okF Tryz.prog (cxU storeFm) (look storeTab) ((cxU storeFm).fm 430) F430 = true := by kernel_rfl
theorem ok431 : okF Tryz.prog (cxU storeFm) (look storeTab) ((cxU storeFm).fm 431) F431 = true := by kernel_rfl
theorem ok432 : okF Tryz.prog (cxU storeFm) (look storeTab) ((cxU storeFm).fm 432) F432 = true := by kernel_rfl
theorem ok366 : okF Tryz.prog (cxU storeFm) (look storeTab) ((cxU storeFm).fm 366) F366 = true := by kernel_rfl
theorem ok67 : okF Tryz.prog (cxU storeFm) (look storeTab) ((cxU storeFm).fm 67) F67 = true := by kernel_rfl
theorem ok367 : okF Tryz.prog (cxU storeFm) (look storeTab) ((cxU storeFm).fm 367) F367 = true := by kernel_rfl
theorem ok28 : okF Tryz.prog (cxU storeFm) (look storeTab) ((cxU storeFm).fm 28) F28 = true := by kernel_rfl
theorem ok57 : okF Tryz.prog (cxU storeFm) (look storeTab) ((cxU storeFm).fm 57) F57 = true := by kernel_rfl
theorem ok473 : okF Tryz.prog (cxU storeFm) (look storeTab) ((cxU storeFm).fm 473) F473 = true := by kernel_rfl
theorem ok462 : okF Tryz.prog (cxU storeFm) (look storeTab) ((cxU storeFm).fm 462) F462 = true := by kernel_rfl
theorem ok463 : okF Tryz.prog (cxU storeFm) (look storeTab) ((cxU storeFm).fm 463) F463 = true := by kernel_rfl
theorem ok68 : okF Tryz.prog (cxU storeFm) (look storeTab) ((cxU storeFm).fm 68) F68 = true := by kernel_rfl
theorem ok464 : okF Tryz.prog (cxU storeFm) (look storeTab) ((cxU storeFm).fm 464) F464 = true := by kernel_rfl
theorem ok465 : okF Tryz.prog (cxU storeFm) (look storeTab) ((cxU storeFm).fm 465) F465 = true := by kernel_rfl
theorem ok466 : okF Tryz.prog (cxU storeFm) (look storeTab) ((cxU storeFm).fm 466) F466 = true := by kernel_rfl
theorem ok467 : okF Tryz.prog (cxU storeFm) (look storeTab) ((cxU storeFm).fm 467) F467 = true := by kernel_rfl
theorem ok249 : okF Tryz.prog (cxU storeFm) (look storeTab) ((cxU storeFm).fm 249) F249 = true := by kernel_rfl
theorem ok474 : okF Tryz.prog (cxU storeFm) (look storeTab) ((cxU storeFm).fm 474) F474 = true := by kernel_rfl
theorem ok240 : okF Tryz.prog (cxU storeFm) (look storeTab) ((cxU storeFm).fm 240) F240 = true := by kernel_rfl
theorem ok26 : okF Tryz.prog (cxU storeFm) (look storeTab) ((cxU storeFm).fm 26) F26 = true := by kernel_rfl
theorem ok27 : okF Tryz.prog (cxU storeFm) (look storeTab) ((cxU storeFm).fm 27) F27 = true := by kernel_rfl
theorem ok47 : okF Tryz.prog (cxU storeFm) (look storeTab) ((cxU storeFm).fm 47) F47 = true := by kernel_rfl
theorem ok70 : okF Tryz.prog (cxU storeFm) (look storeTab) ((cxU storeFm).fm 70) F70 = true := by kernel_rfl
theorem ok372 : okF Tryz.prog (cxU storeFm) (look storeTab) ((cxU storeFm).fm 372) F372 = true := by kernel_rfl
theorem ok421 : okF Tryz.prog (cxU storeFm) (look storeTab) ((cxU storeFm).fm 421) F421 = true := by kernel_rfl
theorem ok422 : okF Tryz.prog (cxU storeFm) (look storeTab) ((cxU storeFm).fm 422) F422 = true := by kernel_rfl
theorem ok423 : okF Tryz.prog (cxU storeFm) (look storeTab) ((cxU storeFm).fm 423) F423 = true := by kernel_rfl
theorem ok72 : okF Tryz.prog (cxU storeFm) (look storeTab) ((cxU storeFm).fm 72) F72 = true := by kernel_rfl
theorem ok63 : okF Tryz.prog (cxU storeFm) (look storeTab) ((cxU storeFm).fm 63) F63 = true := by kernel_rfl
theorem ok64 : okF Tryz.prog (cxU storeFm) (look storeTab) ((cxU storeFm).fm 64) F64 = true := by kernel_rfl
theorem ok65 : okF Tryz.prog (cxU storeFm) (look storeTab) ((cxU storeFm).fm 65) F65 = true := by kernel_rfl
theorem ok66 : okF Tryz.prog (cxU storeFm) (look storeTab) ((cxU storeFm).fm 66) F66 = true := by kernel_rfl
theorem ok468 : okF Tryz.prog (cxU storeFm) (look storeTab) ((cxU storeFm).fm 468) F468 = true := by kernel_rfl
theorem ok76 : okF Tryz.prog (cxU storeFm) (look storeTab) ((cxU storeFm).fm 76) F76 = true := by kernel_rfl
theorem ok32 : okF Tryz.prog (cxU storeFm) (look storeTab) ((cxU storeFm).fm 32) F32 = true := by kernel_rfl
theorem ok74 : okF Tryz.prog (cxU storeFm) (look storeTab) ((cxU storeFm).fm 74) F74 = true := by kernel_rfl
theorem ok71 : okF Tryz.prog (cxU storeFm) (look storeTab) ((cxU storeFm).fm 71) F71 = true := by kernel_rfl
theorem ok496 : okF Tryz.prog (cxU storeFm) (look storeTab) ((cxU storeFm).fm 496) F496 = true := by kernel_rfl
theorem ok73 : okF Tryz.prog (cxU storeFm) (look storeTab) ((cxU storeFm).fm 73) F73 = true := by kernel_rfl
theorem ok490 : okF Tryz.prog (cxU storeFm) (look storeTab) ((cxU storeFm).fm 490) F490 = true := by kernel_rfl
theorem ok491 : okF Tryz.prog (cxU storeFm) (look storeTab) ((cxU storeFm).fm 491) F491 = true := by kernel_rfl
theorem ok492 : okF Tryz.prog (cxU storeFm) (look storeTab) ((cxU storeFm).fm 492) F492 = true := by kernel_rfl
theorem ok493 : okF Tryz.prog (cxU storeFm) (look storeTab) ((cxU storeFm).fm 493) F493 = true := by kernel_rfl
theorem ok244 : okF Tryz.prog (cxU storeFm) (look storeTab) ((cxU storeFm).fm 244) F244 = true := by kernel_rfl
theorem ok301 : okF Tryz.prog (cxU storeFm) (look storeTab) ((cxU storeFm).fm 301) F301 = true := by kernel_rfl
theorem ok284 : okF Tryz.prog (cxU storeFm) (look storeTab) ((cxU storeFm).fm 284) F284 = true := by kernel_rfl
theorem ok499 : okF Tryz.prog (cxU storeFm) (look storeTab) ((cxU storeFm).fm 499) F499 = true := by kernel_rfl
theorem ok285 : okF Tryz.prog (cxU storeFm) (look storeTab) ((cxU storeFm).fm 285) F285 = true := by kernel_rfl
theorem ok287 : okF Tryz.prog (cxU storeFm) (look storeTab) ((cxU storeFm).fm 287) F287 = true := by kernel_rfl
theorem ok171 : okF Tryz.prog (cxU storeFm) (look storeTab) ((cxU storeFm).fm 171) F171 = true := by kernel_rfl
theorem ok288 : okF Tryz.prog (cxU storeFm) (look storeTab) ((cxU storeFm).fm 288) F288 = true := by kernel_rfl
theorem ok289 : okF Tryz.prog (cxU storeFm) (look storeTab) ((cxU storeFm).fm 289) F289 = true := by kernel_rfl
theorem ok290 : okF Tryz.prog (cxU storeFm) (look storeTab) ((cxU storeFm).fm 290) F290 = true := by kernel_rfl
theorem ok31 : okF Tryz.prog (cxU storeFm) (look storeTab) ((cxU storeFm).fm 31) F31 = true := by kernel_rfl
theorem ok304 : okF Tryz.prog (cxU storeFm) (look storeTab) ((cxU storeFm).fm 304) F304 = true := by kernel_rfl
theorem ok101 : okF Tryz.prog (cxU storeFm) (look storeTab) ((cxU storeFm).fm 101) F101 = true := by kernel_rfl
theorem ok153 : okF Tryz.prog (cxU storeFm) (look storeTab) ((cxU storeFm).fm 153) F153 = true := by kernel_rfl
theorem ok455 : okF Tryz.prog (cxU storeFm) (look storeTab) ((cxU storeFm).fm 455) F455 = true := by kernel_rfl
theorem ok456 : okF Tryz.prog (cxU storeFm) (look storeTab) ((cxU storeFm).fm 456) F456 = true := by kernel_rfl
theorem ok457 : okF Tryz.prog (cxU storeFm) (look storeTab) ((cxU storeFm).fm 457) F457 = true := by kernel_rfl
theorem ok458 : okF Tryz.prog (cxU storeFm) (look storeTab) ((cxU storeFm).fm 458) F458 = true := by kernel_rfl
theorem ok75 : okF Tryz.prog (cxU storeFm) (look storeTab) ((cxU storeFm).fm 75) F75 = true := by kernel_rfl
theorem ok505 : okF Tryz.prog (cxU storeFm) (look storeTab) ((cxU storeFm).fm 505) F505 = true := by kernel_rfl
theorem ok506 : okF Tryz.prog (cxU storeFm) (look storeTab) ((cxU storeFm).fm 506) F506 = true := by kernel_rfl
theorem ok507 : okF Tryz.prog (cxU storeFm) (look storeTab) ((cxU storeFm).fm 507) F507 = true := by kernel_rfl
theorem ok186 : okF Tryz.prog (cxU storeFm) (look storeTab) ((cxU storeFm).fm 186) F186 = true := by kernel_rfl
theorem ok203 : okF Tryz.prog (cxU storeFm) (look storeTab) ((cxU storeFm).fm 203) F203 = true := by kernel_rfl
theorem ok81 : okF Tryz.prog (cxU storeFm) (look storeTab) ((cxU storeFm).fm 81) F81 = true := by kernel_rfl
theorem ok298 : okF Tryz.prog (cxU storeFm) (look storeTab) ((cxU storeFm).fm 298) F298 = true := by kernel_rfl
theorem ok299 : okF Tryz.prog (cxU storeFm) (look storeTab) ((cxU storeFm).fm 299) F299 = true := by kernel_rfl
theorem ok316 : okF Tryz.prog (cxU storeFm) (look storeTab) ((cxU storeFm).fm 316) F316 = true := by kernel_rfl
theorem ok313 : okF Tryz.prog (cxU storeFm) (look storeTab) ((cxU storeFm).fm 313) F313 = true := by kernel_rfl
theorem ok314 : okF Tryz.prog (cxU storeFm) (look storeTab) ((cxU storeFm).fm 314) F314 = true := by kernel_rfl
theorem ok192 : okF Tryz.prog (cxU storeFm) (look storeTab) ((cxU storeFm).fm 192) F192 = true := by kernel_rfl
theorem ok82 : okF Tryz.prog (cxU storeFm) (look storeTab) ((cxU storeFm).fm 82) F82 = true := by kernel_rfl
theorem ok84 : okF Tryz.prog (cxU storeFm) (look storeTab) ((cxU storeFm).fm 84) F84 = true := by kernel_rfl
theorem ok200 : okF Tryz.prog (cxU storeFm) (look storeTab) ((cxU storeFm).fm 200) F200 = true := by kernel_rfl
theorem ok88 : okF Tryz.prog (cxU storeFm) (look storeTab) ((cxU storeFm).fm 88) F88 = true := by kernel_rfl
theorem ok312 : okF Tryz.prog (cxU storeFm) (look storeTab) ((cxU storeFm).fm 312) F312 = true := by kernel_rfl
theorem ok220 : okF Tryz.prog (cxU storeFm) (look storeTab) ((cxU storeFm).fm 220) F220 = true := by kernel_rfl
theorem ok221 : okF Tryz.prog (cxU storeFm) (look storeTab) ((cxU storeFm).fm 221) F221 = true := by kernel_rfl
theorem ok483 : okF Tryz.prog (cxU storeFm) (look storeTab) ((cxU storeFm).fm 483) F483 = true := by kernel_rfl
theorem ok484 : okF Tryz.prog (cxU storeFm) (look storeTab) ((cxU storeFm).fm 484) F484 = true := by kernel_rfl
theorem ok485 : okF Tryz.prog (cxU storeFm) (look storeTab) ((cxU storeFm).fm 485) F485 = true := by kernel_rfl
theorem ok7 : okF Tryz.prog (cxU storeFm) (look storeTab) ((cxU storeFm).fm 7) F7 = true := by kernel_rfl
theorem ok97 : okF Tryz.prog (cxU storeFm) (look storeTab) ((cxU storeFm).fm 97) F97 = true := by kernel_rfl
theorem ok98 : okF Tryz.prog (cxU storeFm) (look storeTab) ((cxU storeFm).fm 98) F98 = true := by kernel_rfl
theorem ok315 : okF Tryz.prog (cxU storeFm) (look storeTab) ((cxU storeFm).fm 315) F315 = true := by kernel_rfl
theorem ok319 : okF Tryz.prog (cxU storeFm) (look storeTab) ((cxU storeFm).fm 319) F319 = true := by kernel_rfl
theorem ok320 : okF Tryz.prog (cxU storeFm) (look storeTab) ((cxU storeFm).fm 320) F320 = true := by kernel_rfl
theorem ok100 : okF Tryz.prog (cxU storeFm) (look storeTab) ((cxU storeFm).fm 100) F100 = true := by kernel_rfl
theorem ok3 : okF Tryz.prog (cxU storeFm) (look storeTab) ((cxU storeFm).fm 3) F3 = true := by kernel_rfl
theorem ok225 : okF Tryz.prog (cxU storeFm) (look storeTab) ((cxU storeFm).fm 225) F225 = true := by kernel_rfl
theorem ok22 : okF Tryz.prog (cxU storeFm) (look storeTab) ((cxU storeFm).fm 22) F22 = true := by kernel_rfl
theorem ok106 : okF Tryz.prog (cxU storeFm) (look storeTab) ((cxU storeFm).fm 106) F106 = true := by kernel_rfl
theorem okAll : okTab Tryz.prog (cxU storeFm) storeTab storeTab = true := okc ok419 (okc ok398 (okc ok404 (okc ok339 (okc ok400 (okc ok413 (okc ok399 (okc ok395 (okc ok420 (okc ok407 (okc ok406 (okc ok408 (okc ok341 (okc ok437 (okc ok427 (okc ok40 (okc ok439 (okc ok41 (okc ok428 (okc ok440 (okc ok15 (okc ok442 (okc ok45 (okc ok360 (okc ok397 (okc ok401 (okc ok345 (okc ok43 (okc ok51 (okc ok429 (okc ok368 (okc ok39 (okc ok430 (okc ok431 (okc ok432 (okc ok366 (okc ok67 (okc ok367 (okc ok28 (okc ok57 (okc ok473 (okc ok462 (okc ok463 (okc ok68 (okcr ok464 rfl (okcr ok465 rfl (okcr ok466 rfl (okcr ok467 rfl (okc ok249 (okc ok474 (okc ok240 (okc ok26 (okc ok27 (okc ok47 (okc ok70 (okc ok372 (okcr ok421 rfl (okcr ok422 rfl (okcr ok423 rfl (okc ok72 (okc ok63 (okc ok64 (okc ok65 (okc ok66 (okc ok468 (okc ok76 (okc ok32 (okc ok74 (okc ok71 (okc ok496 (okc ok73 (okc ok490 (okc ok491 (okcr ok492 rfl (okcr ok493 rfl (okc ok244 (okc ok301 (okc ok284 (okc ok499 (okc ok285 (okc ok287 (okc ok171 (okc ok288 (okc ok289 (okc ok290 (okc ok31 (okc ok304 (okc ok101 (okc ok153 (okc ok455 (okc ok456 (okcr ok457 rfl (okcr ok458 rfl (okc ok75 (okc ok505 (okc ok506 (okc ok507 (okc ok186 (okc ok203 (okc ok81 (okc ok298 (okc ok299 (okc ok316 (okc ok313 (okc ok314 (okc ok192 (okc ok82 (okc ok84 (okc ok200 (okc ok88 (okc ok312 (okc ok220 (okc ok221 (okc ok483 (okc ok484 (okc ok485 (okc ok7 (okc ok97 (okc ok98 (okc ok315 (okc ok319 (okc ok320 (okc ok100 (okc ok3 (okc ok225 (okc ok22 (okc ok106 (okp rfl (okp rfl (okp rfl (okp rfl (okp rfl (okp rfl (okp rfl (okp rfl (okp rfl (okp rfl (okp rfl (okp rfl (rfl)))))))))))))))))))))))))))))))))))))))))))))))))))))))))))))))))))))))))))))))))))))))))))))))))))))))))))))))))))))))))))))))))))))))))))
theorem okClone69 : okF Tryz.prog (cxU storeFm) (onePg 69 (cloneF 1 [.int .i64 0])) 92 (cloneF 1 [.int .i64 0]) = true := by kernel_rfl
theorem okClone497 : okF Tryz.prog (cxU storeFm) (onePg 497 (cloneF 9 [.int .i64 0, .int .i64 0, .int .i64 0, .slice 1 [], .int .i64 0, .str [], .str [], .slice 1 [], .slice 36 []])) 219 (cloneF 9 [.int .i64 0, .int .i64 0, .int .i64 0, .slice 1 [], .int .i64 0, .str [], .str [], .slice 1 [], .slice 36 []]) = true := by kernel_rfl
theorem okClone307 : okF Tryz.prog (cxU storeFm) (onePg 307 (cloneF 17 [.int .i64 0, .int .i64 0, .str [], .str [], .int .i64 0, .slice 2 [], .int .i64 0, .int .i64 0, .int .i64 0, .int .i64 0, .int .i64 0, .int .i64 0, .slice 11 [], .int .i64 0, .int .i64 0, .int .i64 0, .int .i64 0])) 233 (cloneF 17 [.int .i64 0, .int .i64 0, .str [], .str [], .int .i64 0, .slice 2 [], .int .i64 0, .int .i64 0, .int .i64 0, .int .i64 0, .int .i64 0, .int .i64 0, .slice 11 [], .int .i64 0, .int .i64 0, .int .i64 0, .int .i64 0]) = true := by kernel_rfl
theorem okClone102 : okF Tryz.prog (cxU storeFm) (onePg 102 (cloneF 11 [.int .i64 0, .int .i64 0, .int .i64 0, .int .i64 0, .int .i64 0, .int .i64 0, .bool false, .str [], .slice 2 [], .str [], .bool false])) 301 (cloneF 11 [.int .i64 0, .int .i64 0, .int .i64 0, .int .i64 0, .int .i64 0, .int .i64 0, .bool false, .str [], .slice 2 [], .str [], .bool false]) = true := by kernel_rfl
theorem okClone23 : okF Tryz.prog (cxU storeFm) (onePg 23 (cloneF 5 [.int .i64 0, .int .i64 0, .int .i64 0, .bool false, .str []])) 306 (cloneF 5 [.int .i64 0, .int .i64 0, .int .i64 0, .bool false, .str []]) = true := by kernel_rfl
theorem okClone227 : okF Tryz.prog (cxU storeFm) (onePg 227 (cloneF 2 [.str [], .slice 5 []])) 311 (cloneF 2 [.str [], .slice 5 []]) = true := by kernel_rfl
#print axioms okAll
end Sg
namespace Sg
open Go Go.RowKit Go.Lib Go.Proofs
set_option linter.unusedVariables false
set_option linter.unusedSimpArgs false
set_option maxRecDepth 100000
set_option maxHeartbeats 4000000 in
set_option maxRecDepth 100000 in
theorem ins220_shift (b off n c i vb voff m vc : Nat) (cs vs : List Value) (w : World) (hi : i < n) (hm : 0 < m) (hroom : n + m ≤ c) (hlim : n + m ≤ 1073741824) (hvb : vb ≠ b)
    (hcl : cs.length = n * 9) (hvl : vs.length = m * 9)
    (hcs : ∀ j v, cs[j]? = some v → w.cell? ⟨b, off + j, none⟩ = some v) (hsp : ∀ j, j < (n + m) * 9 → (w.cell? ⟨b, off + j, none⟩).isSome = true) (hfz : ∀ j, w.frozen? ⟨b, j, none⟩ = false)
    (hvs : ∀ j v, vs[j]? = some v → w.cell? ⟨vb, voff + j, none⟩ = some v) (h1c : ∀ v ∈ cs, v.oneCell' = true) (h1v : ∀ v ∈ vs, v.oneCell' = true)
    (tA tB : TypeId) (kA kB : Nat) (hsa : w.shape? vb = some (tA, kA)) (hsb : w.shape? b = some (tB, kB)) (hkA : kA ≠ 0) :
    Calls Tryz.prog 220 #[.slice (some ⟨b, off, none⟩) n c, .int .i64 i, .slice (some ⟨vb, voff, none⟩) m vc] w fun e w' =>
      e = .returned (.slice (some ⟨b, off, none⟩) (n + m) c) ∧ w' = (w.drew.setCells b (off + (i + m) * 9) (cs.drop (i * 9))).setCells b (off + i * 9) vs := by
  have t0 := Tryz.underlying0; have t3 := Tryz.underlying3; have t4 := Tryz.underlying4; have t9 := Tryz.underlying105; have t24 := Tryz.underlying22
  have a0 := Tryz.isAgg0; have a3 := Tryz.isAgg3; have a4 := Tryz.isAgg4; have a9 := Tryz.isAgg105; have a24 := Tryz.isAgg22
  have z0 := Tryz.sizeOf0; have z3 := Tryz.sizeOf3; have z4 := Tryz.sizeOf4; have z9 := Tryz.sizeOf105; have z24 := Tryz.sizeOf22
  have v0 := Tryz.zeroValue0; have v3 := Tryz.zeroValue3; have v4 := Tryz.zeroValue4; have v24 := Tryz.zeroValue22
  have u0 := run_underlying t0; have u3 := run_underlying t3; have u4 := run_underlying t4; have u24 := run_underlying t24
  have hz1 : ¬ ((m : Int) = 0) := by omega
  have hz2 : ¬ ((i : Int) = (n : Int)) := by omega
  have hsz : (Tryz.prog.info? 105).map (·.size) = some 9 := by kernel_rfl
  have hov : ∀ lb cb, (callFunc 274 #[.slice (some ⟨vb, voff, none⟩) m vc, .slice (some ⟨b, off + (i + m) * 9, none⟩) lb cb]).run Tryz.prog w = .ok (.value (.bool false)) w := fun lb cb => by
    rw [run_callFunc_extern Tryz.func274 (by kernel_rfl) (by kernel_rfl) (by kernel_rfl) (e := Extern.SlicesOverlaps.overlaps #[22, 22] #[4]) (by kernel_rfl),
      run_overlaps_k w 22 4 105 t24 9 z9 ⟨vb, voff, none⟩ ⟨b, off + (i + m) * 9, none⟩ m vc lb cb hvb tA tB kA kB hsa hsb hkA (hfz _) (hfz _)]
    rfl
  have hdl : (cs.drop (i * 9)).length = (n - i) * 9 := by rw [List.length_drop, hcl]; omega
  have mixed : Tryz.prog.follows .mixedOrders = true := by kernel_rfl
  have hw1 : IntKind.i64.wrap ((i : Int) + (m : Int)) = (i : Int) + (m : Int) := by rw [IntKind.wrap_i64]; omega
  have hb1 : (0 : Int) ≤ (i : Int) + (m : Int) := by omega
  have hin : i ≤ n := by omega
  have htn : ((i : Int) + (m : Int)).toNat = i + m := by omega
  have hb2 : ¬ (c = i + m) := by omega
  have hb3 : (i : Int) ≤ (n : Int) + (m : Int) := by omega
  have hb4 : ¬ (c = i) := by omega
  have hcp1 : ∀ ty dc sc, (Builtin.copy_ #[22, 22] ty #[.slice (some ⟨b, off + (i + m) * 9, none⟩) (n + m - (i + m)) dc, .slice (some ⟨b, off + i * 9, none⟩) (n + m - i) sc]).run Tryz.prog w.drew = .ok (goInt (n - i : Nat)) (w.drew.setCells b (off + (i + m) * 9) (cs.drop (i * 9))) := fun ty dc sc =>
    run_copy_k 9 w.drew _ _ ty 105 b (off + (i + m) * 9) (n + m - (i + m)) dc ⟨b, off + i * 9, none⟩ (n + m - i) sc (cs.drop (i * 9)) (n - i) t24 hsz (by simp only [Nat.min_def]; split <;> omega) (by rw [hdl])
      (fun j v hj => by rw [Addr.add_lit, Nat.add_assoc]; exact hcs (i * 9 + j) v (by rwa [List.getElem?_drop] at hj))
      (fun j hj => by rw [Nat.add_assoc]; exact hsp _ (by omega)) (fun j hj => hfz _) (fun v hv => h1c v (List.mem_of_mem_drop hv))
  obtain ⟨W1, hW1⟩ : ∃ W1, W1 = w.drew.setCells b (off + (i + m) * 9) (cs.drop (i * 9)) := ⟨_, rfl⟩
  have hsp1 : ∀ k, k < (n + m) * 9 → (W1.cell? ⟨b, off + k, none⟩).isSome = true := fun k hk => by
    rw [hW1]
    exact isSome_setK b _ _ _ (fun j hj => by rw [Nat.add_assoc]; exact hsp _ (by omega)) _ (hsp k hk)
  have hcp2 : ∀ (W : World), (∀ x, W.cell? x = W1.cell? x) → (∀ x, W.frozen? x = W1.frozen? x) → ∀ ty dc, (Builtin.copy_ #[22, 22] ty #[.slice (some ⟨b, off + i * 9, none⟩) (n + m - i) dc, .slice (some ⟨vb, voff, none⟩) m vc]).run Tryz.prog W = .ok (goInt (m : Nat)) (W.setCells b (off + i * 9) vs) := fun W hWc hWf ty dc =>
    run_copy_k 9 W _ _ ty 105 b (off + i * 9) (n + m - i) dc ⟨vb, voff, none⟩ m vc vs m t24 hsz (by simp only [Nat.min_def]; split <;> omega) hvl
      (fun j v hj => by
        rw [Addr.add_lit, hWc, hW1, World.cell?_setCells_out b _ _ _ _ (fun h _ => absurd h hvb)]
        exact hvs j v hj)
      (fun j hj => by rw [hWc, Nat.add_assoc]; exact hsp1 _ (by omega)) (fun j hj => by rw [hWf, hW1, World.frozen?_setCells]; exact hfz _) h1v
  rw [← hW1] at hcp1
  go_enter Tryz.func220, Tryz.ntmps220
  go_wp2_with (simp only [hov])
  go_region_law_o (refine step_copy_k rfl _ _ 22 22 rfl _ _ (by simp [Act.eval, Act.put]) (by simp [Act.eval, Act.put]) (hcp1 _ _ _) ?_)
  go_wp2_with (at_builtin; refine wpList_copy_k _ rfl _ _ 22 22 rfl _ _ rfl rfl (hcp2 _ (fun _ => rfl) (fun _ => rfl) _ _) ?_)
  go_ret
  first | exact ⟨rfl, rfl⟩ | exact ⟨rfl, by rw [hW1]⟩
set_option maxHeartbeats 4000000 in
set_option maxRecDepth 100000 in
theorem ins220_end (base : Option Addr) (n c m vc : Nat) (vb : Option Addr) (w w' : World) (q : Value) (hm : 0 < m) (hnc : n ≤ c) (hlim : n + m ≤ 1073741824) (hnil : base = none → n = 0)
    (hrun : (Builtin.append_ #[22, 22] 22 #[.slice base n c, .slice vb m vc]).run Tryz.prog w = .ok q w') :
    Calls Tryz.prog 220 #[.slice base n c, .int .i64 n, .slice vb m vc] w fun e w1 => e = .returned q ∧ w1 = w' := by
  have t0 := Tryz.underlying0; have t3 := Tryz.underlying3; have t4 := Tryz.underlying4; have t9 := Tryz.underlying105; have t24 := Tryz.underlying22
  have a0 := Tryz.isAgg0; have a3 := Tryz.isAgg3; have a4 := Tryz.isAgg4; have a9 := Tryz.isAgg105; have a24 := Tryz.isAgg22
  have z0 := Tryz.sizeOf0; have z3 := Tryz.sizeOf3; have z4 := Tryz.sizeOf4; have z9 := Tryz.sizeOf105; have z24 := Tryz.sizeOf22
  have v0 := Tryz.zeroValue0; have v3 := Tryz.zeroValue3; have v4 := Tryz.zeroValue4; have v24 := Tryz.zeroValue22
  have u0 := run_underlying t0; have u3 := run_underlying t3; have u4 := run_underlying t4; have u24 := run_underlying t24
  have mixed : Tryz.prog.follows .mixedOrders = true := by kernel_rfl
  have hz1 : ¬ ((m : Int) = 0) := by omega
  go_enter Tryz.func220, Tryz.ntmps220
  cases base with
  | none =>
    have h0 := hnil rfl
    subst h0
    go_wp2_with (at_builtin; refine Lib.wpList_append_run _ rfl _ _ _ _ rfl _ _ rfl rfl _ _ hrun ?_)
    all_goals (go_ret; exact ⟨rfl, rfl⟩)
  | some a =>
    obtain ⟨ab, ao, asp⟩ := a
    go_wp2_with (at_builtin; refine Lib.wpList_append_run _ rfl _ _ _ _ rfl _ _ rfl rfl _ _ hrun ?_)
    all_goals (go_ret; exact ⟨rfl, rfl⟩)
set_option maxHeartbeats 4000000 in
set_option maxRecDepth 100000 in
theorem ins220_none (base : Option Addr) (n c i vc : Nat) (vb : Option Addr) (w : World) (hnc : n ≤ c) (hi : i ≤ n) (hnil : base = none → n = 0) :
    Calls Tryz.prog 220 #[.slice base n c, .int .i64 i, .slice vb 0 vc] w fun e w1 => e = .returned (.slice base n c) ∧ w1 = w := by
  have t0 := Tryz.underlying0; have t3 := Tryz.underlying3; have t4 := Tryz.underlying4; have t9 := Tryz.underlying105; have t24 := Tryz.underlying22
  have a0 := Tryz.isAgg0; have a3 := Tryz.isAgg3; have a4 := Tryz.isAgg4; have a9 := Tryz.isAgg105; have a24 := Tryz.isAgg22
  have z0 := Tryz.sizeOf0; have z3 := Tryz.sizeOf3; have z4 := Tryz.sizeOf4; have z9 := Tryz.sizeOf105; have z24 := Tryz.sizeOf22
  have v0 := Tryz.zeroValue0; have v3 := Tryz.zeroValue3; have v4 := Tryz.zeroValue4; have v24 := Tryz.zeroValue22
  have u0 := run_underlying t0; have u3 := run_underlying t3; have u4 := run_underlying t4; have u24 := run_underlying t24
  have mixed : Tryz.prog.follows .mixedOrders = true := by kernel_rfl
  go_enter Tryz.func220, Tryz.ntmps220
  cases base with
  | none =>
    have h0 := hnil rfl
    subst h0
    have hi0 : i = 0 := by omega
    subst hi0
    go_wp2
    all_goals (go_ret; exact ⟨rfl, rfl⟩)
  | some a =>
    obtain ⟨ab, ao, asp⟩ := a
    go_wp2
    all_goals (go_ret; exact ⟨rfl, rfl⟩)
set_option maxHeartbeats 4000000 in
set_option maxRecDepth 100000 in
theorem ins220_grow (b off n c i vb voff m vc : Nat) (cs vs : List Value) (w : World) (hi : i < n) (hm : 0 < m) (hnc : n ≤ c) (hroom : c < n + m) (hlim : n + m ≤ 1073741824)
    (hcl : cs.length = n * 9) (hvl : vs.length = m * 9) (hbw : b < w.heap.size) (hvw : vb < w.heap.size)
    (hcs : ∀ j v, cs[j]? = some v → w.cell? ⟨b, off + j, none⟩ = some v)
    (hvs : ∀ j v, vs[j]? = some v → w.cell? ⟨vb, voff + j, none⟩ = some v) (h1c : ∀ v ∈ cs, v.oneCell' = true) (h1v : ∀ v ∈ vs, v.oneCell' = true) :
    Calls Tryz.prog 220 #[.slice (some ⟨b, off, none⟩) n c, .int .i64 i, .slice (some ⟨vb, voff, none⟩) m vc] w fun e w' =>
      ∃ (G : Nat) (ROW : Array Value) (d1 : Nat), n + m ≤ G ∧ (n + m) * 9 ≤ ROW.size ∧ ROW.size = G * 9 ∧ (∀ (j : Nat) (v : Value), (cs.take (i * 9))[j]? = some v → ROW[j]? = some v) ∧ e = .returned (.slice (some ⟨w.heap.size, 0, none⟩) (n + m) G) ∧
      w' = ((({ w with drawn := d1 } : World).alloc (.cells ROW 105)).setCells w.heap.size (i * 9) vs).setCells w.heap.size ((i + m) * 9) (cs.drop (i * 9)) := by
  have t0 := Tryz.underlying0; have t3 := Tryz.underlying3; have t4 := Tryz.underlying4; have t9 := Tryz.underlying105; have t24 := Tryz.underlying22
  have a0 := Tryz.isAgg0; have a3 := Tryz.isAgg3; have a4 := Tryz.isAgg4; have a9 := Tryz.isAgg105; have a24 := Tryz.isAgg22
  have z0 := Tryz.sizeOf0; have z3 := Tryz.sizeOf3; have z4 := Tryz.sizeOf4; have z9 := Tryz.sizeOf105; have z24 := Tryz.sizeOf22
  have v0 := Tryz.zeroValue0; have v3 := Tryz.zeroValue3; have v4 := Tryz.zeroValue4; have v24 := Tryz.zeroValue22
  have u0 := run_underlying t0; have u3 := run_underlying t3; have u4 := run_underlying t4; have u24 := run_underlying t24
  have mixed : Tryz.prog.follows .mixedOrders = true := by kernel_rfl
  obtain ⟨i0, hi0, hz0, hzs, hzb⟩ : ∃ i0, Tryz.prog.info? 105 = some i0 ∧ i0.zero = some (Value.agg #[.int .i64 0, .int .i64 0, .int .i64 0, .slice none 0 0, .int .i64 0, .string ⟨#[]⟩, .string ⟨#[]⟩, .slice none 0 0, .slice none 0 0]) ∧ i0.size = 9 ∧ i0.bytes = 136 := ⟨_, rfl, rfl, rfl, rfl⟩
  have hz1 : ¬ ((m : Int) = 0) := by omega
  have hz2 : ¬ ((i : Int) = (n : Int)) := by omega
  have hz3 : (c : Int) < (n : Int) + (m : Int) := by omega
  have hsz : (Tryz.prog.info? 105).map (·.size) = some 9 := by rw [hi0]; simp [hzs]
  have hkk : (n : Int) + (m : Int) - (i : Int) = ((n + m - i : Nat) : Int) := by omega
  have hik : i + (n + m - i) = n + m := by omega
  have hold : (Builtin.firstCells i0.size i (.slice (some ⟨b, off, none⟩) i c)).run Tryz.prog w.drew = .ok (cs.take (i * 9)).toArray w.drew := by
    rw [hzs]
    exact run_firstCells_some w.drew 9 i ⟨b, off, none⟩ i c (cs.take (i * 9)) (by rw [List.length_take]; omega) (fun j v hj => by
      rw [Addr.add_lit]
      rw [List.getElem?_take] at hj
      split at hj
      · exact hcs j v hj
      · cases hj)
  have hrz : ∀ ty, (Builtin.append_ #[22, 3] ty #[.slice (some ⟨b, off, none⟩) i c, .int .i64 ((n : Int) + (m : Int) - (i : Int))]).run Tryz.prog w =
      .ok (.slice (some ⟨w.heap.size, 0, none⟩) (n + m) (grownCap w (n + m) c 105)) (w.drew.alloc (.cells ((cs.take (i * 9)).toArray ++ Builtin.zeroCells (Value.agg #[.int .i64 0, .int .i64 0, .int .i64 0, .slice none 0 0, .int .i64 0, .string ⟨#[]⟩, .string ⟨#[]⟩, .slice none 0 0, .slice none 0 0]).cells (n + m - i) ++ Builtin.zeroCells (Value.agg #[.int .i64 0, .int .i64 0, .int .i64 0, .slice none 0 0, .int .i64 0, .string ⟨#[]⟩, .string ⟨#[]⟩, .slice none 0 0, .slice none 0 0]).cells (grownCap w (n + m) c 105 - (n + m))) 105)) := fun ty => by
    have h := Lib.run_append_grow_zeros w 22 3 ty 105 i0 _ .i64 .i64 t24 t3 hi0 hz0 (some ⟨b, off, none⟩) i c (cs.take (i * 9)) hold (n + m - i) (by omega) (by omega) (by omega) (by omega) (by rw [hzb]; omega) (by rw [hzb, hik]; exact growslice_fits hroom (by omega))
    rw [hik] at h
    rw [hkk]
    exact h
  obtain ⟨G, hG⟩ : ∃ G, G = grownCap w (n + m) c 105 := ⟨_, rfl⟩
  obtain ⟨ROW, hROW⟩ : ∃ ROW : Array Value, ROW = (cs.take (i * 9)).toArray ++ Builtin.zeroCells (Value.agg #[.int .i64 0, .int .i64 0, .int .i64 0, .slice none 0 0, .int .i64 0, .string ⟨#[]⟩, .string ⟨#[]⟩, .slice none 0 0, .slice none 0 0]).cells (n + m - i) ++ Builtin.zeroCells (Value.agg #[.int .i64 0, .int .i64 0, .int .i64 0, .slice none 0 0, .int .i64 0, .string ⟨#[]⟩, .string ⟨#[]⟩, .slice none 0 0, .slice none 0 0]).cells (G - (n + m)) := ⟨_, rfl⟩
  rw [← hG] at hrz
  rw [← hROW] at hrz
  have hGn : n + m ≤ G := by rw [hG]; exact grownCap_ge w _ _ _
  have hzc : ∀ k, (Builtin.zeroCells (Value.agg #[.int .i64 0, .int .i64 0, .int .i64 0, .slice none 0 0, .int .i64 0, .string ⟨#[]⟩, .string ⟨#[]⟩, .slice none 0 0, .slice none 0 0]).cells k).size = k * 9 := fun k => by
    simp [Builtin.zeroCells, Value.cells]
  have hRs : ROW.size = G * 9 := by
    rw [hROW, Array.size_append, Array.size_append, hzc, hzc, List.size_toArray, List.length_take]
    omega
  have hRl : (n + m) * 9 ≤ ROW.size := by rw [hRs]; omega
  have hRt : ∀ j v, (cs.take (i * 9))[j]? = some v → ROW[j]? = some v := fun j v hj => by
    have hjl : j < (cs.take (i * 9)).length := by
      rcases Nat.lt_or_ge j (cs.take (i * 9)).length with h | h
      · exact h
      · rw [List.getElem?_eq_none h] at hj; simp at hj
    rw [hROW, Array.append_assoc, Array.getElem?_append_left (by simpa using hjl)]
    simpa using hj
  obtain ⟨W1, hW1⟩ : ∃ W1, W1 = w.drew.alloc (.cells ROW 105) := ⟨_, rfl⟩
  rw [← hW1] at hrz
  have hN : ∀ j, j < (n + m) * 9 → (W1.cell? ⟨w.heap.size, j, none⟩).isSome = true := fun j hj => by
    rw [hW1, World.cell?_alloc_at (w := w.drew) ROW _ w.heap.size j rfl, Array.getElem?_eq_getElem (by omega)]; rfl
  have hNf : ∀ j, W1.frozen? ⟨w.heap.size, j, none⟩ = false := fun j => by rw [hW1]; exact World.frozen?_alloc_at (w := w.drew) ROW _ w.heap.size j rfl
  have hOb : ∀ j v, w.cell? ⟨b, j, none⟩ = some v → W1.cell? ⟨b, j, none⟩ = some v := fun j v h => by rw [hW1, World.cell?_alloc_past (w := w.drew) _ b j hbw]; exact h
  have hOv : ∀ j v, w.cell? ⟨vb, j, none⟩ = some v → W1.cell? ⟨vb, j, none⟩ = some v := fun j v h => by rw [hW1, World.cell?_alloc_past (w := w.drew) _ vb j hvw]; exact h
  have hcpA : ∀ (W : World), (∀ x, W.cell? x = W1.cell? x) → (∀ x, W.frozen? x = W1.frozen? x) → ∀ ty dc, (Builtin.copy_ #[22, 22] ty #[.slice (some ⟨w.heap.size, i * 9, none⟩) (n + m - i) dc, .slice (some ⟨vb, voff, none⟩) m vc]).run Tryz.prog W = .ok (goInt (m : Nat)) (W.setCells w.heap.size (i * 9) vs) := fun W hWc hWf ty dc =>
    run_copy_k 9 W _ _ ty 105 w.heap.size (i * 9) (n + m - i) dc ⟨vb, voff, none⟩ m vc vs m t24 hsz (by simp only [Nat.min_def]; split <;> omega) hvl
      (fun j v hj => by rw [Addr.add_lit, hWc]; exact hOv _ v (hvs j v hj))
      (fun j hj => by rw [hWc]; exact hN _ (by omega)) (fun j hj => by rw [hWf]; exact hNf _) h1v
  have hG63 : G ≤ 9223372036854775807 := by
    have := grownCap_le_maxLen w (n + m) c 105 (by unfold maxLen; omega)
    rw [← hG] at this
    unfold maxLen at this
    omega
  have hGi : ¬ (G = i) := by omega
  have hGim : ¬ (G = i + m) := by omega
  have hci : ¬ (c = i) := by omega
  have hbN : b ≠ w.heap.size := by omega
  have hdl : (cs.drop (i * 9)).length = (n - i) * 9 := by rw [List.length_drop, hcl]; omega
  have hcpB : ∀ (W : World), (∀ x, W.cell? x = (W1.setCells w.heap.size (i * 9) vs).cell? x) → (∀ x, W.frozen? x = (W1.setCells w.heap.size (i * 9) vs).frozen? x) → ∀ ty dc sc, (Builtin.copy_ #[22, 22] ty #[.slice (some ⟨w.heap.size, (i + m) * 9, none⟩) (n + m - (i + m)) dc, .slice (some ⟨b, off + i * 9, none⟩) (n - i) sc]).run Tryz.prog W = .ok (goInt (n - i : Nat)) (W.setCells w.heap.size ((i + m) * 9) (cs.drop (i * 9))) := fun W hWc hWf ty dc sc =>
    run_copy_k 9 W _ _ ty 105 w.heap.size ((i + m) * 9) (n + m - (i + m)) dc ⟨b, off + i * 9, none⟩ (n - i) sc (cs.drop (i * 9)) (n - i) t24 hsz (by simp only [Nat.min_def]; split <;> omega) hdl
      (fun j v hj => by
        rw [Addr.add_lit, hWc, World.cell?_setCells_out _ _ _ _ _ (fun h _ => absurd h hbN), Nat.add_assoc]
        exact hOb _ v (hcs (i * 9 + j) v (by rwa [List.getElem?_drop] at hj)))
      (fun j hj => by rw [hWc]; exact isSome_setK _ _ _ _ (fun t ht => hN _ (by omega)) _ (hN _ (by omega)))
      (fun j hj => by rw [hWf, World.frozen?_setCells]; exact hNf _) (fun v hv => h1c v (List.mem_of_mem_drop hv))
  subst hW1
  have hE1 : ∀ x, ((w.alloc (.cells ROW 105)).drew).cell? x = (w.drew.alloc (.cells ROW 105)).cell? x := fun x => rfl
  have hE2 : ∀ x, ((w.alloc (.cells ROW 105)).drew).frozen? x = (w.drew.alloc (.cells ROW 105)).frozen? x := fun x => rfl
  have hF1 : ∀ x, (((w.alloc (.cells ROW 105)).drew.setCells w.heap.size (i * 9) vs).drew).cell? x = ((w.drew.alloc (.cells ROW 105)).setCells w.heap.size (i * 9) vs).cell? x := fun x => rfl
  have hF2 : ∀ x, (((w.alloc (.cells ROW 105)).drew.setCells w.heap.size (i * 9) vs).drew).frozen? x = ((w.drew.alloc (.cells ROW 105)).setCells w.heap.size (i * 9) vs).frozen? x := fun x => rfl
  have hw1 : IntKind.i64.wrap ((i : Int) + (m : Int)) = (i : Int) + (m : Int) := by rw [IntKind.wrap_i64]; omega
  have hb1 : (0 : Int) ≤ (i : Int) + (m : Int) := by omega
  have hin : i ≤ n := by omega
  have htn : ((i : Int) + (m : Int)).toNat = i + m := by omega
  have hb3 : (i : Int) ≤ (n : Int) := by omega
  clear hkk hik hold hROW hG
  go_enter Tryz.func220, Tryz.ntmps220
  go_wp2_with (first
    | (at_builtin; refine Lib.wpList_append_run _ rfl _ _ _ _ rfl _ _ rfl rfl _ _ (hrz _) ?_)
    | (at_builtin; refine wpList_copy_k _ rfl _ _ 22 22 rfl _ _ rfl rfl (hcpA _ hE1 hE2 _ _) ?_)
    | (at_builtin; refine wpList_copy_k _ rfl _ _ 22 22 rfl _ _ rfl rfl (hcpB _ (fun _ => rfl) (fun _ => rfl) _ _ _) ?_))
  go_region_law_o (refine step_copy_k rfl _ _ 22 22 rfl (.slice (some ⟨w.heap.size, (i + m) * 9, none⟩) (n + m - (i + m)) (G - (i + m))) (.slice (some ⟨b, off + i * 9, none⟩) (n - i) (c - i)) (by simp [Act.eval, Act.put]) (by simp [Act.eval, Act.put]) (hcpB _ hF1 hF2 3 (G - (i + m)) (c - i)) ?_)
  go_wp2
  go_ret
  exact ⟨G, ROW, w.drew.drew.drawn, hGn, hRl, hRs, hRt, rfl, by first | rfl | (rw [drew_setK]; rfl) | (simp only [drew_setK]; rfl)⟩
theorem insC220 : InsC Tryz.prog 220 9 22 105 where
  ent := ⟨Tryz.f220, Tryz.func220, by kernel_rfl, by kernel_rfl⟩
  hS := Tryz.underlying22
  hz := by kernel_rfl
  pos := by decide
  info := ⟨_, (Value.agg #[.int .i64 0, .int .i64 0, .int .i64 0, .slice none 0 0, .int .i64 0, .string ⟨#[]⟩, .string ⟨#[]⟩, .slice none 0 0, .slice none 0 0]), rfl, by decide, rfl, rfl⟩
  nothing := fun base n c i vc vb w h1 h2 h3 => ins220_none base n c i vc vb w h1 h2 h3
  end_ := fun base n c m vc vb w w' q h1 h2 h3 h4 h5 => ins220_end base n c m vc vb w w' q h1 h2 h3 h4 h5
  shift := fun b off n c i vb voff m vc cs vs w h1 h2 h3 h4 h5 h6 h7 h8 h9 h10 h11 h12 h13 tA tB kA kB h14 h15 h16 => ins220_shift b off n c i vb voff m vc cs vs w h1 h2 h3 h4 h5 h6 h7 h8 h9 h10 h11 h12 h13 tA tB kA kB h14 h15 h16
  grow := fun b off n c i vb voff m vc cs vs w h1 h2 h3 h4 h5 h6 h7 h8 h9 h10 h11 h12 h13 => ins220_grow b off n c i vb voff m vc cs vs w h1 h2 h3 h4 h5 h6 h7 h8 h9 h10 h11 h12 h13
set_option maxHeartbeats 4000000 in
set_option maxRecDepth 100000 in
theorem ins284_shift (b off n c i vb voff m vc : Nat) (cs vs : List Value) (w : World) (hi : i < n) (hm : 0 < m) (hroom : n + m ≤ c) (hlim : n + m ≤ 1073741824) (hvb : vb ≠ b)
    (hcl : cs.length = n * 17) (hvl : vs.length = m * 17)
    (hcs : ∀ j v, cs[j]? = some v → w.cell? ⟨b, off + j, none⟩ = some v) (hsp : ∀ j, j < (n + m) * 17 → (w.cell? ⟨b, off + j, none⟩).isSome = true) (hfz : ∀ j, w.frozen? ⟨b, j, none⟩ = false)
    (hvs : ∀ j v, vs[j]? = some v → w.cell? ⟨vb, voff + j, none⟩ = some v) (h1c : ∀ v ∈ cs, v.oneCell' = true) (h1v : ∀ v ∈ vs, v.oneCell' = true)
    (tA tB : TypeId) (kA kB : Nat) (hsa : w.shape? vb = some (tA, kA)) (hsb : w.shape? b = some (tB, kB)) (hkA : kA ≠ 0) :
    Calls Tryz.prog 284 #[.slice (some ⟨b, off, none⟩) n c, .int .i64 i, .slice (some ⟨vb, voff, none⟩) m vc] w fun e w' =>
      e = .returned (.slice (some ⟨b, off, none⟩) (n + m) c) ∧ w' = (w.drew.setCells b (off + (i + m) * 17) (cs.drop (i * 17))).setCells b (off + i * 17) vs := by
  have t0 := Tryz.underlying0; have t3 := Tryz.underlying3; have t4 := Tryz.underlying4; have t9 := Tryz.underlying93; have t24 := Tryz.underlying35
  have a0 := Tryz.isAgg0; have a3 := Tryz.isAgg3; have a4 := Tryz.isAgg4; have a9 := Tryz.isAgg93; have a24 := Tryz.isAgg35
  have z0 := Tryz.sizeOf0; have z3 := Tryz.sizeOf3; have z4 := Tryz.sizeOf4; have z9 := Tryz.sizeOf93; have z24 := Tryz.sizeOf35
  have v0 := Tryz.zeroValue0; have v3 := Tryz.zeroValue3; have v4 := Tryz.zeroValue4; have v24 := Tryz.zeroValue35
  have u0 := run_underlying t0; have u3 := run_underlying t3; have u4 := run_underlying t4; have u24 := run_underlying t24
  have hz1 : ¬ ((m : Int) = 0) := by omega
  have hz2 : ¬ ((i : Int) = (n : Int)) := by omega
  have hsz : (Tryz.prog.info? 93).map (·.size) = some 17 := by kernel_rfl
  have hov : ∀ lb cb, (callFunc 307 #[.slice (some ⟨vb, voff, none⟩) m vc, .slice (some ⟨b, off + (i + m) * 17, none⟩) lb cb]).run Tryz.prog w = .ok (.value (.bool false)) w := fun lb cb => by
    rw [run_callFunc_extern Tryz.func307 (by kernel_rfl) (by kernel_rfl) (by kernel_rfl) (e := Extern.SlicesOverlaps.overlaps #[35, 35] #[4]) (by kernel_rfl),
      run_overlaps_k w 35 4 93 t24 17 z9 ⟨vb, voff, none⟩ ⟨b, off + (i + m) * 17, none⟩ m vc lb cb hvb tA tB kA kB hsa hsb hkA (hfz _) (hfz _)]
    rfl
  have hdl : (cs.drop (i * 17)).length = (n - i) * 17 := by rw [List.length_drop, hcl]; omega
  have mixed : Tryz.prog.follows .mixedOrders = true := by kernel_rfl
  have hw1 : IntKind.i64.wrap ((i : Int) + (m : Int)) = (i : Int) + (m : Int) := by rw [IntKind.wrap_i64]; omega
  have hb1 : (0 : Int) ≤ (i : Int) + (m : Int) := by omega
  have hin : i ≤ n := by omega
  have htn : ((i : Int) + (m : Int)).toNat = i + m := by omega
  have hb2 : ¬ (c = i + m) := by omega
  have hb3 : (i : Int) ≤ (n : Int) + (m : Int) := by omega
  have hb4 : ¬ (c = i) := by omega
  have hcp1 : ∀ ty dc sc, (Builtin.copy_ #[35, 35] ty #[.slice (some ⟨b, off + (i + m) * 17, none⟩) (n + m - (i + m)) dc, .slice (some ⟨b, off + i * 17, none⟩) (n + m - i) sc]).run Tryz.prog w.drew = .ok (goInt (n - i : Nat)) (w.drew.setCells b (off + (i + m) * 17) (cs.drop (i * 17))) := fun ty dc sc =>
    run_copy_k 17 w.drew _ _ ty 93 b (off + (i + m) * 17) (n + m - (i + m)) dc ⟨b, off + i * 17, none⟩ (n + m - i) sc (cs.drop (i * 17)) (n - i) t24 hsz (by simp only [Nat.min_def]; split <;> omega) (by rw [hdl])
      (fun j v hj => by rw [Addr.add_lit, Nat.add_assoc]; exact hcs (i * 17 + j) v (by rwa [List.getElem?_drop] at hj))
      (fun j hj => by rw [Nat.add_assoc]; exact hsp _ (by omega)) (fun j hj => hfz _) (fun v hv => h1c v (List.mem_of_mem_drop hv))
  obtain ⟨W1, hW1⟩ : ∃ W1, W1 = w.drew.setCells b (off + (i + m) * 17) (cs.drop (i * 17)) := ⟨_, rfl⟩
  have hsp1 : ∀ k, k < (n + m) * 17 → (W1.cell? ⟨b, off + k, none⟩).isSome = true := fun k hk => by
    rw [hW1]
    exact isSome_setK b _ _ _ (fun j hj => by rw [Nat.add_assoc]; exact hsp _ (by omega)) _ (hsp k hk)
  have hcp2 : ∀ (W : World), (∀ x, W.cell? x = W1.cell? x) → (∀ x, W.frozen? x = W1.frozen? x) → ∀ ty dc, (Builtin.copy_ #[35, 35] ty #[.slice (some ⟨b, off + i * 17, none⟩) (n + m - i) dc, .slice (some ⟨vb, voff, none⟩) m vc]).run Tryz.prog W = .ok (goInt (m : Nat)) (W.setCells b (off + i * 17) vs) := fun W hWc hWf ty dc =>
    run_copy_k 17 W _ _ ty 93 b (off + i * 17) (n + m - i) dc ⟨vb, voff, none⟩ m vc vs m t24 hsz (by simp only [Nat.min_def]; split <;> omega) hvl
      (fun j v hj => by
        rw [Addr.add_lit, hWc, hW1, World.cell?_setCells_out b _ _ _ _ (fun h _ => absurd h hvb)]
        exact hvs j v hj)
      (fun j hj => by rw [hWc, Nat.add_assoc]; exact hsp1 _ (by omega)) (fun j hj => by rw [hWf, hW1, World.frozen?_setCells]; exact hfz _) h1v
  rw [← hW1] at hcp1
  go_enter Tryz.func284, Tryz.ntmps284
  go_wp2_with (simp only [hov])
  go_region_law_o (refine step_copy_k rfl _ _ 35 35 rfl _ _ (by simp [Act.eval, Act.put]) (by simp [Act.eval, Act.put]) (hcp1 _ _ _) ?_)
  go_wp2_with (at_builtin; refine wpList_copy_k _ rfl _ _ 35 35 rfl _ _ rfl rfl (hcp2 _ (fun _ => rfl) (fun _ => rfl) _ _) ?_)
  go_ret
  first | exact ⟨rfl, rfl⟩ | exact ⟨rfl, by rw [hW1]⟩
set_option maxHeartbeats 4000000 in
set_option maxRecDepth 100000 in
theorem ins284_end (base : Option Addr) (n c m vc : Nat) (vb : Option Addr) (w w' : World) (q : Value) (hm : 0 < m) (hnc : n ≤ c) (hlim : n + m ≤ 1073741824) (hnil : base = none → n = 0)
    (hrun : (Builtin.append_ #[35, 35] 35 #[.slice base n c, .slice vb m vc]).run Tryz.prog w = .ok q w') :
    Calls Tryz.prog 284 #[.slice base n c, .int .i64 n, .slice vb m vc] w fun e w1 => e = .returned q ∧ w1 = w' := by
  have t0 := Tryz.underlying0; have t3 := Tryz.underlying3; have t4 := Tryz.underlying4; have t9 := Tryz.underlying93; have t24 := Tryz.underlying35
  have a0 := Tryz.isAgg0; have a3 := Tryz.isAgg3; have a4 := Tryz.isAgg4; have a9 := Tryz.isAgg93; have a24 := Tryz.isAgg35
  have z0 := Tryz.sizeOf0; have z3 := Tryz.sizeOf3; have z4 := Tryz.sizeOf4; have z9 := Tryz.sizeOf93; have z24 := Tryz.sizeOf35
  have v0 := Tryz.zeroValue0; have v3 := Tryz.zeroValue3; have v4 := Tryz.zeroValue4; have v24 := Tryz.zeroValue35
  have u0 := run_underlying t0; have u3 := run_underlying t3; have u4 := run_underlying t4; have u24 := run_underlying t24
  have mixed : Tryz.prog.follows .mixedOrders = true := by kernel_rfl
  have hz1 : ¬ ((m : Int) = 0) := by omega
  go_enter Tryz.func284, Tryz.ntmps284
  cases base with
  | none =>
    have h0 := hnil rfl
    subst h0
    go_wp2_with (at_builtin; refine Lib.wpList_append_run _ rfl _ _ _ _ rfl _ _ rfl rfl _ _ hrun ?_)
    all_goals (go_ret; exact ⟨rfl, rfl⟩)
  | some a =>
    obtain ⟨ab, ao, asp⟩ := a
    go_wp2_with (at_builtin; refine Lib.wpList_append_run _ rfl _ _ _ _ rfl _ _ rfl rfl _ _ hrun ?_)
    all_goals (go_ret; exact ⟨rfl, rfl⟩)
set_option maxHeartbeats 4000000 in
set_option maxRecDepth 100000 in
theorem ins284_none (base : Option Addr) (n c i vc : Nat) (vb : Option Addr) (w : World) (hnc : n ≤ c) (hi : i ≤ n) (hnil : base = none → n = 0) :
    Calls Tryz.prog 284 #[.slice base n c, .int .i64 i, .slice vb 0 vc] w fun e w1 => e = .returned (.slice base n c) ∧ w1 = w := by
  have t0 := Tryz.underlying0; have t3 := Tryz.underlying3; have t4 := Tryz.underlying4; have t9 := Tryz.underlying93; have t24 := Tryz.underlying35
  have a0 := Tryz.isAgg0; have a3 := Tryz.isAgg3; have a4 := Tryz.isAgg4; have a9 := Tryz.isAgg93; have a24 := Tryz.isAgg35
  have z0 := Tryz.sizeOf0; have z3 := Tryz.sizeOf3; have z4 := Tryz.sizeOf4; have z9 := Tryz.sizeOf93; have z24 := Tryz.sizeOf35
  have v0 := Tryz.zeroValue0; have v3 := Tryz.zeroValue3; have v4 := Tryz.zeroValue4; have v24 := Tryz.zeroValue35
  have u0 := run_underlying t0; have u3 := run_underlying t3; have u4 := run_underlying t4; have u24 := run_underlying t24
  have mixed : Tryz.prog.follows .mixedOrders = true := by kernel_rfl
  go_enter Tryz.func284, Tryz.ntmps284
  cases base with
  | none =>
    have h0 := hnil rfl
    subst h0
    have hi0 : i = 0 := by omega
    subst hi0
    go_wp2
    all_goals (go_ret; exact ⟨rfl, rfl⟩)
  | some a =>
    obtain ⟨ab, ao, asp⟩ := a
    go_wp2
    all_goals (go_ret; exact ⟨rfl, rfl⟩)
set_option maxHeartbeats 4000000 in
set_option maxRecDepth 100000 in
theorem ins284_grow (b off n c i vb voff m vc : Nat) (cs vs : List Value) (w : World) (hi : i < n) (hm : 0 < m) (hnc : n ≤ c) (hroom : c < n + m) (hlim : n + m ≤ 1073741824)
    (hcl : cs.length = n * 17) (hvl : vs.length = m * 17) (hbw : b < w.heap.size) (hvw : vb < w.heap.size)
    (hcs : ∀ j v, cs[j]? = some v → w.cell? ⟨b, off + j, none⟩ = some v)
    (hvs : ∀ j v, vs[j]? = some v → w.cell? ⟨vb, voff + j, none⟩ = some v) (h1c : ∀ v ∈ cs, v.oneCell' = true) (h1v : ∀ v ∈ vs, v.oneCell' = true) :
    Calls Tryz.prog 284 #[.slice (some ⟨b, off, none⟩) n c, .int .i64 i, .slice (some ⟨vb, voff, none⟩) m vc] w fun e w' =>
      ∃ (G : Nat) (ROW : Array Value) (d1 : Nat), n + m ≤ G ∧ (n + m) * 17 ≤ ROW.size ∧ ROW.size = G * 17 ∧ (∀ (j : Nat) (v : Value), (cs.take (i * 17))[j]? = some v → ROW[j]? = some v) ∧ e = .returned (.slice (some ⟨w.heap.size, 0, none⟩) (n + m) G) ∧
      w' = ((({ w with drawn := d1 } : World).alloc (.cells ROW 93)).setCells w.heap.size (i * 17) vs).setCells w.heap.size ((i + m) * 17) (cs.drop (i * 17)) := by
  have t0 := Tryz.underlying0; have t3 := Tryz.underlying3; have t4 := Tryz.underlying4; have t9 := Tryz.underlying93; have t24 := Tryz.underlying35
  have a0 := Tryz.isAgg0; have a3 := Tryz.isAgg3; have a4 := Tryz.isAgg4; have a9 := Tryz.isAgg93; have a24 := Tryz.isAgg35
  have z0 := Tryz.sizeOf0; have z3 := Tryz.sizeOf3; have z4 := Tryz.sizeOf4; have z9 := Tryz.sizeOf93; have z24 := Tryz.sizeOf35
  have v0 := Tryz.zeroValue0; have v3 := Tryz.zeroValue3; have v4 := Tryz.zeroValue4; have v24 := Tryz.zeroValue35
  have u0 := run_underlying t0; have u3 := run_underlying t3; have u4 := run_underlying t4; have u24 := run_underlying t24
  have mixed : Tryz.prog.follows .mixedOrders = true := by kernel_rfl
  obtain ⟨i0, hi0, hz0, hzs, hzb⟩ : ∃ i0, Tryz.prog.info? 93 = some i0 ∧ i0.zero = some (Value.agg #[.int .i64 0, .int .i64 0, .string ⟨#[]⟩, .string ⟨#[]⟩, .int .i64 0, .slice none 0 0, .int .i64 0, .int .i64 0, .int .i64 0, .int .i64 0, .int .i64 0, .int .i64 0, .slice none 0 0, .int .i64 0, .int .i64 0, .int .i64 0, .int .i64 0]) ∧ i0.size = 17 ∧ i0.bytes = 184 := ⟨_, rfl, rfl, rfl, rfl⟩
  have hz1 : ¬ ((m : Int) = 0) := by omega
  have hz2 : ¬ ((i : Int) = (n : Int)) := by omega
  have hz3 : (c : Int) < (n : Int) + (m : Int) := by omega
  have hsz : (Tryz.prog.info? 93).map (·.size) = some 17 := by rw [hi0]; simp [hzs]
  have hkk : (n : Int) + (m : Int) - (i : Int) = ((n + m - i : Nat) : Int) := by omega
  have hik : i + (n + m - i) = n + m := by omega
  have hold : (Builtin.firstCells i0.size i (.slice (some ⟨b, off, none⟩) i c)).run Tryz.prog w.drew = .ok (cs.take (i * 17)).toArray w.drew := by
    rw [hzs]
    exact run_firstCells_some w.drew 17 i ⟨b, off, none⟩ i c (cs.take (i * 17)) (by rw [List.length_take]; omega) (fun j v hj => by
      rw [Addr.add_lit]
      rw [List.getElem?_take] at hj
      split at hj
      · exact hcs j v hj
      · cases hj)
  have hrz : ∀ ty, (Builtin.append_ #[35, 3] ty #[.slice (some ⟨b, off, none⟩) i c, .int .i64 ((n : Int) + (m : Int) - (i : Int))]).run Tryz.prog w =
      .ok (.slice (some ⟨w.heap.size, 0, none⟩) (n + m) (grownCap w (n + m) c 93)) (w.drew.alloc (.cells ((cs.take (i * 17)).toArray ++ Builtin.zeroCells (Value.agg #[.int .i64 0, .int .i64 0, .string ⟨#[]⟩, .string ⟨#[]⟩, .int .i64 0, .slice none 0 0, .int .i64 0, .int .i64 0, .int .i64 0, .int .i64 0, .int .i64 0, .int .i64 0, .slice none 0 0, .int .i64 0, .int .i64 0, .int .i64 0, .int .i64 0]).cells (n + m - i) ++ Builtin.zeroCells (Value.agg #[.int .i64 0, .int .i64 0, .string ⟨#[]⟩, .string ⟨#[]⟩, .int .i64 0, .slice none 0 0, .int .i64 0, .int .i64 0, .int .i64 0, .int .i64 0, .int .i64 0, .int .i64 0, .slice none 0 0, .int .i64 0, .int .i64 0, .int .i64 0, .int .i64 0]).cells (grownCap w (n + m) c 93 - (n + m))) 93)) := fun ty => by
    have h := Lib.run_append_grow_zeros w 35 3 ty 93 i0 _ .i64 .i64 t24 t3 hi0 hz0 (some ⟨b, off, none⟩) i c (cs.take (i * 17)) hold (n + m - i) (by omega) (by omega) (by omega) (by omega) (by rw [hzb]; omega) (by rw [hzb, hik]; exact growslice_fits hroom (by omega))
    rw [hik] at h
    rw [hkk]
    exact h
  obtain ⟨G, hG⟩ : ∃ G, G = grownCap w (n + m) c 93 := ⟨_, rfl⟩
  obtain ⟨ROW, hROW⟩ : ∃ ROW : Array Value, ROW = (cs.take (i * 17)).toArray ++ Builtin.zeroCells (Value.agg #[.int .i64 0, .int .i64 0, .string ⟨#[]⟩, .string ⟨#[]⟩, .int .i64 0, .slice none 0 0, .int .i64 0, .int .i64 0, .int .i64 0, .int .i64 0, .int .i64 0, .int .i64 0, .slice none 0 0, .int .i64 0, .int .i64 0, .int .i64 0, .int .i64 0]).cells (n + m - i) ++ Builtin.zeroCells (Value.agg #[.int .i64 0, .int .i64 0, .string ⟨#[]⟩, .string ⟨#[]⟩, .int .i64 0, .slice none 0 0, .int .i64 0, .int .i64 0, .int .i64 0, .int .i64 0, .int .i64 0, .int .i64 0, .slice none 0 0, .int .i64 0, .int .i64 0, .int .i64 0, .int .i64 0]).cells (G - (n + m)) := ⟨_, rfl⟩
  rw [← hG] at hrz
  rw [← hROW] at hrz
  have hGn : n + m ≤ G := by rw [hG]; exact grownCap_ge w _ _ _
  have hzc : ∀ k, (Builtin.zeroCells (Value.agg #[.int .i64 0, .int .i64 0, .string ⟨#[]⟩, .string ⟨#[]⟩, .int .i64 0, .slice none 0 0, .int .i64 0, .int .i64 0, .int .i64 0, .int .i64 0, .int .i64 0, .int .i64 0, .slice none 0 0, .int .i64 0, .int .i64 0, .int .i64 0, .int .i64 0]).cells k).size = k * 17 := fun k => by
    simp [Builtin.zeroCells, Value.cells]
  have hRs : ROW.size = G * 17 := by
    rw [hROW, Array.size_append, Array.size_append, hzc, hzc, List.size_toArray, List.length_take]
    omega
  have hRl : (n + m) * 17 ≤ ROW.size := by rw [hRs]; omega
  have hRt : ∀ j v, (cs.take (i * 17))[j]? = some v → ROW[j]? = some v := fun j v hj => by
    have hjl : j < (cs.take (i * 17)).length := by
      rcases Nat.lt_or_ge j (cs.take (i * 17)).length with h | h
      · exact h
      · rw [List.getElem?_eq_none h] at hj; simp at hj
    rw [hROW, Array.append_assoc, Array.getElem?_append_left (by simpa using hjl)]
    simpa using hj
  obtain ⟨W1, hW1⟩ : ∃ W1, W1 = w.drew.alloc (.cells ROW 93) := ⟨_, rfl⟩
  rw [← hW1] at hrz
  have hN : ∀ j, j < (n + m) * 17 → (W1.cell? ⟨w.heap.size, j, none⟩).isSome = true := fun j hj => by
    rw [hW1, World.cell?_alloc_at (w := w.drew) ROW _ w.heap.size j rfl, Array.getElem?_eq_getElem (by omega)]; rfl
  have hNf : ∀ j, W1.frozen? ⟨w.heap.size, j, none⟩ = false := fun j => by rw [hW1]; exact World.frozen?_alloc_at (w := w.drew) ROW _ w.heap.size j rfl
  have hOb : ∀ j v, w.cell? ⟨b, j, none⟩ = some v → W1.cell? ⟨b, j, none⟩ = some v := fun j v h => by rw [hW1, World.cell?_alloc_past (w := w.drew) _ b j hbw]; exact h
  have hOv : ∀ j v, w.cell? ⟨vb, j, none⟩ = some v → W1.cell? ⟨vb, j, none⟩ = some v := fun j v h => by rw [hW1, World.cell?_alloc_past (w := w.drew) _ vb j hvw]; exact h
  have hcpA : ∀ (W : World), (∀ x, W.cell? x = W1.cell? x) → (∀ x, W.frozen? x = W1.frozen? x) → ∀ ty dc, (Builtin.copy_ #[35, 35] ty #[.slice (some ⟨w.heap.size, i * 17, none⟩) (n + m - i) dc, .slice (some ⟨vb, voff, none⟩) m vc]).run Tryz.prog W = .ok (goInt (m : Nat)) (W.setCells w.heap.size (i * 17) vs) := fun W hWc hWf ty dc =>
    run_copy_k 17 W _ _ ty 93 w.heap.size (i * 17) (n + m - i) dc ⟨vb, voff, none⟩ m vc vs m t24 hsz (by simp only [Nat.min_def]; split <;> omega) hvl
      (fun j v hj => by rw [Addr.add_lit, hWc]; exact hOv _ v (hvs j v hj))
      (fun j hj => by rw [hWc]; exact hN _ (by omega)) (fun j hj => by rw [hWf]; exact hNf _) h1v
  have hG63 : G ≤ 9223372036854775807 := by
    have := grownCap_le_maxLen w (n + m) c 93 (by unfold maxLen; omega)
    rw [← hG] at this
    unfold maxLen at this
    omega
  have hGi : ¬ (G = i) := by omega
  have hGim : ¬ (G = i + m) := by omega
  have hci : ¬ (c = i) := by omega
  have hbN : b ≠ w.heap.size := by omega
  have hdl : (cs.drop (i * 17)).length = (n - i) * 17 := by rw [List.length_drop, hcl]; omega
  have hcpB : ∀ (W : World), (∀ x, W.cell? x = (W1.setCells w.heap.size (i * 17) vs).cell? x) → (∀ x, W.frozen? x = (W1.setCells w.heap.size (i * 17) vs).frozen? x) → ∀ ty dc sc, (Builtin.copy_ #[35, 35] ty #[.slice (some ⟨w.heap.size, (i + m) * 17, none⟩) (n + m - (i + m)) dc, .slice (some ⟨b, off + i * 17, none⟩) (n - i) sc]).run Tryz.prog W = .ok (goInt (n - i : Nat)) (W.setCells w.heap.size ((i + m) * 17) (cs.drop (i * 17))) := fun W hWc hWf ty dc sc =>
    run_copy_k 17 W _ _ ty 93 w.heap.size ((i + m) * 17) (n + m - (i + m)) dc ⟨b, off + i * 17, none⟩ (n - i) sc (cs.drop (i * 17)) (n - i) t24 hsz (by simp only [Nat.min_def]; split <;> omega) hdl
      (fun j v hj => by
        rw [Addr.add_lit, hWc, World.cell?_setCells_out _ _ _ _ _ (fun h _ => absurd h hbN), Nat.add_assoc]
        exact hOb _ v (hcs (i * 17 + j) v (by rwa [List.getElem?_drop] at hj)))
      (fun j hj => by rw [hWc]; exact isSome_setK _ _ _ _ (fun t ht => hN _ (by omega)) _ (hN _ (by omega)))
      (fun j hj => by rw [hWf, World.frozen?_setCells]; exact hNf _) (fun v hv => h1c v (List.mem_of_mem_drop hv))
  subst hW1
  have hE1 : ∀ x, ((w.alloc (.cells ROW 93)).drew).cell? x = (w.drew.alloc (.cells ROW 93)).cell? x := fun x => rfl
  have hE2 : ∀ x, ((w.alloc (.cells ROW 93)).drew).frozen? x = (w.drew.alloc (.cells ROW 93)).frozen? x := fun x => rfl
  have hF1 : ∀ x, (((w.alloc (.cells ROW 93)).drew.setCells w.heap.size (i * 17) vs).drew).cell? x = ((w.drew.alloc (.cells ROW 93)).setCells w.heap.size (i * 17) vs).cell? x := fun x => rfl
  have hF2 : ∀ x, (((w.alloc (.cells ROW 93)).drew.setCells w.heap.size (i * 17) vs).drew).frozen? x = ((w.drew.alloc (.cells ROW 93)).setCells w.heap.size (i * 17) vs).frozen? x := fun x => rfl
  have hw1 : IntKind.i64.wrap ((i : Int) + (m : Int)) = (i : Int) + (m : Int) := by rw [IntKind.wrap_i64]; omega
  have hb1 : (0 : Int) ≤ (i : Int) + (m : Int) := by omega
  have hin : i ≤ n := by omega
  have htn : ((i : Int) + (m : Int)).toNat = i + m := by omega
  have hb3 : (i : Int) ≤ (n : Int) := by omega
  clear hkk hik hold hROW hG
  go_enter Tryz.func284, Tryz.ntmps284
  go_wp2_with (first
    | (at_builtin; refine Lib.wpList_append_run _ rfl _ _ _ _ rfl _ _ rfl rfl _ _ (hrz _) ?_)
    | (at_builtin; refine wpList_copy_k _ rfl _ _ 35 35 rfl _ _ rfl rfl (hcpA _ hE1 hE2 _ _) ?_)
    | (at_builtin; refine wpList_copy_k _ rfl _ _ 35 35 rfl _ _ rfl rfl (hcpB _ (fun _ => rfl) (fun _ => rfl) _ _ _) ?_))
  go_region_law_o (refine step_copy_k rfl _ _ 35 35 rfl (.slice (some ⟨w.heap.size, (i + m) * 17, none⟩) (n + m - (i + m)) (G - (i + m))) (.slice (some ⟨b, off + i * 17, none⟩) (n - i) (c - i)) (by simp [Act.eval, Act.put]) (by simp [Act.eval, Act.put]) (hcpB _ hF1 hF2 3 (G - (i + m)) (c - i)) ?_)
  go_wp2
  go_ret
  exact ⟨G, ROW, w.drew.drew.drawn, hGn, hRl, hRs, hRt, rfl, by first | rfl | (rw [drew_setK]; rfl) | (simp only [drew_setK]; rfl)⟩
theorem insC284 : InsC Tryz.prog 284 17 35 93 where
  ent := ⟨Tryz.f284, Tryz.func284, by kernel_rfl, by kernel_rfl⟩
  hS := Tryz.underlying35
  hz := by kernel_rfl
  pos := by decide
  info := ⟨_, (Value.agg #[.int .i64 0, .int .i64 0, .string ⟨#[]⟩, .string ⟨#[]⟩, .int .i64 0, .slice none 0 0, .int .i64 0, .int .i64 0, .int .i64 0, .int .i64 0, .int .i64 0, .int .i64 0, .slice none 0 0, .int .i64 0, .int .i64 0, .int .i64 0, .int .i64 0]), rfl, by decide, rfl, rfl⟩
  nothing := fun base n c i vc vb w h1 h2 h3 => ins284_none base n c i vc vb w h1 h2 h3
  end_ := fun base n c m vc vb w w' q h1 h2 h3 h4 h5 => ins284_end base n c m vc vb w w' q h1 h2 h3 h4 h5
  shift := fun b off n c i vb voff m vc cs vs w h1 h2 h3 h4 h5 h6 h7 h8 h9 h10 h11 h12 h13 tA tB kA kB h14 h15 h16 => ins284_shift b off n c i vb voff m vc cs vs w h1 h2 h3 h4 h5 h6 h7 h8 h9 h10 h11 h12 h13 tA tB kA kB h14 h15 h16
  grow := fun b off n c i vb voff m vc cs vs w h1 h2 h3 h4 h5 h6 h7 h8 h9 h10 h11 h12 h13 => ins284_grow b off n c i vb voff m vc cs vs w h1 h2 h3 h4 h5 h6 h7 h8 h9 h10 h11 h12 h13
set_option maxHeartbeats 4000000 in
set_option maxRecDepth 100000 in
theorem ins300_shift (b off n c i vb voff m vc : Nat) (cs vs : List Value) (w : World) (hi : i < n) (hm : 0 < m) (hroom : n + m ≤ c) (hlim : n + m ≤ 1073741824) (hvb : vb ≠ b)
    (hcl : cs.length = n * 2) (hvl : vs.length = m * 2)
    (hcs : ∀ j v, cs[j]? = some v → w.cell? ⟨b, off + j, none⟩ = some v) (hsp : ∀ j, j < (n + m) * 2 → (w.cell? ⟨b, off + j, none⟩).isSome = true) (hfz : ∀ j, w.frozen? ⟨b, j, none⟩ = false)
    (hvs : ∀ j v, vs[j]? = some v → w.cell? ⟨vb, voff + j, none⟩ = some v) (h1c : ∀ v ∈ cs, v.oneCell' = true) (h1v : ∀ v ∈ vs, v.oneCell' = true)
    (tA tB : TypeId) (kA kB : Nat) (hsa : w.shape? vb = some (tA, kA)) (hsb : w.shape? b = some (tB, kB)) (hkA : kA ≠ 0) :
    Calls Tryz.prog 300 #[.slice (some ⟨b, off, none⟩) n c, .int .i64 i, .slice (some ⟨vb, voff, none⟩) m vc] w fun e w' =>
      e = .returned (.slice (some ⟨b, off, none⟩) (n + m) c) ∧ w' = (w.drew.setCells b (off + (i + m) * 2) (cs.drop (i * 2))).setCells b (off + i * 2) vs := by
  have t0 := Tryz.underlying0; have t3 := Tryz.underlying3; have t4 := Tryz.underlying4; have t9 := Tryz.underlying96; have t24 := Tryz.underlying90
  have a0 := Tryz.isAgg0; have a3 := Tryz.isAgg3; have a4 := Tryz.isAgg4; have a9 := Tryz.isAgg96; have a24 := Tryz.isAgg90
  have z0 := Tryz.sizeOf0; have z3 := Tryz.sizeOf3; have z4 := Tryz.sizeOf4; have z9 := Tryz.sizeOf96; have z24 := Tryz.sizeOf90
  have v0 := Tryz.zeroValue0; have v3 := Tryz.zeroValue3; have v4 := Tryz.zeroValue4; have v24 := Tryz.zeroValue90
  have u0 := run_underlying t0; have u3 := run_underlying t3; have u4 := run_underlying t4; have u24 := run_underlying t24
  have hz1 : ¬ ((m : Int) = 0) := by omega
  have hz2 : ¬ ((i : Int) = (n : Int)) := by omega
  have hsz : (Tryz.prog.info? 96).map (·.size) = some 2 := by kernel_rfl
  have hov : ∀ lb cb, (callFunc 316 #[.slice (some ⟨vb, voff, none⟩) m vc, .slice (some ⟨b, off + (i + m) * 2, none⟩) lb cb]).run Tryz.prog w = .ok (.value (.bool false)) w := fun lb cb => by
    rw [run_callFunc_extern Tryz.func316 (by kernel_rfl) (by kernel_rfl) (by kernel_rfl) (e := Extern.SlicesOverlaps.overlaps #[90, 90] #[4]) (by kernel_rfl),
      run_overlaps_k w 90 4 96 t24 2 z9 ⟨vb, voff, none⟩ ⟨b, off + (i + m) * 2, none⟩ m vc lb cb hvb tA tB kA kB hsa hsb hkA (hfz _) (hfz _)]
    rfl
  have hdl : (cs.drop (i * 2)).length = (n - i) * 2 := by rw [List.length_drop, hcl]; omega
  have mixed : Tryz.prog.follows .mixedOrders = true := by kernel_rfl
  have hw1 : IntKind.i64.wrap ((i : Int) + (m : Int)) = (i : Int) + (m : Int) := by rw [IntKind.wrap_i64]; omega
  have hb1 : (0 : Int) ≤ (i : Int) + (m : Int) := by omega
  have hin : i ≤ n := by omega
  have htn : ((i : Int) + (m : Int)).toNat = i + m := by omega
  have hb2 : ¬ (c = i + m) := by omega
  have hb3 : (i : Int) ≤ (n : Int) + (m : Int) := by omega
  have hb4 : ¬ (c = i) := by omega
  have hcp1 : ∀ ty dc sc, (Builtin.copy_ #[90, 90] ty #[.slice (some ⟨b, off + (i + m) * 2, none⟩) (n + m - (i + m)) dc, .slice (some ⟨b, off + i * 2, none⟩) (n + m - i) sc]).run Tryz.prog w.drew = .ok (goInt (n - i : Nat)) (w.drew.setCells b (off + (i + m) * 2) (cs.drop (i * 2))) := fun ty dc sc =>
    run_copy_k 2 w.drew _ _ ty 96 b (off + (i + m) * 2) (n + m - (i + m)) dc ⟨b, off + i * 2, none⟩ (n + m - i) sc (cs.drop (i * 2)) (n - i) t24 hsz (by simp only [Nat.min_def]; split <;> omega) (by rw [hdl])
      (fun j v hj => by rw [Addr.add_lit, Nat.add_assoc]; exact hcs (i * 2 + j) v (by rwa [List.getElem?_drop] at hj))
      (fun j hj => by rw [Nat.add_assoc]; exact hsp _ (by omega)) (fun j hj => hfz _) (fun v hv => h1c v (List.mem_of_mem_drop hv))
  obtain ⟨W1, hW1⟩ : ∃ W1, W1 = w.drew.setCells b (off + (i + m) * 2) (cs.drop (i * 2)) := ⟨_, rfl⟩
  have hsp1 : ∀ k, k < (n + m) * 2 → (W1.cell? ⟨b, off + k, none⟩).isSome = true := fun k hk => by
    rw [hW1]
    exact isSome_setK b _ _ _ (fun j hj => by rw [Nat.add_assoc]; exact hsp _ (by omega)) _ (hsp k hk)
  have hcp2 : ∀ (W : World), (∀ x, W.cell? x = W1.cell? x) → (∀ x, W.frozen? x = W1.frozen? x) → ∀ ty dc, (Builtin.copy_ #[90, 90] ty #[.slice (some ⟨b, off + i * 2, none⟩) (n + m - i) dc, .slice (some ⟨vb, voff, none⟩) m vc]).run Tryz.prog W = .ok (goInt (m : Nat)) (W.setCells b (off + i * 2) vs) := fun W hWc hWf ty dc =>
    run_copy_k 2 W _ _ ty 96 b (off + i * 2) (n + m - i) dc ⟨vb, voff, none⟩ m vc vs m t24 hsz (by simp only [Nat.min_def]; split <;> omega) hvl
      (fun j v hj => by
        rw [Addr.add_lit, hWc, hW1, World.cell?_setCells_out b _ _ _ _ (fun h _ => absurd h hvb)]
        exact hvs j v hj)
      (fun j hj => by rw [hWc, Nat.add_assoc]; exact hsp1 _ (by omega)) (fun j hj => by rw [hWf, hW1, World.frozen?_setCells]; exact hfz _) h1v
  rw [← hW1] at hcp1
  go_enter Tryz.func300, Tryz.ntmps300
  go_wp2_with (simp only [hov])
  go_region_law_o (refine step_copy_k rfl _ _ 90 90 rfl _ _ (by simp [Act.eval, Act.put]) (by simp [Act.eval, Act.put]) (hcp1 _ _ _) ?_)
  go_wp2_with (at_builtin; refine wpList_copy_k _ rfl _ _ 90 90 rfl _ _ rfl rfl (hcp2 _ (fun _ => rfl) (fun _ => rfl) _ _) ?_)
  go_ret
  first | exact ⟨rfl, rfl⟩ | exact ⟨rfl, by rw [hW1]⟩
set_option maxHeartbeats 4000000 in
set_option maxRecDepth 100000 in
theorem ins300_end (base : Option Addr) (n c m vc : Nat) (vb : Option Addr) (w w' : World) (q : Value) (hm : 0 < m) (hnc : n ≤ c) (hlim : n + m ≤ 1073741824) (hnil : base = none → n = 0)
    (hrun : (Builtin.append_ #[90, 90] 90 #[.slice base n c, .slice vb m vc]).run Tryz.prog w = .ok q w') :
    Calls Tryz.prog 300 #[.slice base n c, .int .i64 n, .slice vb m vc] w fun e w1 => e = .returned q ∧ w1 = w' := by
  have t0 := Tryz.underlying0; have t3 := Tryz.underlying3; have t4 := Tryz.underlying4; have t9 := Tryz.underlying96; have t24 := Tryz.underlying90
  have a0 := Tryz.isAgg0; have a3 := Tryz.isAgg3; have a4 := Tryz.isAgg4; have a9 := Tryz.isAgg96; have a24 := Tryz.isAgg90
  have z0 := Tryz.sizeOf0; have z3 := Tryz.sizeOf3; have z4 := Tryz.sizeOf4; have z9 := Tryz.sizeOf96; have z24 := Tryz.sizeOf90
  have v0 := Tryz.zeroValue0; have v3 := Tryz.zeroValue3; have v4 := Tryz.zeroValue4; have v24 := Tryz.zeroValue90
  have u0 := run_underlying t0; have u3 := run_underlying t3; have u4 := run_underlying t4; have u24 := run_underlying t24
  have mixed : Tryz.prog.follows .mixedOrders = true := by kernel_rfl
  have hz1 : ¬ ((m : Int) = 0) := by omega
  go_enter Tryz.func300, Tryz.ntmps300
  cases base with
  | none =>
    have h0 := hnil rfl
    subst h0
    go_wp2_with (at_builtin; refine Lib.wpList_append_run _ rfl _ _ _ _ rfl _ _ rfl rfl _ _ hrun ?_)
    all_goals (go_ret; exact ⟨rfl, rfl⟩)
  | some a =>
    obtain ⟨ab, ao, asp⟩ := a
    go_wp2_with (at_builtin; refine Lib.wpList_append_run _ rfl _ _ _ _ rfl _ _ rfl rfl _ _ hrun ?_)
    all_goals (go_ret; exact ⟨rfl, rfl⟩)
set_option maxHeartbeats 4000000 in
set_option maxRecDepth 100000 in
theorem ins300_none (base : Option Addr) (n c i vc : Nat) (vb : Option Addr) (w : World) (hnc : n ≤ c) (hi : i ≤ n) (hnil : base = none → n = 0) :
    Calls Tryz.prog 300 #[.slice base n c, .int .i64 i, .slice vb 0 vc] w fun e w1 => e = .returned (.slice base n c) ∧ w1 = w := by
  have t0 := Tryz.underlying0; have t3 := Tryz.underlying3; have t4 := Tryz.underlying4; have t9 := Tryz.underlying96; have t24 := Tryz.underlying90
  have a0 := Tryz.isAgg0; have a3 := Tryz.isAgg3; have a4 := Tryz.isAgg4; have a9 := Tryz.isAgg96; have a24 := Tryz.isAgg90
  have z0 := Tryz.sizeOf0; have z3 := Tryz.sizeOf3; have z4 := Tryz.sizeOf4; have z9 := Tryz.sizeOf96; have z24 := Tryz.sizeOf90
  have v0 := Tryz.zeroValue0; have v3 := Tryz.zeroValue3; have v4 := Tryz.zeroValue4; have v24 := Tryz.zeroValue90
  have u0 := run_underlying t0; have u3 := run_underlying t3; have u4 := run_underlying t4; have u24 := run_underlying t24
  have mixed : Tryz.prog.follows .mixedOrders = true := by kernel_rfl
  go_enter Tryz.func300, Tryz.ntmps300
  cases base with
  | none =>
    have h0 := hnil rfl
    subst h0
    have hi0 : i = 0 := by omega
    subst hi0
    go_wp2
    all_goals (go_ret; exact ⟨rfl, rfl⟩)
  | some a =>
    obtain ⟨ab, ao, asp⟩ := a
    go_wp2
    all_goals (go_ret; exact ⟨rfl, rfl⟩)
set_option maxHeartbeats 4000000 in
set_option maxRecDepth 100000 in
theorem ins300_grow (b off n c i vb voff m vc : Nat) (cs vs : List Value) (w : World) (hi : i < n) (hm : 0 < m) (hnc : n ≤ c) (hroom : c < n + m) (hlim : n + m ≤ 1073741824)
    (hcl : cs.length = n * 2) (hvl : vs.length = m * 2) (hbw : b < w.heap.size) (hvw : vb < w.heap.size)
    (hcs : ∀ j v, cs[j]? = some v → w.cell? ⟨b, off + j, none⟩ = some v)
    (hvs : ∀ j v, vs[j]? = some v → w.cell? ⟨vb, voff + j, none⟩ = some v) (h1c : ∀ v ∈ cs, v.oneCell' = true) (h1v : ∀ v ∈ vs, v.oneCell' = true) :
    Calls Tryz.prog 300 #[.slice (some ⟨b, off, none⟩) n c, .int .i64 i, .slice (some ⟨vb, voff, none⟩) m vc] w fun e w' =>
      ∃ (G : Nat) (ROW : Array Value) (d1 : Nat), n + m ≤ G ∧ (n + m) * 2 ≤ ROW.size ∧ ROW.size = G * 2 ∧ (∀ (j : Nat) (v : Value), (cs.take (i * 2))[j]? = some v → ROW[j]? = some v) ∧ e = .returned (.slice (some ⟨w.heap.size, 0, none⟩) (n + m) G) ∧
      w' = ((({ w with drawn := d1 } : World).alloc (.cells ROW 96)).setCells w.heap.size (i * 2) vs).setCells w.heap.size ((i + m) * 2) (cs.drop (i * 2)) := by
  have t0 := Tryz.underlying0; have t3 := Tryz.underlying3; have t4 := Tryz.underlying4; have t9 := Tryz.underlying96; have t24 := Tryz.underlying90
  have a0 := Tryz.isAgg0; have a3 := Tryz.isAgg3; have a4 := Tryz.isAgg4; have a9 := Tryz.isAgg96; have a24 := Tryz.isAgg90
  have z0 := Tryz.sizeOf0; have z3 := Tryz.sizeOf3; have z4 := Tryz.sizeOf4; have z9 := Tryz.sizeOf96; have z24 := Tryz.sizeOf90
  have v0 := Tryz.zeroValue0; have v3 := Tryz.zeroValue3; have v4 := Tryz.zeroValue4; have v24 := Tryz.zeroValue90
  have u0 := run_underlying t0; have u3 := run_underlying t3; have u4 := run_underlying t4; have u24 := run_underlying t24
  have mixed : Tryz.prog.follows .mixedOrders = true := by kernel_rfl
  obtain ⟨i0, hi0, hz0, hzs, hzb⟩ : ∃ i0, Tryz.prog.info? 96 = some i0 ∧ i0.zero = some (Value.agg #[.string ⟨#[]⟩, .slice none 0 0]) ∧ i0.size = 2 ∧ i0.bytes = 40 := ⟨_, rfl, rfl, rfl, rfl⟩
  have hz1 : ¬ ((m : Int) = 0) := by omega
  have hz2 : ¬ ((i : Int) = (n : Int)) := by omega
  have hz3 : (c : Int) < (n : Int) + (m : Int) := by omega
  have hsz : (Tryz.prog.info? 96).map (·.size) = some 2 := by rw [hi0]; simp [hzs]
  have hkk : (n : Int) + (m : Int) - (i : Int) = ((n + m - i : Nat) : Int) := by omega
  have hik : i + (n + m - i) = n + m := by omega
  have hold : (Builtin.firstCells i0.size i (.slice (some ⟨b, off, none⟩) i c)).run Tryz.prog w.drew = .ok (cs.take (i * 2)).toArray w.drew := by
    rw [hzs]
    exact run_firstCells_some w.drew 2 i ⟨b, off, none⟩ i c (cs.take (i * 2)) (by rw [List.length_take]; omega) (fun j v hj => by
      rw [Addr.add_lit]
      rw [List.getElem?_take] at hj
      split at hj
      · exact hcs j v hj
      · cases hj)
  have hrz : ∀ ty, (Builtin.append_ #[90, 3] ty #[.slice (some ⟨b, off, none⟩) i c, .int .i64 ((n : Int) + (m : Int) - (i : Int))]).run Tryz.prog w =
      .ok (.slice (some ⟨w.heap.size, 0, none⟩) (n + m) (grownCap w (n + m) c 96)) (w.drew.alloc (.cells ((cs.take (i * 2)).toArray ++ Builtin.zeroCells (Value.agg #[.string ⟨#[]⟩, .slice none 0 0]).cells (n + m - i) ++ Builtin.zeroCells (Value.agg #[.string ⟨#[]⟩, .slice none 0 0]).cells (grownCap w (n + m) c 96 - (n + m))) 96)) := fun ty => by
    have h := Lib.run_append_grow_zeros w 90 3 ty 96 i0 _ .i64 .i64 t24 t3 hi0 hz0 (some ⟨b, off, none⟩) i c (cs.take (i * 2)) hold (n + m - i) (by omega) (by omega) (by omega) (by omega) (by rw [hzb]; omega) (by rw [hzb, hik]; exact growslice_fits hroom (by omega))
    rw [hik] at h
    rw [hkk]
    exact h
  obtain ⟨G, hG⟩ : ∃ G, G = grownCap w (n + m) c 96 := ⟨_, rfl⟩
  obtain ⟨ROW, hROW⟩ : ∃ ROW : Array Value, ROW = (cs.take (i * 2)).toArray ++ Builtin.zeroCells (Value.agg #[.string ⟨#[]⟩, .slice none 0 0]).cells (n + m - i) ++ Builtin.zeroCells (Value.agg #[.string ⟨#[]⟩, .slice none 0 0]).cells (G - (n + m)) := ⟨_, rfl⟩
  rw [← hG] at hrz
  rw [← hROW] at hrz
  have hGn : n + m ≤ G := by rw [hG]; exact grownCap_ge w _ _ _
  have hzc : ∀ k, (Builtin.zeroCells (Value.agg #[.string ⟨#[]⟩, .slice none 0 0]).cells k).size = k * 2 := fun k => by
    simp [Builtin.zeroCells, Value.cells]
  have hRs : ROW.size = G * 2 := by
    rw [hROW, Array.size_append, Array.size_append, hzc, hzc, List.size_toArray, List.length_take]
    omega
  have hRl : (n + m) * 2 ≤ ROW.size := by rw [hRs]; omega
  have hRt : ∀ j v, (cs.take (i * 2))[j]? = some v → ROW[j]? = some v := fun j v hj => by
    have hjl : j < (cs.take (i * 2)).length := by
      rcases Nat.lt_or_ge j (cs.take (i * 2)).length with h | h
      · exact h
      · rw [List.getElem?_eq_none h] at hj; simp at hj
    rw [hROW, Array.append_assoc, Array.getElem?_append_left (by simpa using hjl)]
    simpa using hj
  obtain ⟨W1, hW1⟩ : ∃ W1, W1 = w.drew.alloc (.cells ROW 96) := ⟨_, rfl⟩
  rw [← hW1] at hrz
  have hN : ∀ j, j < (n + m) * 2 → (W1.cell? ⟨w.heap.size, j, none⟩).isSome = true := fun j hj => by
    rw [hW1, World.cell?_alloc_at (w := w.drew) ROW _ w.heap.size j rfl, Array.getElem?_eq_getElem (by omega)]; rfl
  have hNf : ∀ j, W1.frozen? ⟨w.heap.size, j, none⟩ = false := fun j => by rw [hW1]; exact World.frozen?_alloc_at (w := w.drew) ROW _ w.heap.size j rfl
  have hOb : ∀ j v, w.cell? ⟨b, j, none⟩ = some v → W1.cell? ⟨b, j, none⟩ = some v := fun j v h => by rw [hW1, World.cell?_alloc_past (w := w.drew) _ b j hbw]; exact h
  have hOv : ∀ j v, w.cell? ⟨vb, j, none⟩ = some v → W1.cell? ⟨vb, j, none⟩ = some v := fun j v h => by rw [hW1, World.cell?_alloc_past (w := w.drew) _ vb j hvw]; exact h
  have hcpA : ∀ (W : World), (∀ x, W.cell? x = W1.cell? x) → (∀ x, W.frozen? x = W1.frozen? x) → ∀ ty dc, (Builtin.copy_ #[90, 90] ty #[.slice (some ⟨w.heap.size, i * 2, none⟩) (n + m - i) dc, .slice (some ⟨vb, voff, none⟩) m vc]).run Tryz.prog W = .ok (goInt (m : Nat)) (W.setCells w.heap.size (i * 2) vs) := fun W hWc hWf ty dc =>
    run_copy_k 2 W _ _ ty 96 w.heap.size (i * 2) (n + m - i) dc ⟨vb, voff, none⟩ m vc vs m t24 hsz (by simp only [Nat.min_def]; split <;> omega) hvl
      (fun j v hj => by rw [Addr.add_lit, hWc]; exact hOv _ v (hvs j v hj))
      (fun j hj => by rw [hWc]; exact hN _ (by omega)) (fun j hj => by rw [hWf]; exact hNf _) h1v
  have hG63 : G ≤ 9223372036854775807 := by
    have := grownCap_le_maxLen w (n + m) c 96 (by unfold maxLen; omega)
    rw [← hG] at this
    unfold maxLen at this
    omega
  have hGi : ¬ (G = i) := by omega
  have hGim : ¬ (G = i + m) := by omega
  have hci : ¬ (c = i) := by omega
  have hbN : b ≠ w.heap.size := by omega
  have hdl : (cs.drop (i * 2)).length = (n - i) * 2 := by rw [List.length_drop, hcl]; omega
  have hcpB : ∀ (W : World), (∀ x, W.cell? x = (W1.setCells w.heap.size (i * 2) vs).cell? x) → (∀ x, W.frozen? x = (W1.setCells w.heap.size (i * 2) vs).frozen? x) → ∀ ty dc sc, (Builtin.copy_ #[90, 90] ty #[.slice (some ⟨w.heap.size, (i + m) * 2, none⟩) (n + m - (i + m)) dc, .slice (some ⟨b, off + i * 2, none⟩) (n - i) sc]).run Tryz.prog W = .ok (goInt (n - i : Nat)) (W.setCells w.heap.size ((i + m) * 2) (cs.drop (i * 2))) := fun W hWc hWf ty dc sc =>
    run_copy_k 2 W _ _ ty 96 w.heap.size ((i + m) * 2) (n + m - (i + m)) dc ⟨b, off + i * 2, none⟩ (n - i) sc (cs.drop (i * 2)) (n - i) t24 hsz (by simp only [Nat.min_def]; split <;> omega) hdl
      (fun j v hj => by
        rw [Addr.add_lit, hWc, World.cell?_setCells_out _ _ _ _ _ (fun h _ => absurd h hbN), Nat.add_assoc]
        exact hOb _ v (hcs (i * 2 + j) v (by rwa [List.getElem?_drop] at hj)))
      (fun j hj => by rw [hWc]; exact isSome_setK _ _ _ _ (fun t ht => hN _ (by omega)) _ (hN _ (by omega)))
      (fun j hj => by rw [hWf, World.frozen?_setCells]; exact hNf _) (fun v hv => h1c v (List.mem_of_mem_drop hv))
  subst hW1
  have hE1 : ∀ x, ((w.alloc (.cells ROW 96)).drew).cell? x = (w.drew.alloc (.cells ROW 96)).cell? x := fun x => rfl
  have hE2 : ∀ x, ((w.alloc (.cells ROW 96)).drew).frozen? x = (w.drew.alloc (.cells ROW 96)).frozen? x := fun x => rfl
  have hF1 : ∀ x, (((w.alloc (.cells ROW 96)).drew.setCells w.heap.size (i * 2) vs).drew).cell? x = ((w.drew.alloc (.cells ROW 96)).setCells w.heap.size (i * 2) vs).cell? x := fun x => rfl
  have hF2 : ∀ x, (((w.alloc (.cells ROW 96)).drew.setCells w.heap.size (i * 2) vs).drew).frozen? x = ((w.drew.alloc (.cells ROW 96)).setCells w.heap.size (i * 2) vs).frozen? x := fun x => rfl
  have hw1 : IntKind.i64.wrap ((i : Int) + (m : Int)) = (i : Int) + (m : Int) := by rw [IntKind.wrap_i64]; omega
  have hb1 : (0 : Int) ≤ (i : Int) + (m : Int) := by omega
  have hin : i ≤ n := by omega
  have htn : ((i : Int) + (m : Int)).toNat = i + m := by omega
  have hb3 : (i : Int) ≤ (n : Int) := by omega
  clear hkk hik hold hROW hG
  go_enter Tryz.func300, Tryz.ntmps300
  go_wp2_with (first
    | (at_builtin; refine Lib.wpList_append_run _ rfl _ _ _ _ rfl _ _ rfl rfl _ _ (hrz _) ?_)
    | (at_builtin; refine wpList_copy_k _ rfl _ _ 90 90 rfl _ _ rfl rfl (hcpA _ hE1 hE2 _ _) ?_)
    | (at_builtin; refine wpList_copy_k _ rfl _ _ 90 90 rfl _ _ rfl rfl (hcpB _ (fun _ => rfl) (fun _ => rfl) _ _ _) ?_))
  go_region_law_o (refine step_copy_k rfl _ _ 90 90 rfl (.slice (some ⟨w.heap.size, (i + m) * 2, none⟩) (n + m - (i + m)) (G - (i + m))) (.slice (some ⟨b, off + i * 2, none⟩) (n - i) (c - i)) (by simp [Act.eval, Act.put]) (by simp [Act.eval, Act.put]) (hcpB _ hF1 hF2 3 (G - (i + m)) (c - i)) ?_)
  go_wp2
  go_ret
  exact ⟨G, ROW, w.drew.drew.drawn, hGn, hRl, hRs, hRt, rfl, by first | rfl | (rw [drew_setK]; rfl) | (simp only [drew_setK]; rfl)⟩
theorem insC300 : InsC Tryz.prog 300 2 90 96 where
  ent := ⟨Tryz.f300, Tryz.func300, by kernel_rfl, by kernel_rfl⟩
  hS := Tryz.underlying90
  hz := by kernel_rfl
  pos := by decide
  info := ⟨_, (Value.agg #[.string ⟨#[]⟩, .slice none 0 0]), rfl, by decide, rfl, rfl⟩
  nothing := fun base n c i vc vb w h1 h2 h3 => ins300_none base n c i vc vb w h1 h2 h3
  end_ := fun base n c m vc vb w w' q h1 h2 h3 h4 h5 => ins300_end base n c m vc vb w w' q h1 h2 h3 h4 h5
  shift := fun b off n c i vb voff m vc cs vs w h1 h2 h3 h4 h5 h6 h7 h8 h9 h10 h11 h12 h13 tA tB kA kB h14 h15 h16 => ins300_shift b off n c i vb voff m vc cs vs w h1 h2 h3 h4 h5 h6 h7 h8 h9 h10 h11 h12 h13 tA tB kA kB h14 h15 h16
  grow := fun b off n c i vb voff m vc cs vs w h1 h2 h3 h4 h5 h6 h7 h8 h9 h10 h11 h12 h13 => ins300_grow b off n c i vb voff m vc cs vs w h1 h2 h3 h4 h5 h6 h7 h8 h9 h10 h11 h12 h13
set_option maxHeartbeats 4000000 in
set_option maxRecDepth 100000 in
theorem ins302_shift (b off n c i vb voff m vc : Nat) (cs vs : List Value) (w : World) (hi : i < n) (hm : 0 < m) (hroom : n + m ≤ c) (hlim : n + m ≤ 1073741824) (hvb : vb ≠ b)
    (hcl : cs.length = n * 11) (hvl : vs.length = m * 11)
    (hcs : ∀ j v, cs[j]? = some v → w.cell? ⟨b, off + j, none⟩ = some v) (hsp : ∀ j, j < (n + m) * 11 → (w.cell? ⟨b, off + j, none⟩).isSome = true) (hfz : ∀ j, w.frozen? ⟨b, j, none⟩ = false)
    (hvs : ∀ j v, vs[j]? = some v → w.cell? ⟨vb, voff + j, none⟩ = some v) (h1c : ∀ v ∈ cs, v.oneCell' = true) (h1v : ∀ v ∈ vs, v.oneCell' = true)
    (tA tB : TypeId) (kA kB : Nat) (hsa : w.shape? vb = some (tA, kA)) (hsb : w.shape? b = some (tB, kB)) (hkA : kA ≠ 0) :
    Calls Tryz.prog 302 #[.slice (some ⟨b, off, none⟩) n c, .int .i64 i, .slice (some ⟨vb, voff, none⟩) m vc] w fun e w' =>
      e = .returned (.slice (some ⟨b, off, none⟩) (n + m) c) ∧ w' = (w.drew.setCells b (off + (i + m) * 11) (cs.drop (i * 11))).setCells b (off + i * 11) vs := by
  have t0 := Tryz.underlying0; have t3 := Tryz.underlying3; have t4 := Tryz.underlying4; have t9 := Tryz.underlying186; have t24 := Tryz.underlying91
  have a0 := Tryz.isAgg0; have a3 := Tryz.isAgg3; have a4 := Tryz.isAgg4; have a9 := Tryz.isAgg186; have a24 := Tryz.isAgg91
  have z0 := Tryz.sizeOf0; have z3 := Tryz.sizeOf3; have z4 := Tryz.sizeOf4; have z9 := Tryz.sizeOf186; have z24 := Tryz.sizeOf91
  have v0 := Tryz.zeroValue0; have v3 := Tryz.zeroValue3; have v4 := Tryz.zeroValue4; have v24 := Tryz.zeroValue91
  have u0 := run_underlying t0; have u3 := run_underlying t3; have u4 := run_underlying t4; have u24 := run_underlying t24
  have hz1 : ¬ ((m : Int) = 0) := by omega
  have hz2 : ¬ ((i : Int) = (n : Int)) := by omega
  have hsz : (Tryz.prog.info? 186).map (·.size) = some 11 := by kernel_rfl
  have hov : ∀ lb cb, (callFunc 318 #[.slice (some ⟨vb, voff, none⟩) m vc, .slice (some ⟨b, off + (i + m) * 11, none⟩) lb cb]).run Tryz.prog w = .ok (.value (.bool false)) w := fun lb cb => by
    rw [run_callFunc_extern Tryz.func318 (by kernel_rfl) (by kernel_rfl) (by kernel_rfl) (e := Extern.SlicesOverlaps.overlaps #[91, 91] #[4]) (by kernel_rfl),
      run_overlaps_k w 91 4 186 t24 11 z9 ⟨vb, voff, none⟩ ⟨b, off + (i + m) * 11, none⟩ m vc lb cb hvb tA tB kA kB hsa hsb hkA (hfz _) (hfz _)]
    rfl
  have hdl : (cs.drop (i * 11)).length = (n - i) * 11 := by rw [List.length_drop, hcl]; omega
  have mixed : Tryz.prog.follows .mixedOrders = true := by kernel_rfl
  have hw1 : IntKind.i64.wrap ((i : Int) + (m : Int)) = (i : Int) + (m : Int) := by rw [IntKind.wrap_i64]; omega
  have hb1 : (0 : Int) ≤ (i : Int) + (m : Int) := by omega
  have hin : i ≤ n := by omega
  have htn : ((i : Int) + (m : Int)).toNat = i + m := by omega
  have hb2 : ¬ (c = i + m) := by omega
  have hb3 : (i : Int) ≤ (n : Int) + (m : Int) := by omega
  have hb4 : ¬ (c = i) := by omega
  have hcp1 : ∀ ty dc sc, (Builtin.copy_ #[91, 91] ty #[.slice (some ⟨b, off + (i + m) * 11, none⟩) (n + m - (i + m)) dc, .slice (some ⟨b, off + i * 11, none⟩) (n + m - i) sc]).run Tryz.prog w.drew = .ok (goInt (n - i : Nat)) (w.drew.setCells b (off + (i + m) * 11) (cs.drop (i * 11))) := fun ty dc sc =>
    run_copy_k 11 w.drew _ _ ty 186 b (off + (i + m) * 11) (n + m - (i + m)) dc ⟨b, off + i * 11, none⟩ (n + m - i) sc (cs.drop (i * 11)) (n - i) t24 hsz (by simp only [Nat.min_def]; split <;> omega) (by rw [hdl])
      (fun j v hj => by rw [Addr.add_lit, Nat.add_assoc]; exact hcs (i * 11 + j) v (by rwa [List.getElem?_drop] at hj))
      (fun j hj => by rw [Nat.add_assoc]; exact hsp _ (by omega)) (fun j hj => hfz _) (fun v hv => h1c v (List.mem_of_mem_drop hv))
  obtain ⟨W1, hW1⟩ : ∃ W1, W1 = w.drew.setCells b (off + (i + m) * 11) (cs.drop (i * 11)) := ⟨_, rfl⟩
  have hsp1 : ∀ k, k < (n + m) * 11 → (W1.cell? ⟨b, off + k, none⟩).isSome = true := fun k hk => by
    rw [hW1]
    exact isSome_setK b _ _ _ (fun j hj => by rw [Nat.add_assoc]; exact hsp _ (by omega)) _ (hsp k hk)
  have hcp2 : ∀ (W : World), (∀ x, W.cell? x = W1.cell? x) → (∀ x, W.frozen? x = W1.frozen? x) → ∀ ty dc, (Builtin.copy_ #[91, 91] ty #[.slice (some ⟨b, off + i * 11, none⟩) (n + m - i) dc, .slice (some ⟨vb, voff, none⟩) m vc]).run Tryz.prog W = .ok (goInt (m : Nat)) (W.setCells b (off + i * 11) vs) := fun W hWc hWf ty dc =>
    run_copy_k 11 W _ _ ty 186 b (off + i * 11) (n + m - i) dc ⟨vb, voff, none⟩ m vc vs m t24 hsz (by simp only [Nat.min_def]; split <;> omega) hvl
      (fun j v hj => by
        rw [Addr.add_lit, hWc, hW1, World.cell?_setCells_out b _ _ _ _ (fun h _ => absurd h hvb)]
        exact hvs j v hj)
      (fun j hj => by rw [hWc, Nat.add_assoc]; exact hsp1 _ (by omega)) (fun j hj => by rw [hWf, hW1, World.frozen?_setCells]; exact hfz _) h1v
  rw [← hW1] at hcp1
  go_enter Tryz.func302, Tryz.ntmps302
  go_wp2_with (simp only [hov])
  go_region_law_o (refine step_copy_k rfl _ _ 91 91 rfl _ _ (by simp [Act.eval, Act.put]) (by simp [Act.eval, Act.put]) (hcp1 _ _ _) ?_)
  go_wp2_with (at_builtin; refine wpList_copy_k _ rfl _ _ 91 91 rfl _ _ rfl rfl (hcp2 _ (fun _ => rfl) (fun _ => rfl) _ _) ?_)
  go_ret
  first | exact ⟨rfl, rfl⟩ | exact ⟨rfl, by rw [hW1]⟩
set_option maxHeartbeats 4000000 in
set_option maxRecDepth 100000 in
theorem ins302_end (base : Option Addr) (n c m vc : Nat) (vb : Option Addr) (w w' : World) (q : Value) (hm : 0 < m) (hnc : n ≤ c) (hlim : n + m ≤ 1073741824) (hnil : base = none → n = 0)
    (hrun : (Builtin.append_ #[91, 91] 91 #[.slice base n c, .slice vb m vc]).run Tryz.prog w = .ok q w') :
    Calls Tryz.prog 302 #[.slice base n c, .int .i64 n, .slice vb m vc] w fun e w1 => e = .returned q ∧ w1 = w' := by
  have t0 := Tryz.underlying0; have t3 := Tryz.underlying3; have t4 := Tryz.underlying4; have t9 := Tryz.underlying186; have t24 := Tryz.underlying91
  have a0 := Tryz.isAgg0; have a3 := Tryz.isAgg3; have a4 := Tryz.isAgg4; have a9 := Tryz.isAgg186; have a24 := Tryz.isAgg91
  have z0 := Tryz.sizeOf0; have z3 := Tryz.sizeOf3; have z4 := Tryz.sizeOf4; have z9 := Tryz.sizeOf186; have z24 := Tryz.sizeOf91
  have v0 := Tryz.zeroValue0; have v3 := Tryz.zeroValue3; have v4 := Tryz.zeroValue4; have v24 := Tryz.zeroValue91
  have u0 := run_underlying t0; have u3 := run_underlying t3; have u4 := run_underlying t4; have u24 := run_underlying t24
  have mixed : Tryz.prog.follows .mixedOrders = true := by kernel_rfl
  have hz1 : ¬ ((m : Int) = 0) := by omega
  go_enter Tryz.func302, Tryz.ntmps302
  cases base with
  | none =>
    have h0 := hnil rfl
    subst h0
    go_wp2_with (at_builtin; refine Lib.wpList_append_run _ rfl _ _ _ _ rfl _ _ rfl rfl _ _ hrun ?_)
    all_goals (go_ret; exact ⟨rfl, rfl⟩)
  | some a =>
    obtain ⟨ab, ao, asp⟩ := a
    go_wp2_with (at_builtin; refine Lib.wpList_append_run _ rfl _ _ _ _ rfl _ _ rfl rfl _ _ hrun ?_)
    all_goals (go_ret; exact ⟨rfl, rfl⟩)
set_option maxHeartbeats 4000000 in
set_option maxRecDepth 100000 in
theorem ins302_none (base : Option Addr) (n c i vc : Nat) (vb : Option Addr) (w : World) (hnc : n ≤ c) (hi : i ≤ n) (hnil : base = none → n = 0) :
    Calls Tryz.prog 302 #[.slice base n c, .int .i64 i, .slice vb 0 vc] w fun e w1 => e = .returned (.slice base n c) ∧ w1 = w := by
  have t0 := Tryz.underlying0; have t3 := Tryz.underlying3; have t4 := Tryz.underlying4; have t9 := Tryz.underlying186; have t24 := Tryz.underlying91
  have a0 := Tryz.isAgg0; have a3 := Tryz.isAgg3; have a4 := Tryz.isAgg4; have a9 := Tryz.isAgg186; have a24 := Tryz.isAgg91
  have z0 := Tryz.sizeOf0; have z3 := Tryz.sizeOf3; have z4 := Tryz.sizeOf4; have z9 := Tryz.sizeOf186; have z24 := Tryz.sizeOf91
  have v0 := Tryz.zeroValue0; have v3 := Tryz.zeroValue3; have v4 := Tryz.zeroValue4; have v24 := Tryz.zeroValue91
  have u0 := run_underlying t0; have u3 := run_underlying t3; have u4 := run_underlying t4; have u24 := run_underlying t24
  have mixed : Tryz.prog.follows .mixedOrders = true := by kernel_rfl
  go_enter Tryz.func302, Tryz.ntmps302
  cases base with
  | none =>
    have h0 := hnil rfl
    subst h0
    have hi0 : i = 0 := by omega
    subst hi0
    go_wp2
    all_goals (go_ret; exact ⟨rfl, rfl⟩)
  | some a =>
    obtain ⟨ab, ao, asp⟩ := a
    go_wp2
    all_goals (go_ret; exact ⟨rfl, rfl⟩)
set_option maxHeartbeats 4000000 in
set_option maxRecDepth 100000 in
theorem ins302_grow (b off n c i vb voff m vc : Nat) (cs vs : List Value) (w : World) (hi : i < n) (hm : 0 < m) (hnc : n ≤ c) (hroom : c < n + m) (hlim : n + m ≤ 1073741824)
    (hcl : cs.length = n * 11) (hvl : vs.length = m * 11) (hbw : b < w.heap.size) (hvw : vb < w.heap.size)
    (hcs : ∀ j v, cs[j]? = some v → w.cell? ⟨b, off + j, none⟩ = some v)
    (hvs : ∀ j v, vs[j]? = some v → w.cell? ⟨vb, voff + j, none⟩ = some v) (h1c : ∀ v ∈ cs, v.oneCell' = true) (h1v : ∀ v ∈ vs, v.oneCell' = true) :
    Calls Tryz.prog 302 #[.slice (some ⟨b, off, none⟩) n c, .int .i64 i, .slice (some ⟨vb, voff, none⟩) m vc] w fun e w' =>
      ∃ (G : Nat) (ROW : Array Value) (d1 : Nat), n + m ≤ G ∧ (n + m) * 11 ≤ ROW.size ∧ ROW.size = G * 11 ∧ (∀ (j : Nat) (v : Value), (cs.take (i * 11))[j]? = some v → ROW[j]? = some v) ∧ e = .returned (.slice (some ⟨w.heap.size, 0, none⟩) (n + m) G) ∧
      w' = ((({ w with drawn := d1 } : World).alloc (.cells ROW 186)).setCells w.heap.size (i * 11) vs).setCells w.heap.size ((i + m) * 11) (cs.drop (i * 11)) := by
  have t0 := Tryz.underlying0; have t3 := Tryz.underlying3; have t4 := Tryz.underlying4; have t9 := Tryz.underlying186; have t24 := Tryz.underlying91
  have a0 := Tryz.isAgg0; have a3 := Tryz.isAgg3; have a4 := Tryz.isAgg4; have a9 := Tryz.isAgg186; have a24 := Tryz.isAgg91
  have z0 := Tryz.sizeOf0; have z3 := Tryz.sizeOf3; have z4 := Tryz.sizeOf4; have z9 := Tryz.sizeOf186; have z24 := Tryz.sizeOf91
  have v0 := Tryz.zeroValue0; have v3 := Tryz.zeroValue3; have v4 := Tryz.zeroValue4; have v24 := Tryz.zeroValue91
  have u0 := run_underlying t0; have u3 := run_underlying t3; have u4 := run_underlying t4; have u24 := run_underlying t24
  have mixed : Tryz.prog.follows .mixedOrders = true := by kernel_rfl
  obtain ⟨i0, hi0, hz0, hzs, hzb⟩ : ∃ i0, Tryz.prog.info? 186 = some i0 ∧ i0.zero = some (Value.agg #[.int .i64 0, .int .i64 0, .int .i64 0, .int .i64 0, .int .i64 0, .int .i64 0, .bool false, .string ⟨#[]⟩, .slice none 0 0, .string ⟨#[]⟩, .bool false]) ∧ i0.size = 11 ∧ i0.bytes = 120 := ⟨_, rfl, rfl, rfl, rfl⟩
  have hz1 : ¬ ((m : Int) = 0) := by omega
  have hz2 : ¬ ((i : Int) = (n : Int)) := by omega
  have hz3 : (c : Int) < (n : Int) + (m : Int) := by omega
  have hsz : (Tryz.prog.info? 186).map (·.size) = some 11 := by rw [hi0]; simp [hzs]
  have hkk : (n : Int) + (m : Int) - (i : Int) = ((n + m - i : Nat) : Int) := by omega
  have hik : i + (n + m - i) = n + m := by omega
  have hold : (Builtin.firstCells i0.size i (.slice (some ⟨b, off, none⟩) i c)).run Tryz.prog w.drew = .ok (cs.take (i * 11)).toArray w.drew := by
    rw [hzs]
    exact run_firstCells_some w.drew 11 i ⟨b, off, none⟩ i c (cs.take (i * 11)) (by rw [List.length_take]; omega) (fun j v hj => by
      rw [Addr.add_lit]
      rw [List.getElem?_take] at hj
      split at hj
      · exact hcs j v hj
      · cases hj)
  have hrz : ∀ ty, (Builtin.append_ #[91, 3] ty #[.slice (some ⟨b, off, none⟩) i c, .int .i64 ((n : Int) + (m : Int) - (i : Int))]).run Tryz.prog w =
      .ok (.slice (some ⟨w.heap.size, 0, none⟩) (n + m) (grownCap w (n + m) c 186)) (w.drew.alloc (.cells ((cs.take (i * 11)).toArray ++ Builtin.zeroCells (Value.agg #[.int .i64 0, .int .i64 0, .int .i64 0, .int .i64 0, .int .i64 0, .int .i64 0, .bool false, .string ⟨#[]⟩, .slice none 0 0, .string ⟨#[]⟩, .bool false]).cells (n + m - i) ++ Builtin.zeroCells (Value.agg #[.int .i64 0, .int .i64 0, .int .i64 0, .int .i64 0, .int .i64 0, .int .i64 0, .bool false, .string ⟨#[]⟩, .slice none 0 0, .string ⟨#[]⟩, .bool false]).cells (grownCap w (n + m) c 186 - (n + m))) 186)) := fun ty => by
    have h := Lib.run_append_grow_zeros w 91 3 ty 186 i0 _ .i64 .i64 t24 t3 hi0 hz0 (some ⟨b, off, none⟩) i c (cs.take (i * 11)) hold (n + m - i) (by omega) (by omega) (by omega) (by omega) (by rw [hzb]; omega) (by rw [hzb, hik]; exact growslice_fits hroom (by omega))
    rw [hik] at h
    rw [hkk]
    exact h
  obtain ⟨G, hG⟩ : ∃ G, G = grownCap w (n + m) c 186 := ⟨_, rfl⟩
  obtain ⟨ROW, hROW⟩ : ∃ ROW : Array Value, ROW = (cs.take (i * 11)).toArray ++ Builtin.zeroCells (Value.agg #[.int .i64 0, .int .i64 0, .int .i64 0, .int .i64 0, .int .i64 0, .int .i64 0, .bool false, .string ⟨#[]⟩, .slice none 0 0, .string ⟨#[]⟩, .bool false]).cells (n + m - i) ++ Builtin.zeroCells (Value.agg #[.int .i64 0, .int .i64 0, .int .i64 0, .int .i64 0, .int .i64 0, .int .i64 0, .bool false, .string ⟨#[]⟩, .slice none 0 0, .string ⟨#[]⟩, .bool false]).cells (G - (n + m)) := ⟨_, rfl⟩
  rw [← hG] at hrz
  rw [← hROW] at hrz
  have hGn : n + m ≤ G := by rw [hG]; exact grownCap_ge w _ _ _
  have hzc : ∀ k, (Builtin.zeroCells (Value.agg #[.int .i64 0, .int .i64 0, .int .i64 0, .int .i64 0, .int .i64 0, .int .i64 0, .bool false, .string ⟨#[]⟩, .slice none 0 0, .string ⟨#[]⟩, .bool false]).cells k).size = k * 11 := fun k => by
    simp [Builtin.zeroCells, Value.cells]
  have hRs : ROW.size = G * 11 := by
    rw [hROW, Array.size_append, Array.size_append, hzc, hzc, List.size_toArray, List.length_take]
    omega
  have hRl : (n + m) * 11 ≤ ROW.size := by rw [hRs]; omega
  have hRt : ∀ j v, (cs.take (i * 11))[j]? = some v → ROW[j]? = some v := fun j v hj => by
    have hjl : j < (cs.take (i * 11)).length := by
      rcases Nat.lt_or_ge j (cs.take (i * 11)).length with h | h
      · exact h
      · rw [List.getElem?_eq_none h] at hj; simp at hj
    rw [hROW, Array.append_assoc, Array.getElem?_append_left (by simpa using hjl)]
    simpa using hj
  obtain ⟨W1, hW1⟩ : ∃ W1, W1 = w.drew.alloc (.cells ROW 186) := ⟨_, rfl⟩
  rw [← hW1] at hrz
  have hN : ∀ j, j < (n + m) * 11 → (W1.cell? ⟨w.heap.size, j, none⟩).isSome = true := fun j hj => by
    rw [hW1, World.cell?_alloc_at (w := w.drew) ROW _ w.heap.size j rfl, Array.getElem?_eq_getElem (by omega)]; rfl
  have hNf : ∀ j, W1.frozen? ⟨w.heap.size, j, none⟩ = false := fun j => by rw [hW1]; exact World.frozen?_alloc_at (w := w.drew) ROW _ w.heap.size j rfl
  have hOb : ∀ j v, w.cell? ⟨b, j, none⟩ = some v → W1.cell? ⟨b, j, none⟩ = some v := fun j v h => by rw [hW1, World.cell?_alloc_past (w := w.drew) _ b j hbw]; exact h
  have hOv : ∀ j v, w.cell? ⟨vb, j, none⟩ = some v → W1.cell? ⟨vb, j, none⟩ = some v := fun j v h => by rw [hW1, World.cell?_alloc_past (w := w.drew) _ vb j hvw]; exact h
  have hcpA : ∀ (W : World), (∀ x, W.cell? x = W1.cell? x) → (∀ x, W.frozen? x = W1.frozen? x) → ∀ ty dc, (Builtin.copy_ #[91, 91] ty #[.slice (some ⟨w.heap.size, i * 11, none⟩) (n + m - i) dc, .slice (some ⟨vb, voff, none⟩) m vc]).run Tryz.prog W = .ok (goInt (m : Nat)) (W.setCells w.heap.size (i * 11) vs) := fun W hWc hWf ty dc =>
    run_copy_k 11 W _ _ ty 186 w.heap.size (i * 11) (n + m - i) dc ⟨vb, voff, none⟩ m vc vs m t24 hsz (by simp only [Nat.min_def]; split <;> omega) hvl
      (fun j v hj => by rw [Addr.add_lit, hWc]; exact hOv _ v (hvs j v hj))
      (fun j hj => by rw [hWc]; exact hN _ (by omega)) (fun j hj => by rw [hWf]; exact hNf _) h1v
  have hG63 : G ≤ 9223372036854775807 := by
    have := grownCap_le_maxLen w (n + m) c 186 (by unfold maxLen; omega)
    rw [← hG] at this
    unfold maxLen at this
    omega
  have hGi : ¬ (G = i) := by omega
  have hGim : ¬ (G = i + m) := by omega
  have hci : ¬ (c = i) := by omega
  have hbN : b ≠ w.heap.size := by omega
  have hdl : (cs.drop (i * 11)).length = (n - i) * 11 := by rw [List.length_drop, hcl]; omega
  have hcpB : ∀ (W : World), (∀ x, W.cell? x = (W1.setCells w.heap.size (i * 11) vs).cell? x) → (∀ x, W.frozen? x = (W1.setCells w.heap.size (i * 11) vs).frozen? x) → ∀ ty dc sc, (Builtin.copy_ #[91, 91] ty #[.slice (some ⟨w.heap.size, (i + m) * 11, none⟩) (n + m - (i + m)) dc, .slice (some ⟨b, off + i * 11, none⟩) (n - i) sc]).run Tryz.prog W = .ok (goInt (n - i : Nat)) (W.setCells w.heap.size ((i + m) * 11) (cs.drop (i * 11))) := fun W hWc hWf ty dc sc =>
    run_copy_k 11 W _ _ ty 186 w.heap.size ((i + m) * 11) (n + m - (i + m)) dc ⟨b, off + i * 11, none⟩ (n - i) sc (cs.drop (i * 11)) (n - i) t24 hsz (by simp only [Nat.min_def]; split <;> omega) hdl
      (fun j v hj => by
        rw [Addr.add_lit, hWc, World.cell?_setCells_out _ _ _ _ _ (fun h _ => absurd h hbN), Nat.add_assoc]
        exact hOb _ v (hcs (i * 11 + j) v (by rwa [List.getElem?_drop] at hj)))
      (fun j hj => by rw [hWc]; exact isSome_setK _ _ _ _ (fun t ht => hN _ (by omega)) _ (hN _ (by omega)))
      (fun j hj => by rw [hWf, World.frozen?_setCells]; exact hNf _) (fun v hv => h1c v (List.mem_of_mem_drop hv))
  subst hW1
  have hE1 : ∀ x, ((w.alloc (.cells ROW 186)).drew).cell? x = (w.drew.alloc (.cells ROW 186)).cell? x := fun x => rfl
  have hE2 : ∀ x, ((w.alloc (.cells ROW 186)).drew).frozen? x = (w.drew.alloc (.cells ROW 186)).frozen? x := fun x => rfl
  have hF1 : ∀ x, (((w.alloc (.cells ROW 186)).drew.setCells w.heap.size (i * 11) vs).drew).cell? x = ((w.drew.alloc (.cells ROW 186)).setCells w.heap.size (i * 11) vs).cell? x := fun x => rfl
  have hF2 : ∀ x, (((w.alloc (.cells ROW 186)).drew.setCells w.heap.size (i * 11) vs).drew).frozen? x = ((w.drew.alloc (.cells ROW 186)).setCells w.heap.size (i * 11) vs).frozen? x := fun x => rfl
  have hw1 : IntKind.i64.wrap ((i : Int) + (m : Int)) = (i : Int) + (m : Int) := by rw [IntKind.wrap_i64]; omega
  have hb1 : (0 : Int) ≤ (i : Int) + (m : Int) := by omega
  have hin : i ≤ n := by omega
  have htn : ((i : Int) + (m : Int)).toNat = i + m := by omega
  have hb3 : (i : Int) ≤ (n : Int) := by omega
  clear hkk hik hold hROW hG
  go_enter Tryz.func302, Tryz.ntmps302
  go_wp2_with (first
    | (at_builtin; refine Lib.wpList_append_run _ rfl _ _ _ _ rfl _ _ rfl rfl _ _ (hrz _) ?_)
    | (at_builtin; refine wpList_copy_k _ rfl _ _ 91 91 rfl _ _ rfl rfl (hcpA _ hE1 hE2 _ _) ?_)
    | (at_builtin; refine wpList_copy_k _ rfl _ _ 91 91 rfl _ _ rfl rfl (hcpB _ (fun _ => rfl) (fun _ => rfl) _ _ _) ?_))
  go_region_law_o (refine step_copy_k rfl _ _ 91 91 rfl (.slice (some ⟨w.heap.size, (i + m) * 11, none⟩) (n + m - (i + m)) (G - (i + m))) (.slice (some ⟨b, off + i * 11, none⟩) (n - i) (c - i)) (by simp [Act.eval, Act.put]) (by simp [Act.eval, Act.put]) (hcpB _ hF1 hF2 3 (G - (i + m)) (c - i)) ?_)
  go_wp2
  go_ret
  exact ⟨G, ROW, w.drew.drew.drawn, hGn, hRl, hRs, hRt, rfl, by first | rfl | (rw [drew_setK]; rfl) | (simp only [drew_setK]; rfl)⟩
theorem insC302 : InsC Tryz.prog 302 11 91 186 where
  ent := ⟨Tryz.f302, Tryz.func302, by kernel_rfl, by kernel_rfl⟩
  hS := Tryz.underlying91
  hz := by kernel_rfl
  pos := by decide
  info := ⟨_, (Value.agg #[.int .i64 0, .int .i64 0, .int .i64 0, .int .i64 0, .int .i64 0, .int .i64 0, .bool false, .string ⟨#[]⟩, .slice none 0 0, .string ⟨#[]⟩, .bool false]), rfl, by decide, rfl, rfl⟩
  nothing := fun base n c i vc vb w h1 h2 h3 => ins302_none base n c i vc vb w h1 h2 h3
  end_ := fun base n c m vc vb w w' q h1 h2 h3 h4 h5 => ins302_end base n c m vc vb w w' q h1 h2 h3 h4 h5
  shift := fun b off n c i vb voff m vc cs vs w h1 h2 h3 h4 h5 h6 h7 h8 h9 h10 h11 h12 h13 tA tB kA kB h14 h15 h16 => ins302_shift b off n c i vb voff m vc cs vs w h1 h2 h3 h4 h5 h6 h7 h8 h9 h10 h11 h12 h13 tA tB kA kB h14 h15 h16
  grow := fun b off n c i vb voff m vc cs vs w h1 h2 h3 h4 h5 h6 h7 h8 h9 h10 h11 h12 h13 => ins302_grow b off n c i vb voff m vc cs vs w h1 h2 h3 h4 h5 h6 h7 h8 h9 h10 h11 h12 h13
end Sg
namespace Sg
open _root_.Go (IntKind BinOp UnOp)
set_option linter.unusedSimpArgs false
set_option linter.unusedVariables false
theorem lt_of {i n : Nat} (h : decide ((i : Int) < (n : Int)) = true) : i < n := by simpa using h
theorem eq_of {i n : Nat} (hi : i ≤ n) (h : decide ((i : Int) < (n : Int)) = false) : i = n := by
  have : ¬ i < n := by simpa using h
  omega
theorem inc64 {i n : Nat} (h : i < n) (hn : n < 2 ^ 60) : IntKind.i64.wrap ((i : Int) + 1) = ((i + 1 : Nat) : Int) := wrap64 (by omega) (by omega)
theorem dec64 {n : Nat} (h : 0 < n) (hn : n < 2 ^ 60) : IntKind.i64.wrap ((n : Int) - 1) = ((n - 1 : Nat) : Int) := by rw [wrap64 (by omega) (by omega)]; omega
theorem take_s {α : Type} {l : List α} {i : Nat} {x : α} (h : l[i]? = some x) : l.take (i + 1) = l.take i ++ [x] := by rw [List.take_add_one, h]; rfl
theorem take_all {α : Type} {l : List α} {i : Nat} (h : i = l.length) : l.take i = l := by rw [h, List.take_length]
theorem pos_len {n : Nat} : decide ((0 : Int) < ((n + 1 : Nat) : Int)) = true := by simp
theorem led {a b : Nat} : decide ((a : Int) ≤ (b : Int)) = decide (a ≤ b) := decide_eq_decide.2 (by omega)
end Sg
namespace Sg
open _root_.Go
set_option linter.unusedSimpArgs false
set_option linter.unusedVariables false
theorem decodeN_w (n a b c d : Nat) : 1 ≤ (Lib.decodeN n a b c d).2 ∧ (Lib.decodeN n a b c d).2 ≤ 4 := by
  unfold Lib.decodeN
  repeat' split
  all_goals simp
theorem dN_pos (l : List UInt8) : 1 ≤ (dN l).2 := (decodeN_w ..).1
def bad (l : List UInt8) : Bool := decide (dN l = (65533, 1))
def letsF : Nat → List UInt8 → List Int
  | 0, _ => []
  | f + 1, l => if l = [] then [] else ((dN l).1 : Int) :: letsF f (l.drop (dN l).2)
def lets (l : List UInt8) : List Int := letsF l.length l
theorem drop_lt {l : List UInt8} (h : l ≠ []) : (l.drop (dN l).2).length < l.length := by
  have := dN_pos l
  have : 0 < l.length := List.length_pos_iff.2 h
  rw [List.length_drop]; omega
theorem letsF_eq : ∀ (f : Nat) (l : List UInt8), l.length ≤ f → letsF f l = lets l
  | 0, l, h => by
    obtain rfl : l = [] := List.eq_nil_of_length_eq_zero (by omega)
    rfl
  | f + 1, l, h => by
    by_cases hl : l = []
    · subst hl; simp [letsF, lets]
    · have hd := drop_lt hl
      have h1 := letsF_eq f (l.drop (dN l).2) (by omega)
      obtain ⟨n, hn⟩ : ∃ n, l.length = n + 1 := ⟨l.length - 1, by omega⟩
      have h2 : letsF n (l.drop (dN l).2) = lets (l.drop (dN l).2) := letsF_eq n _ (by omega)
      have e : lets l = ((dN l).1 : Int) :: letsF n (l.drop (dN l).2) := by
        rw [lets, hn]; simp only [letsF, hl, if_false]
      rw [e, h2]
      simp only [letsF, hl, if_false, h1]
  termination_by f => f
theorem lets_nil : lets [] = [] := rfl
theorem lets_cons {l : List UInt8} (h : l ≠ []) : lets l = ((dN l).1 : Int) :: lets (l.drop (dN l).2) := by
  have hd := drop_lt h
  obtain ⟨n, hn⟩ : ∃ n, l.length = n + 1 := ⟨l.length - 1, by omega⟩
  rw [lets, hn]
  simp only [letsF, h, if_false]
  rw [letsF_eq n _ (by omega)]
theorem dec0 {n a b c d : Nat} (h : (128 ≤ a ∧ a < 194) ∨ (245 ≤ a ∧ a < 256)) : Lib.decodeN n a b c d = (65533, 1) := by
  unfold Lib.decodeN
  repeat' split
  all_goals first | (exfalso; omega) | rfl
theorem dec2 {n a b c d : Nat} (h : 194 ≤ a ∧ a < 224) : Lib.decodeN n a b c d = if 1 < n ∧ b / 64 = 2 then (a % 32 * 64 + b % 64, 2) else (65533, 1) := by
  unfold Lib.decodeN
  repeat' split
  all_goals first | (exfalso; omega) | rfl
theorem dec3 {n a b c d : Nat} (h : 224 ≤ a ∧ a < 240) : Lib.decodeN n a b c d = if (1 < n ∧ b / 64 = 2) ∧ (2 < n ∧ c / 64 = 2) ∧ 2048 ≤ a % 16 * 4096 + b % 64 * 64 + c % 64 ∧ (a % 16 * 4096 + b % 64 * 64 + c % 64 < 55296 ∨ 57344 ≤ a % 16 * 4096 + b % 64 * 64 + c % 64) then (a % 16 * 4096 + b % 64 * 64 + c % 64, 3) else (65533, 1) := by
  unfold Lib.decodeN
  repeat' split
  all_goals first | (exfalso; omega) | rfl
theorem dec4 {n a b c d : Nat} (h : 240 ≤ a ∧ a < 245) : Lib.decodeN n a b c d = if (1 < n ∧ b / 64 = 2) ∧ (2 < n ∧ c / 64 = 2) ∧ (3 < n ∧ d / 64 = 2) ∧ 65536 ≤ a % 8 * 262144 + b % 64 * 4096 + c % 64 * 64 + d % 64 ∧ a % 8 * 262144 + b % 64 * 4096 + c % 64 * 64 + d % 64 ≤ 1114111 then (a % 8 * 262144 + b % 64 * 4096 + c % 64 * 64 + d % 64, 4) else (65533, 1) := by
  unfold Lib.decodeN
  repeat' split
  all_goals first | (exfalso; omega) | rfl
theorem dec1 {n a b c d : Nat} (h : a < 128) : Lib.decodeN n a b c d = (a, 1) := by
  unfold Lib.decodeN; rw [if_pos h]
theorem dN_cases {l : List UInt8} (h : l ≠ []) : dN l = (65533, 1) ∨ (∃ b0 t, l = b0 :: t ∧ b0.toNat < 128 ∧ dN l = (b0.toNat, 1)) ∨
    (∃ b0 b1 t, l = b0 :: b1 :: t ∧ (194 ≤ b0.toNat ∧ b0.toNat < 224) ∧ b1.toNat / 64 = 2 ∧ dN l = (b0.toNat % 32 * 64 + b1.toNat % 64, 2)) ∨
    (∃ b0 b1 b2 t, l = b0 :: b1 :: b2 :: t ∧ (224 ≤ b0.toNat ∧ b0.toNat < 240) ∧ b1.toNat / 64 = 2 ∧ b2.toNat / 64 = 2 ∧ 2048 ≤ b0.toNat % 16 * 4096 + b1.toNat % 64 * 64 + b2.toNat % 64 ∧ dN l = (b0.toNat % 16 * 4096 + b1.toNat % 64 * 64 + b2.toNat % 64, 3)) ∨
    (∃ b0 b1 b2 b3 t, l = b0 :: b1 :: b2 :: b3 :: t ∧ (240 ≤ b0.toNat ∧ b0.toNat < 245) ∧ b1.toNat / 64 = 2 ∧ b2.toNat / 64 = 2 ∧ b3.toNat / 64 = 2 ∧ 65536 ≤ b0.toNat % 8 * 262144 + b1.toNat % 64 * 4096 + b2.toNat % 64 * 64 + b3.toNat % 64 ∧ dN l = (b0.toNat % 8 * 262144 + b1.toNat % 64 * 4096 + b2.toNat % 64 * 64 + b3.toNat % 64, 4)) := by
  obtain ⟨b0, t, rfl⟩ := List.exists_cons_of_ne_nil h
  have l0 := b0.toNat_lt
  have e0 : (b0 :: t).getD 0 0 = b0 := rfl
  have e1 : (b0 :: t).getD 1 0 = t.getD 0 0 := rfl
  have e2 : (b0 :: t).getD 2 0 = t.getD 1 0 := rfl
  have e3 : (b0 :: t).getD 3 0 = t.getD 2 0 := rfl
  by_cases c1 : b0.toNat < 128
  · exact .inr (.inl ⟨b0, t, rfl, c1, by rw [dN, e0, dec1 c1]⟩)
  by_cases c2 : 194 ≤ b0.toNat ∧ b0.toNat < 224
  · match t with
    | [] => left; rw [dN, e0, dec2 c2]; simp
    | b1 :: t =>
      by_cases d : b1.toNat / 64 = 2
      · exact .inr (.inr (.inl ⟨b0, b1, t, rfl, c2, d, by rw [dN, e0, dec2 c2, if_pos ⟨by simp, by simpa [e1] using d⟩]; rfl⟩))
      · left; rw [dN, e0, dec2 c2, if_neg (fun e => d (by simpa [e1] using e.2))]
  by_cases c3 : 224 ≤ b0.toNat ∧ b0.toNat < 240
  · match t with
    | [] => left; rw [dN, e0, dec3 c3]; simp
    | [b1] => left; rw [dN, e0, dec3 c3]; simp
    | b1 :: b2 :: t =>
      have g1 : (b0 :: b1 :: b2 :: t).getD 1 0 = b1 := rfl
      have g2 : (b0 :: b1 :: b2 :: t).getD 2 0 = b2 := rfl
      rw [dN, e0, g1, g2, dec3 c3]
      split
      · rename_i hc
        exact .inr (.inr (.inr (.inl ⟨b0, b1, b2, t, rfl, c3, hc.1.2, hc.2.1.2, hc.2.2.1, rfl⟩)))
      · exact .inl rfl
  by_cases c4 : 240 ≤ b0.toNat ∧ b0.toNat < 245
  · match t with
    | [] => left; rw [dN, e0, dec4 c4]; simp
    | [b1] => left; rw [dN, e0, dec4 c4]; simp
    | [b1, b2] => left; rw [dN, e0, dec4 c4]; simp
    | b1 :: b2 :: b3 :: t =>
      have g1 : (b0 :: b1 :: b2 :: b3 :: t).getD 1 0 = b1 := rfl
      have g2 : (b0 :: b1 :: b2 :: b3 :: t).getD 2 0 = b2 := rfl
      have g3 : (b0 :: b1 :: b2 :: b3 :: t).getD 3 0 = b3 := rfl
      rw [dN, e0, g1, g2, g3, dec4 c4]
      split
      · rename_i hc
        exact .inr (.inr (.inr (.inr ⟨b0, b1, b2, b3, t, rfl, c4, hc.1.2, hc.2.1.2, hc.2.2.1.2, hc.2.2.2.1, rfl⟩)))
      · exact .inl rfl
  · left; rw [dN, e0, dec0 (by omega)]
def cmpL : List Int → List Int → Int
  | [], [] => 0
  | [], _ :: _ => -1
  | _ :: _, [] => 1
  | a :: l, b :: k => if a < b then -1 else if b < a then 1 else cmpL l k
theorem cmpL_lt' {a b : Int} {l k : List Int} (h : a < b) : cmpL (a :: l) (b :: k) = -1 := by simp [cmpL, h]
theorem cmpL_gt' {a b : Int} {l k : List Int} (h : b < a) : cmpL (a :: l) (b :: k) = 1 := by
  have : ¬ a < b := by omega
  simp [cmpL, h, this]
theorem cmpL_eq' {a : Int} {l k : List Int} : cmpL (a :: l) (a :: k) = cmpL l k := by simp [cmpL]
theorem cmpL_tr : ∀ (a b c : List Int), cmpL a b ≤ 0 → cmpL b c ≤ 0 → cmpL a c ≤ 0 ∧ (cmpL a b < 0 ∨ cmpL b c < 0 → cmpL a c < 0)
  | [], [], c, h1, h2 => by
    have : cmpL [] [] = 0 := rfl
    omega
  | [], _ :: _, [], h1, h2 => by simp [cmpL] at h2
  | [], _ :: _, _ :: _, h1, h2 => by simp [cmpL]
  | _ :: _, [], _, h1, h2 => by simp [cmpL] at h1
  | a :: l, b :: k, [], h1, h2 => by simp [cmpL] at h2
  | a :: l, b :: k, c :: m, h1, h2 => by
    have ih := cmpL_tr l k m
    rcases Int.lt_trichotomy a b with p | p | p
    · rw [cmpL_lt' p] at h1 ⊢
      rcases Int.lt_trichotomy b c with q | q | q
      · rw [cmpL_lt' (show a < c by omega)]; omega
      · rw [cmpL_lt' (show a < c by omega)]; omega
      · rw [cmpL_gt' q] at h2; omega
    · subst p
      rw [cmpL_eq'] at h1 ⊢
      rcases Int.lt_trichotomy a c with q | q | q
      · rw [cmpL_lt' q]; omega
      · subst q
        rw [cmpL_eq'] at h2 ⊢
        rw [cmpL_eq']
        exact ih h1 h2
      · rw [cmpL_gt' q] at h2; omega
    · rw [cmpL_gt' p] at h1; omega
end Sg
namespace Sg
open _root_.Go (IntKind BinOp UnOp)
set_option linter.unusedSimpArgs false
set_option linter.unusedVariables false
set_option maxRecDepth 10000
variable {Pg : Nat → Option Fn}
@[go_sem] theorem idx_0 {b : UInt8} {t : List UInt8} {k : IntKind} : idxV (.str (b :: t)) (.int k 0) = some (.int .u8 b.toNat) := rfl
@[go_sem high] theorem sl_str {s : List UInt8} {z : Nat} {k : IntKind} {n : Nat} (h : n ≤ s.length) : slV true z (.str s) (some (.int k (n : Int))) none = some (.str (s.drop n)) := by
  simp [slV, bound, h]
def H191 (Pg : Nat → Option Fn) : Prop := Pg 191 = some (.code F191)
theorem K191 (h : H191 Pg) (r n : Int) : K' Pg 191 [.int .i32 r, .int .i64 n] = some (.bool (plainR r n)) := by
  refine K'_code h rfl ?_
  simp only [go_sem]
  cases c1 : decide (33 ≤ r) <;> cases c2 : decide (r < 127) <;> cases c3 : decide (159 < r) <;> cases c4 : decide (r = 65533) <;> cases c5 : decide (n = 3) <;>
    simp only [go_sem, plainR, c1, c2, c3, c4, c5]
def H190 (Pg : Nat → Option Fn) : Prop := Pg 190 = some (.prim none decQ)
theorem K190 (h : H190 Pg) (s : List UInt8) : K' Pg 190 [.str s] = some (.tuple [.int .i32 (decL s).1, .int .i64 (decL s).2]) := by
  rw [K'_prim h]; rfl
def H170 (Pg : Nat → Option Fn) : Prop := Pg 170 = some (.prim none keyQ)
theorem K170 (h : H170 Pg) (s : List UInt8) : K' Pg 170 [.str s] = some (.bool (keyR s)) := by
  rw [K'_prim h]; rfl
@[go_sem] def eLN (x : Int × Int) : V := .tuple [iz x.1, iz x.2]
end Sg
namespace Sg
open _root_.Go _root_.Go.RowKit _root_.Go.Proofs
set_option linter.unusedSimpArgs false
set_option linter.unusedVariables false
def plainFm : List (Nat × Nat) := [(191, 293)]
theorem okPlain : okF Tryz.prog (cxU plainFm) (onePg 191 F191) 293 F191 = true := by kernel_rfl
theorem plain_walk (r n : Int) (w : World) (hgn : 2 ≤ w.heap.size) (hT : Lib.Utf8Tabs 0 1 w) :
    Calls Tryz.prog 293 #[.int .i32 r, .int .i64 n] w fun e w' => e = .returned (.bool (plainR r n)) ∧ Below w.heap.size w w' := by
  have hk : K' (onePg 191 F191) 191 [.int .i32 r, .int .i64 n] = some (.bool (plainR r n)) := K191 (by simp [H191, onePg]) r n
  obtain ⟨m, hm⟩ := K'_iff.1 hk
  have hc := one_sound (P := Tryz.prog) (cx := cxU plainFm) (id := 191) (F := F191) (by kernel_rfl) okPlain m 191 _ _ hm
  refine (hc.2 w (fun _ => False) #[.int .i32 r, .int .i64 n] (fun b hb => hb.elim) hgn hT rfl (fun i hi => by
    match i, hi with
    | 0, _ => exact ⟨_, rfl, .int _ _⟩
    | 1, _ => exact ⟨_, rfl, .int _ _⟩
    | k + 2, hi => exact absurd hi (by simp))).mono fun e w' ⟨v, he, hb, hr⟩ => ?_
  have hr := hr.data (fun b hb => hb.elim)
  cases hr
  exact ⟨he, hb⟩
theorem decCt (l : List (Nat × Nat)) (id : Nat) (h : (cxU l).fm id = 292) : ∀ args r, decQ args = some r → Ctr Tryz.prog (cxU l) none id args r :=
  dec_ctr (by rw [h]; exact ⟨_, Tryz.func292, by kernel_rfl, by kernel_rfl⟩) fun s w hG => by rw [h]; exact dec_walk s w hG
theorem keyCt (l : List (Nat × Nat)) (id : Nat) (h : (cxU l).fm id = 260) : ∀ args r, keyQ args = some r → Ctr Tryz.prog (cxU l) none id args r :=
  key_ctr (by rw [h]; exact ⟨_, Tryz.func260, by kernel_rfl, by kernel_rfl⟩) fun s w hgn hG => by rw [h]; exact key_walk s w hgn hG plain_walk
end Sg
namespace Sg
set_option linter.unusedSimpArgs false
set_option linter.unusedVariables false
def putB (n : Nat) : List UInt8 := if h : n < 128 then [UInt8.ofNat n] else UInt8.ofNat (n % 128 + 128) :: putB (n / 128)
termination_by n
decreasing_by omega
theorem putB_lt {n : Nat} (h : n < 128) : putB n = [UInt8.ofNat n] := by rw [putB, dif_pos h]
theorem putB_ge {n : Nat} (h : 128 ≤ n) : putB n = UInt8.ofNat (n % 128 + 128) :: putB (n / 128) := by rw [putB, dif_neg (by omega)]
def tk : Nat → List UInt8 → Option (Nat × List UInt8)
  | _, [] => none
  | 0, _ :: _ => none
  | k + 1, b :: s => if b.toNat < 128 then some (b.toNat, s) else (tk k s).bind fun q => if q.1 = 0 then none else some (b.toNat - 128 + 128 * q.1, q.2)
theorem ofNat_toNat {n : Nat} (h : n < 256) : (UInt8.ofNat n).toNat = n := by
  simp [UInt8.toNat_ofNat']; omega
theorem putB_pos (n : Nat) : 1 ≤ (putB n).length := by
  rw [putB]; split <;> simp
theorem tk_put : ∀ (k n : Nat) (r : List UInt8), (putB n).length ≤ k → tk k (putB n ++ r) = some (n, r)
  | 0, n, r, h => by have := putB_pos n; omega
  | k + 1, n, r, h => by
    by_cases hn : n < 128
    · rw [putB_lt hn]
      simp only [List.cons_append, List.nil_append, tk, ofNat_toNat (show n < 256 by omega), if_pos hn]
    · rw [putB_ge (by omega)] at h ⊢
      simp only [List.length_cons] at h
      simp only [List.cons_append, tk, ofNat_toNat (show n % 128 + 128 < 256 by omega)]
      rw [if_neg (by omega), tk_put k (n / 128) r (by omega)]
      simp only [Option.bind_some]
      rw [if_neg (by omega)]
      congr 2
      omega
theorem tk_of : ∀ {k : Nat} {s : List UInt8} {n : Nat} {r : List UInt8}, tk k s = some (n, r) → s = putB n ++ r ∧ (putB n).length ≤ k
  | _, [], n, r, h => by simp [tk] at h
  | 0, _ :: _, n, r, h => by simp [tk] at h
  | k + 1, b :: s, n, r, h => by
    simp only [tk] at h
    split at h
    · rename_i hb
      simp only [Option.some.injEq, Prod.mk.injEq] at h
      obtain ⟨rfl, rfl⟩ := h
      rw [putB_lt hb]
      refine ⟨?_, by simp⟩
      simp
    · rename_i hb
      cases hq : tk k s with
      | none => rw [hq] at h; simp at h
      | some q =>
        rw [hq] at h
        simp only [Option.bind_some] at h
        split at h
        · cases h
        rename_i h0
        obtain ⟨m, r'⟩ := q
        simp only [Option.some.injEq, Prod.mk.injEq] at h h0
        obtain ⟨rfl, rfl⟩ := h
        obtain ⟨e, hl⟩ := tk_of hq
        have hb2 := b.toNat_lt
        have e1 : (b.toNat - 128 + 128 * m) % 128 + 128 = b.toNat := by omega
        have e2 : (b.toNat - 128 + 128 * m) / 128 = m := by omega
        rw [putB_ge (by omega), e1, e2, e]
        exact ⟨by simp, by simp only [List.length_cons]; omega⟩
theorem tk_iff {k : Nat} {s : List UInt8} {n : Nat} {r : List UInt8} : tk k s = some (n, r) ↔ s = putB n ++ r ∧ (putB n).length ≤ k :=
  ⟨tk_of, fun ⟨e, h⟩ => by rw [e]; exact tk_put k n r h⟩
theorem putB_len : ∀ (k n : Nat), (putB n).length ≤ k + 1 ↔ n < 128 ^ (k + 1)
  | 0, n => by
    by_cases hn : n < 128
    · rw [putB_lt hn]; simpa using hn
    · rw [putB_ge (by omega)]
      have := putB_pos (n / 128)
      simp only [List.length_cons]
      constructor
      · intro h; omega
      · intro h; simp at h; omega
  | k + 1, n => by
    by_cases hn : n < 128
    · rw [putB_lt hn]
      simp only [List.length_singleton]
      refine ⟨fun _ => ?_, fun _ => by omega⟩
      have : 128 ^ 1 ≤ 128 ^ (k + 1 + 1) := Nat.pow_le_pow_right (by omega) (by omega)
      omega
    · rw [putB_ge (by omega)]
      simp only [List.length_cons]
      have := putB_len k (n / 128)
      rw [Nat.add_le_add_iff_right, this, Nat.pow_succ 128 (k + 1), Nat.div_lt_iff_lt_mul (by omega)]
theorem putB_9 {n : Nat} : (putB n).length ≤ 9 ↔ n < 2 ^ 63 := by
  have e : (128 : Nat) ^ (8 + 1) = 2 ^ 63 := by decide
  rw [putB_len 8 n, e]
theorem tk_lt {s : List UInt8} {n : Nat} {r : List UInt8} (h : tk 9 s = some (n, r)) : n < 2 ^ 63 := putB_9.1 (tk_of h).2
def textB (t : List UInt8) : List UInt8 := putB t.length ++ t
def flagB (b : Bool) : List UInt8 := [if b then 1 else 0]
def tkT (s : List UInt8) : Option (List UInt8 × List UInt8) := (tk 9 s).bind fun q => if q.1 ≤ q.2.length then some (q.2.take q.1, q.2.drop q.1) else none
def tkF : List UInt8 → Option (Bool × List UInt8)
  | [] => none
  | b :: s => if b.toNat ≤ 1 then some (decide (b.toNat = 1), s) else none
theorem tkT_iff {s t r : List UInt8} : tkT s = some (t, r) ↔ s = textB t ++ r ∧ t.length < 2 ^ 63 := by
  unfold tkT textB
  constructor
  · intro h
    cases hq : tk 9 s with
    | none => rw [hq] at h; cases h
    | some q =>
      obtain ⟨n, u⟩ := q
      rw [hq] at h
      simp only [Option.bind_some] at h
      split at h
      · rename_i hn
        simp only [Option.some.injEq, Prod.mk.injEq] at h
        obtain ⟨rfl, rfl⟩ := h
        have hl : (u.take n).length = n := by simp; omega
        refine ⟨?_, by rw [hl]; exact tk_lt hq⟩
        rw [hl, (tk_of hq).1, List.append_assoc, List.take_append_drop]
      · cases h
  · rintro ⟨rfl, h⟩
    rw [List.append_assoc, tk_put 9 _ _ (putB_9.2 h)]
    simp
theorem tkF_iff {s r : List UInt8} {b : Bool} : tkF s = some (b, r) ↔ s = flagB b ++ r := by
  cases s with
  | nil => simp [tkF, flagB]
  | cons x s =>
    simp only [tkF, flagB, List.cons_append, List.nil_append, List.cons.injEq]
    constructor
    · intro h
      split at h
      · rename_i hx
        simp only [Option.some.injEq, Prod.mk.injEq] at h
        obtain ⟨rfl, rfl⟩ := h
        refine ⟨?_, rfl⟩
        apply UInt8.toNat_inj.1
        by_cases h1 : x.toNat = 1
        · simp [h1]
        · have : x.toNat = 0 := by omega
          simp [this]
      · cases h
    · rintro ⟨rfl, rfl⟩
      cases b <;> simp
def val : List UInt8 → Nat
  | [] => 0
  | b :: l => b.toNat % 128 + 128 * val l
end Sg
namespace Sg
open _root_.Go (IntKind BinOp UnOp)
set_option linter.unusedSimpArgs false
set_option linter.unusedVariables false
variable {Pg : Nat → Option Fn}
@[go_sem] def eInts (l : List Int) : V := .slice 1 (l.map fun a => [iz a])
def H70 (Pg : Nat → Option Fn) : Prop := Pg 70 = some (.code F70)
theorem K70 (h : H70 Pg) (a b : List Int) (hl : a.length < 2 ^ 60) : K' Pg 70 [eInts a, eInts b] = some (.bool (decide (a = b))) := by
  refine K'_code h rfl ?_
  simp only [go_sem]
  refine wpc_i (fun hc => ?_) (fun hc => ?_)
  · have hc : ¬ a.length = b.length := by intro e; simp [e] at hc
    have : a ≠ b := fun e => hc (by rw [e])
    simp only [go_sem, this]
  · have hc : a.length = b.length := by simp at hc; omega
    simp only [go_sem]
    unfold l70_0
    refine wp_lp (fun (i : Nat) S => i ≤ a.length ∧ S.ρ 0 = eInts a ∧ S.ρ 1 = eInts b ∧ S.ρ 5 = iz i ∧ a.take i = b.take i) (fun i => a.length - i) 0 ?_ ?_
    · simp [go_sem]
    · intro i S ⟨hi, h0, h1, h5, ho⟩
      simp only [go_sem, h0, h1, h5]
      refine wpc_i (fun h => ?_) (fun h => ?_)
      · have h := lt_of h
        obtain ⟨x, hx, hd⟩ := drop_at h
        obtain ⟨y, hy, hd'⟩ := drop_at (l := b) (i := i) (by omega)
        simp only [go_sem, h0, h1, h5, hx, hy]
        refine wpc_i (fun hc => ?_) (fun hc => ?_)
        · have hne : x ≠ y := by simpa using hc
          have : a ≠ b := fun e => hne (by subst e; rw [hx] at hy; simpa using hy)
          simp only [go_sem, this]
        · have he : x = y := by simpa using hc
          simp only [go_sem, h0, h1, h5]
          exact ⟨i + 1, by omega, by omega, by rw [inc64 h hl], by rw [take_s hx, take_s hy, ho, he]⟩
      · have h := eq_of hi h
        rw [take_all h, take_all (h.trans hc)] at ho
        simp only [go_sem, ho]
def idxI : List Int → Int → Nat → Int
  | [], _, _ => -1
  | a :: l, n, i => if n = a then i else idxI l n (i + 1)
theorem idxI_mem : ∀ {l : List Int} {n : Int} {i : Nat}, decide (0 ≤ idxI l n i) = decide (n ∈ l)
  | [], n, i => by simp [idxI]
  | a :: l, n, i => by
    simp only [idxI]
    split
    · rename_i h; simp [h]
    · rename_i h; rw [idxI_mem]; simp [h]
def H75 (Pg : Nat → Option Fn) : Prop := Pg 75 = some (.code F75)
theorem K75 (h : H75 Pg) (l : List Int) (n : Int) (hl : l.length < 2 ^ 60) : K' Pg 75 [eInts l, iz n] = some (iz (idxI l n 0)) := by
  refine K'_code h rfl ?_
  simp only [go_sem]
  unfold l75_0
  refine wp_lp (fun (i : Nat) S => i ≤ l.length ∧ S.ρ 0 = eInts l ∧ S.ρ 1 = iz n ∧ S.ρ 7 = iz l.length ∧ S.ρ 8 = iz i ∧ idxI (l.drop i) n i = idxI l n 0) (fun i => l.length - i) 0 ?_ ?_
  · simp [go_sem]
  · intro i S ⟨hi, h0, h1, h7, h8, ho⟩
    simp only [go_sem, h0, h1, h7, h8]
    refine wpc_i (fun h => ?_) (fun h => ?_)
    · have h := lt_of h
      obtain ⟨x, hx, hd⟩ := drop_at h
      rw [hd] at ho
      simp only [go_sem, h0, h1, h7, h8, hx]
      refine wpc_i (fun hc => ?_) (fun hc => ?_)
      · have hc : n = x := of_decide_eq_true hc
        simp only [idxI, hc, if_true] at ho
        simp only [go_sem, ← ho, hc]
      · have hc : ¬ n = x := of_decide_eq_false hc
        simp only [idxI, hc, if_false] at ho
        simp only [go_sem, h0, h1, h7, h8]
        exact ⟨i + 1, by omega, by omega, by rw [inc64 h hl], ho⟩
    · have h := eq_of hi h
      subst h
      simp only [List.drop_length, idxI] at ho
      simp only [go_sem, ← ho]
def H65 (Pg : Nat → Option Fn) : Prop := Pg 65 = some (.code F65) ∧ H75 Pg
theorem K65 (h : H65 Pg) (l : List Int) (n : Int) (hl : l.length < 2 ^ 60) : K' Pg 65 [eInts l, iz n] = some (.bool (decide (n ∈ l))) := by
  obtain ⟨h, h75⟩ := h
  refine K'_code h rfl ?_
  have k75 := K75 h75 l n hl
  simp only [eInts] at k75
  simp only [go_sem, k75, idxI_mem]
def idxF : List Int → (Int → Bool) → Nat → Int
  | [], _, _ => -1
  | a :: l, p, i => if p a then i else idxF l p (i + 1)
theorem idxF_any : ∀ {l : List Int} {p : Int → Bool} {i : Nat}, decide (0 ≤ idxF l p i) = l.any p
  | [], n, i => by simp [idxF]
  | a :: l, n, i => by
    simp only [idxF]
    split
    · rename_i h; simp [h]
    · rename_i h; rw [idxF_any]; simp [h]
def H76 (Pg : Nat → Option Fn) : Prop := Pg 76 = some (.code F76)
theorem K76 (h : H76 Pg) (l : List Int) (g : Nat) (cap : List V) (p : Int → Bool) (hl : l.length < 2 ^ 60) (hcap : cap.all V.datC = true) (hg : ∀ x ∈ l, K' Pg g (iz x :: cap) = some (.bool (p x))) :
    K' Pg 76 [eInts l, .func g cap] = some (iz (idxF l p 0)) := by
  refine K'_code h rfl ?_
  simp only [go_sem]
  unfold l76_0
  refine wp_lp (fun (i : Nat) S => i ≤ l.length ∧ S.ρ 0 = eInts l ∧ S.ρ 1 = .func g cap ∧ S.ρ 7 = iz l.length ∧ S.ρ 8 = iz i ∧ idxF (l.drop i) p i = idxF l p 0) (fun i => l.length - i) 0 ?_ ?_
  · simp [go_sem]
  · intro i S ⟨hi, h0, h1, h7, h8, ho⟩
    simp only [go_sem, h0, h1, h7, h8]
    refine wpc_i (fun h => ?_) (fun h => ?_)
    · have h := lt_of h
      obtain ⟨x, hx, hd⟩ := drop_at h
      rw [hd] at ho
      have hgx := hg x (List.mem_of_getElem? hx)
      simp only [go_sem, h0, h1, h7, h8, hx, hgx]
      refine wpc_i (fun hc => ?_) (fun hc => ?_)
      · simp only [idxF, hc, if_true] at ho
        simp only [go_sem, ← ho]
      · simp only [idxF, hc, Bool.false_eq_true, if_false] at ho
        simp only [go_sem, h0, h1, h7, h8]
        exact ⟨i + 1, by omega, by omega, by rw [inc64 h hl], ho⟩
    · have h := eq_of hi h
      subst h
      simp only [List.drop_length, idxF] at ho
      simp only [go_sem, ← ho]
def H67 (Pg : Nat → Option Fn) : Prop := Pg 67 = some (.code F67) ∧ H76 Pg
theorem K67 (h : H67 Pg) (l : List Int) (g : Nat) (cap : List V) (p : Int → Bool) (hl : l.length < 2 ^ 60) (hcap : cap.all V.datC = true) (hg : ∀ x ∈ l, K' Pg g (iz x :: cap) = some (.bool (p x))) :
    K' Pg 67 [eInts l, .func g cap] = some (.bool (l.any p)) := by
  obtain ⟨h, h76⟩ := h
  refine K'_code h rfl ?_
  have k76 := K76 h76 l g cap p hl hcap hg
  simp only [eInts] at k76
  simp only [go_sem, k76, idxF_any]
def SetP (l : List Int) : Prop := l.length ≤ 8 ∧ (∀ m ∈ l, 1 ≤ m ∧ m ≤ 255) ∧ l.Nodup
instance (l : List Int) : Decidable (SetP l) := inferInstanceAs (Decidable (_ ∧ _ ∧ _))
theorem set_bad {l : List Int} {i : Nat} {x : Int} (hx : l[i]? = some x) (h : ¬ (1 ≤ x ∧ x ≤ 255) ∨ x ∈ l.take i) : ¬ SetP l := by
  rintro ⟨-, h2, h3⟩
  rcases h with h | h
  · exact h (h2 x (List.mem_of_getElem? hx))
  · have hi : i < l.length := by
      rcases Nat.lt_or_ge i l.length with h | h
      · exact h
      · rw [List.getElem?_eq_none h] at hx; simp at hx
    obtain ⟨y, hy, hd⟩ := drop_at hi
    have : x = y := by rw [hx] at hy; simpa using hy
    subst this
    rw [← List.take_append_drop i l, hd, List.nodup_append] at h3
    exact h3.2.2 x h x (List.mem_cons_self ..) rfl
theorem set_next {l : List Int} {i : Nat} {x : Int} (hx : l[i]? = some x) (h : (∀ m ∈ l.take i, 1 ≤ m ∧ m ≤ 255) ∧ (l.take i).Nodup) (h1 : 1 ≤ x ∧ x ≤ 255) (h2 : x ∉ l.take i) :
    (∀ m ∈ l.take (i + 1), 1 ≤ m ∧ m ≤ 255) ∧ (l.take (i + 1)).Nodup := by
  rw [take_s hx]
  refine ⟨fun m hm => ?_, ?_⟩
  · rcases List.mem_append.1 hm with hm | hm
    · exact h.1 m hm
    · have : m = x := by simpa using hm
      rw [this]; exact h1
  · rw [List.nodup_append]
    refine ⟨h.2, by simp, fun a ha b hb e => ?_⟩
    have : b = x := by simpa using hb
    rw [← this, ← e] at h2
    exact h2 ha
end Sg
namespace Sg
open _root_.Go (IntKind BinOp UnOp)
set_option linter.unusedSimpArgs false
set_option linter.unusedVariables false
set_option maxRecDepth 10000
variable {Pg : Nat → Option Fn}
def rowB (b : UInt8) : List V := [.int .u8 b.toNat]
end Sg
namespace Sg
open _root_.Go (IntKind BinOp UnOp)
set_option linter.unusedSimpArgs false
set_option linter.unusedVariables false
set_option maxRecDepth 10000
variable {Pg : Nat → Option Fn}
def eTk (e : Int) : Option (Nat × List UInt8) → V
  | some (n, r) => .tuple [iz n, .str r, iz 0]
  | none => .tuple [iz 0, .str [], iz e]
def eTkT (e : Int) : Option (List UInt8 × List UInt8) → V
  | some (n, r) => .tuple [.str n, .str r, iz 0]
  | none => .tuple [.str [], .str [], iz e]
def eTkF (e : Int) : Option (Bool × List UInt8) → V
  | some (n, r) => .tuple [.bool n, .str r, iz 0]
  | none => .tuple [.bool false, .str [], iz e]
theorem and127 (b : UInt8) : IntKind.u8.wrap ((BitVec.ofInt 8 (b.toNat : Int) &&& BitVec.ofInt 8 127).toNat : Int) = ((b.toNat % 128 : Nat) : Int) := by
  have key : ∀ x : Fin 256, IntKind.u8.wrap ((BitVec.ofInt 8 ((x.1 : Nat) : Int) &&& BitVec.ofInt 8 127).toNat : Int) = ((x.1 % 128 : Nat) : Int) := by decide
  exact key ⟨b.toNat, b.toNat_lt⟩
theorem and127' (b : UInt8) : intBin .and .u8 (b.toNat : Int) 127 = some (.int .u8 ((b.toNat % 128 : Nat) : Int)) := congrArg (fun x => some (V.int .u8 x)) (and127 b)
theorem or_sh {acc d i : Nat} (ha : acc < 128 ^ i) (hd : d < 128) (hi : i ≤ 8) :
    IntKind.i64.wrap ((BitVec.ofInt 64 (acc : Int) ||| BitVec.ofInt 64 (IntKind.i64.wrap ((d : Int) * 2 ^ min (7 * i) 64))).toNat : Int) = ((acc + 128 ^ i * d : Nat) : Int) := by
  have hp : (128 : Nat) ^ i = 2 ^ (7 * i) := by rw [Nat.pow_mul]
  have hle : (2 : Nat) ^ (7 * i) ≤ 2 ^ 56 := Nat.pow_le_pow_right (by omega) (by omega)
  have hmul : 2 ^ (7 * i) * d < 2 ^ 63 := by
    have : 2 ^ (7 * i) * d ≤ 2 ^ 56 * 127 := Nat.mul_le_mul hle (by omega)
    omega
  rw [hp] at ha ⊢
  have e1 : ((d : Int) * 2 ^ min (7 * i) 64) = ((2 ^ (7 * i) * d : Nat) : Int) := by
    rw [Nat.min_eq_left (by omega)]
    simp [Int.mul_comm]
  have e3 : IntKind.i64.wrap ((2 ^ (7 * i) * d : Nat) : Int) = ((2 ^ (7 * i) * d : Nat) : Int) := wrap64 (by omega) (by omega)
  rw [e1, e3]
  have e2 : ∀ m : Nat, m < 2 ^ 63 → BitVec.ofInt 64 (m : Int) = BitVec.ofNat 64 m := fun m hm => by simp
  rw [e2 _ (by omega), e2 _ hmul, BitVec.toNat_or, BitVec.toNat_ofNat, BitVec.toNat_ofNat, Nat.mod_eq_of_lt (by omega), Nat.mod_eq_of_lt (by omega), Nat.or_comm, ← Nat.two_pow_add_eq_or_of_lt ha, Nat.add_comm]
  have hsum : acc + 2 ^ (7 * i) * d < 2 ^ 63 := by
    have h1 : 2 ^ (7 * i) * d + 2 ^ (7 * i) ≤ 2 ^ (7 * i) * 128 := by
      have := Nat.mul_le_mul (Nat.le_refl (2 ^ (7 * i))) (show d + 1 ≤ 128 by omega)
      rw [Nat.mul_add] at this; omega
    omega
  rw [wrap64 (by omega) (by omega)]
theorem or_sh' {acc d i : Nat} (ha : acc < 128 ^ i) (hd : d < 128) (hi : i ≤ 8) : intBin .or .i64 (acc : Int) (IntKind.i64.wrap ((d : Int) * 2 ^ min (7 * i) 64)) = some (iz ((acc + 128 ^ i * d : Nat) : Int)) :=
  congrArg (fun x => some (V.int .i64 x)) (or_sh ha hd hi)
def H505 (Pg : Nat → Option Fn) : Prop := Pg 505 = some (.code F505)
theorem K505 (h : H505 Pg) (s : List UInt8) (hs : s.length < 2 ^ 62) : ∃ e : Int, e ≠ 0 ∧ K' Pg 505 [.str s] = some (iz e) := by
  have key : K' Pg 505 [.str s] = some (iz (if s.any (fun b => decide (b.toNat < 128)) then 3 else 2)) := by
    refine K'_code h rfl ?_
    simp only [F505, c505, go_sem]
    unfold l505_0
    refine wp_lp (fun (i : Nat) S => i ≤ s.length ∧ S.ρ 0 = .str s ∧ S.ρ 5 = iz s.length ∧ S.ρ 6 = iz i ∧ ∀ b ∈ s.take i, ¬ b.toNat < 128) (fun i => s.length - i) 0 ?_ ?_
    · exact ⟨Nat.zero_le _, rfl, rfl, rfl, fun b hb => by simp at hb⟩
    · intro i S ⟨hi, s0, s5, s6, hpre⟩
      cases c1 : decide ((i : Int) < (s.length : Int)) with
      | false =>
        have : i = s.length := by have := of_decide_eq_false c1; omega
        subst this
        rw [List.take_length] at hpre
        have : s.any (fun b => decide (b.toNat < 128)) = false := by
          rw [List.any_eq_false]; intro b hb; simpa using hpre b hb
        simp only [go_sem, s0, s5, s6, c1, this]
      | true =>
        have hlt := lt_of c1
        obtain ⟨b, hb, -⟩ := drop_at hlt
        have hinc : IntKind.i64.wrap ((i : Int) + 1) = ((i + 1 : Nat) : Int) := by rw [wrap64 (by omega) (by omega)]; omega
        cases c2 : decide ((b.toNat : Int) < 128) with
        | true =>
          have : s.any (fun b => decide (b.toNat < 128)) = true := List.any_eq_true.2 ⟨b, List.mem_of_getElem? hb, decide_eq_true (by have := of_decide_eq_true c2; omega)⟩
          simp only [go_sem, s0, s5, s6, c1, hb, hlt, c2, this]
        | false =>
          simp only [go_sem, s0, s5, s6, c1, hb, hlt, c2, hinc]
          refine ⟨i + 1, by omega, by omega, rfl, fun x hx => ?_⟩
          rw [List.take_add_one, hb] at hx
          rcases List.mem_append.1 hx with hx | hx
          · exact hpre x hx
          · have : x = b := by simpa using hx
            subst this; have := of_decide_eq_false c2; omega
  refine ⟨_, ?_, key⟩
  split <;> decide
def cnt (i acc : Nat) (o : Option (Nat × List UInt8)) : Option (Nat × List UInt8) := o.bind fun q => if 0 < i ∧ q.1 = 0 then none else some (acc + 128 ^ i * q.1, q.2)
theorem cnt_0 (o : Option (Nat × List UInt8)) : cnt 0 0 o = o := by cases o <;> simp [cnt]
theorem cnt_step {i acc k : Nat} {b : UInt8} {s : List UInt8} (hb : 128 ≤ b.toNat) : cnt i acc (tk (k + 1) (b :: s)) = cnt (i + 1) (acc + 128 ^ i * (b.toNat % 128)) (tk k s) := by
  have hb2 := b.toNat_lt
  have hm : b.toNat % 128 = b.toNat - 128 := by omega
  simp only [tk, if_neg (show ¬ b.toNat < 128 by omega), hm]
  cases tk k s with
  | none => rfl
  | some q =>
    obtain ⟨n, r⟩ := q
    simp only [Option.bind_some, cnt]
    by_cases h0 : n = 0
    · simp [h0]
    · rw [if_neg h0]
      simp only [Option.bind_some]
      rw [if_neg (by omega), if_neg (by omega)]
      congr 2
      rw [Nat.pow_succ, Nat.mul_add, Nat.mul_assoc]
      omega
def tkE (el : Int) : Nat → List UInt8 → Int
  | _, [] => 2
  | i, b :: s => if 8 < i then (if 128 ≤ b.toNat ∨ 0 < b.toNat % 128 then el else 3) else if 128 ≤ b.toNat then tkE el (i + 1) s else 3
theorem tkE_ne {el : Int} (hel : el ≠ 0) : ∀ {i : Nat} {s : List UInt8}, tkE el i s ≠ 0
  | _, [] => by simp [tkE]
  | i, b :: s => by
    simp only [tkE]
    split
    · split
      · exact hel
      · decide
    · split
      · exact tkE_ne hel
      · decide
def H491 (Pg : Nat → Option Fn) : Prop := Pg 491 = some (.code F491) ∧ H505 Pg
theorem K491 (h : H491 Pg) (s : List UInt8) (hs : s.length < 2 ^ 62) : ∃ e : Int, e ≠ 0 ∧ K' Pg 491 [.str s] = some (eTk e (tk 9 s)) := by
  obtain ⟨h, h505⟩ := h
  obtain ⟨el, hel, k505⟩ := K505 h505 s hs
  refine ⟨tkE el 0 s, tkE_ne hel, ?_⟩
  refine K'_code h rfl ?_
  simp only [F491, c491, go_sem]
  have and127 := and127'
  simp only [go_sem, Option.some.injEq, V.int.injEq, true_and] at and127
  unfold l491_0
  refine wp_lp (fun (i : Nat) S => i ≤ s.length ∧ i ≤ 9 ∧ S.ρ 0 = .str s ∧ S.ρ 9 = iz s.length ∧ S.ρ 10 = iz i ∧ ∃ acc : Nat, acc < 128 ^ i ∧ S.ρ 5 = iz acc ∧ tk 9 s = cnt i acc (tk (9 - i) (s.drop i)) ∧ tkE el 0 s = tkE el i (s.drop i)) (fun i => s.length - i) 0 ?_ ?_
  · exact ⟨Nat.zero_le _, Nat.zero_le _, rfl, rfl, rfl, 0, by decide, rfl, (cnt_0 _).symm, rfl⟩
  · intro i S ⟨hi, hi9, s0, s9, s10, acc, hacc, s5, htk, hte⟩
    cases c1 : decide ((i : Int) < (s.length : Int)) with
    | false =>
      have : i = s.length := by have := of_decide_eq_false c1; omega
      subst this
      rw [List.drop_length] at htk hte
      have hval : eTk (tkE el 0 s) (tk 9 s) = .tuple [iz 0, .str [], iz 2] := by rw [htk, hte]; cases 9 - s.length <;> rfl
      simp only [go_sem, s0, s9, s10, c1, hval]
    | true =>
      have hlt := lt_of c1
      obtain ⟨b, hb, hdr⟩ := drop_at hlt
      rw [hdr] at htk hte
      have hinc : IntKind.i64.wrap ((i : Int) + 1) = ((i + 1 : Nat) : Int) := by rw [wrap64 (by omega) (by omega)]; omega
      have hmul : IntKind.i64.wrap (7 * (i : Int)) = ((7 * i : Nat) : Int) := by rw [wrap64 (by omega) (by omega)]; omega
      have hw7 : IntKind.i64.wrap ((b.toNat % 128 : Nat) : Int) = ((b.toNat % 128 : Nat) : Int) := wrap64 (by omega) (by omega)
      have hb2 := b.toNat_lt
      cases c2 : decide ((8 : Int) < i) with
      | true =>
        have h9 : i = 9 := by have := of_decide_eq_true c2; omega
        have e1 : tk 9 s = none := by rw [htk, show 9 - i = 0 by omega]; rfl
        have e2 : tkE el 0 s = if 128 ≤ b.toNat ∨ 0 < b.toNat % 128 then el else 3 := by rw [hte]; simp only [tkE]; rw [if_pos (by omega)]
        cases c3 : decide ((128 : Int) ≤ (b.toNat : Int)) with
        | true =>
          have hval : eTk (tkE el 0 s) (tk 9 s) = .tuple [iz 0, .str [], iz el] := by rw [e1, e2, if_pos (.inl (by have := of_decide_eq_true c3; omega))]; rfl
          simp only [go_sem, s0, s5, s9, s10, c1, c2, c3, hb, hlt, and127, hw7, k505, hval]
        | false =>
        cases c4 : decide ((0 : Int) < ((b.toNat % 128 : Nat) : Int)) with
        | true =>
          have hval : eTk (tkE el 0 s) (tk 9 s) = .tuple [iz 0, .str [], iz el] := by rw [e1, e2, if_pos (.inr (by have := of_decide_eq_true c4; omega))]; rfl
          simp only [go_sem, s0, s5, s9, s10, c1, c2, c3, c4, hb, hlt, and127, hw7, k505, hval]
        | false =>
          have c5 : decide (((b.toNat % 128 : Nat) : Int) = 0) = true := decide_eq_true (by have := of_decide_eq_false c4; omega)
          have c6 : decide ((0 : Int) < (i : Int)) = true := decide_eq_true (by omega)
          have hval : eTk (tkE el 0 s) (tk 9 s) = .tuple [iz 0, .str [], iz 3] := by rw [e1, e2, if_neg (by have := of_decide_eq_false c4; have := of_decide_eq_false c3; omega)]; rfl
          simp only [go_sem, s0, s5, s9, s10, c1, c2, c3, c4, c5, c6, hb, hlt, and127, hw7, k505, hval]
      | false =>
        have h8 : i ≤ 8 := by have := of_decide_eq_false c2; omega
        have hor := or_sh' (acc := acc) (d := b.toNat % 128) (i := i) hacc (by omega) h8
        simp only [go_sem, Option.some.injEq, V.int.injEq, true_and] at hor
        have hsh : shV .shl (iz ((b.toNat % 128 : Nat) : Int)) (iz ((7 * i : Nat) : Int)) = some (iz (IntKind.i64.wrap (((b.toNat % 128 : Nat) : Int) * 2 ^ min (7 * i) 64))) := by
          simp only [shV]; rw [if_neg (by omega)]; rfl
        have hnext : acc + 128 ^ i * (b.toNat % 128) < 128 ^ (i + 1) := by
          have := Nat.mul_le_mul (Nat.le_refl (128 ^ i)) (show b.toNat % 128 + 1 ≤ 128 by omega)
          rw [Nat.mul_add] at this
          rw [Nat.pow_succ]; omega
        cases c3 : decide ((128 : Int) ≤ (b.toNat : Int)) with
        | true =>
          have h128 : 128 ≤ b.toNat := by have := of_decide_eq_true c3; omega
          rw [show 9 - i = (8 - i) + 1 by omega, cnt_step h128, show 8 - i = 9 - (i + 1) by omega] at htk
          simp only [tkE] at hte
          rw [if_neg (by omega), if_pos h128] at hte
          simp only [go_sem, s0, s5, s9, s10, c1, c2, c3, hb, hlt, and127, hw7, hmul, hsh, hor, hinc]
          exact ⟨i + 1, by omega, by omega, by omega, rfl, _, hnext, rfl, htk, hte⟩
        | false =>
          have h128 : b.toNat < 128 := by have := of_decide_eq_false c3; omega
          have hmd : b.toNat % 128 = b.toNat := by omega
          have hle1 : i + 1 ≤ s.length := hlt
          have e0 : tk (9 - i) (b :: s.drop (i + 1)) = some (b.toNat, s.drop (i + 1)) := by
            rw [show 9 - i = (8 - i) + 1 by omega]; simp only [tk]; rw [if_pos h128]
          rw [e0] at htk
          simp only [tkE] at hte
          rw [if_neg (by omega), if_neg (by omega)] at hte
          cases c4 : decide (((b.toNat % 128 : Nat) : Int) = 0) with
          | true =>
            have h0 : b.toNat = 0 := by have := of_decide_eq_true c4; omega
            cases c5 : decide ((0 : Int) < (i : Int)) with
            | true =>
              have hval : eTk (tkE el 0 s) (tk 9 s) = .tuple [iz 0, .str [], iz 3] := by
                rw [htk, hte]
                simp only [cnt, Option.bind_some]
                rw [if_pos ⟨by have := of_decide_eq_true c5; omega, h0⟩]; rfl
              simp only [go_sem, s0, s5, s9, s10, c1, c2, c3, c4, c5, hb, hlt, and127, hw7, hmul, hsh, hor, hval]
            | false =>
              have hval : eTk (tkE el 0 s) (tk 9 s) = .tuple [iz ((acc + 128 ^ i * (b.toNat % 128) : Nat) : Int), .str (s.drop (i + 1)), iz 0] := by
                rw [htk]
                simp only [cnt, Option.bind_some]
                rw [if_neg (by have := of_decide_eq_false c5; omega), hmd]; rfl
              simp only [go_sem, s0, s5, s9, s10, c1, c2, c3, c4, c5, hb, hlt, and127, hw7, hmul, hsh, hor, hinc, hle1, List.take_length, hval]
          | false =>
            have hval : eTk (tkE el 0 s) (tk 9 s) = .tuple [iz ((acc + 128 ^ i * (b.toNat % 128) : Nat) : Int), .str (s.drop (i + 1)), iz 0] := by
              rw [htk]
              simp only [cnt, Option.bind_some]
              rw [if_neg (by have := of_decide_eq_false c4; omega), hmd]; rfl
            simp only [go_sem, s0, s5, s9, s10, c1, c2, c3, c4, hb, hlt, and127, hw7, hmul, hsh, hor, hinc, hle1, List.take_length, hval]
def H506 (Pg : Nat → Option Fn) : Prop := Pg 506 = some (.code F506) ∧ H491 Pg
theorem K506 (h : H506 Pg) (s : List UInt8) (hs : s.length < 2 ^ 62) : ∃ e : Int, e ≠ 0 ∧ K' Pg 506 [.str s] = some (eTkT e (tkT s)) := by
  obtain ⟨h, h491⟩ := h
  obtain ⟨e, he, k⟩ := K491 h491 s hs
  unfold tkT
  cases hq : tk 9 s with
  | none =>
    rw [hq] at k
    have hd : decide (e = 0) = false := decide_eq_false he
    refine ⟨e, he, K'_code h rfl ?_⟩
    simp only [eTk] at k
    simp only [F506, c506, go_sem, k, hd, Option.bind_none, eTkT]
  | some q =>
    obtain ⟨n, r⟩ := q
    rw [hq] at k
    simp only [eTk] at k
    simp only [Option.bind_some]
    have hn := tk_lt hq
    cases c1 : decide ((r.length : Int) < n) with
    | true =>
      refine ⟨2, by decide, K'_code h rfl ?_⟩
      have h1 : ¬ n ≤ r.length := by have := of_decide_eq_true c1; omega
      simp only [F506, c506, go_sem, k, c1, if_neg h1, eTkT]
    | false =>
      refine ⟨2, by decide, K'_code h rfl ?_⟩
      have h1 : n ≤ r.length := by have := of_decide_eq_false c1; omega
      simp only [F506, c506, go_sem, k, c1, h1, eTkT, List.take_length]
def H507 (Pg : Nat → Option Fn) : Prop := Pg 507 = some (.code F507)
theorem K507 (h : H507 Pg) (s : List UInt8) : ∃ e : Int, e ≠ 0 ∧ K' Pg 507 [.str s] = some (eTkF e (tkF s)) := by
  cases s with
  | nil =>
    refine ⟨2, by decide, K'_code h rfl ?_⟩
    simp only [F507, c507, go_sem, tkF, eTkF]
  | cons b s =>
    have h0 : idxV (.str (b :: s)) (.int .i64 0) = some (.int .u8 b.toNat) := rfl
    have hne : decide (b :: s = []) = false := rfl
    have e1 : decide ((b.toNat : Int) = 1) = decide (b.toNat = 1) := decide_eq_decide.2 (by omega)
    have hl1 : 1 ≤ s.length + 1 := by omega
    have htl : List.take (s.length + 1) (b :: s) = b :: s := by simp
    refine ⟨3, by decide, K'_code h rfl ?_⟩
    cases c1 : decide ((1 : Int) < b.toNat) with
    | true =>
      have h1 : ¬ b.toNat ≤ 1 := by have := of_decide_eq_true c1; omega
      simp only [F507, c507, go_sem, c1, h0, tkF, eTkF, if_neg h1]
    | false =>
      have h1 : b.toNat ≤ 1 := by have := of_decide_eq_false c1; omega
      simp only [F507, c507, go_sem, c1, h0, e1, hl1, htl, tkF, eTkF, if_pos h1, List.length_cons, List.drop_succ_cons, List.drop_zero]
end Sg
namespace Sg
open _root_.Go (IntKind BinOp UnOp)
set_option linter.unusedSimpArgs false
set_option linter.unusedVariables false
set_option maxRecDepth 10000
variable {Pg : Nat → Option Fn}
end Sg
namespace Sg
open _root_.Go (IntKind BinOp UnOp)
set_option linter.unusedSimpArgs false
set_option linter.unusedVariables false
variable {Pg : Nat → Option Fn}
structure Stamp where
  wall : Int
  tick : Int
  node : Int
  deriving DecidableEq
structure Ver where
  at_ : Stamp
  gone : Bool
  val : List UInt8
  deriving DecidableEq
@[go_sem] def eStamp (s : Stamp) : List V := [iz s.wall, iz s.tick, iz s.node]
@[go_sem] def eVer (v : Ver) : List V := [iz v.at_.wall, iz v.at_.tick, iz v.at_.node, .bool v.gone, .str v.val]
def eChain (c : List Ver) : V := .slice 5 (c.map eVer)
def within (a b : Int) : Bool := decide (0 ≤ a) && decide (a ≤ b)
def cmpI (a b : Int) : Int := if a < b then -1 else if b < a then 1 else 0
def orI : List Int → Int
  | [] => 0
  | a :: l => if a = 0 then orI l else a
def stampRight (s : Stamp) : Bool := within s.wall 1099511627776 && within s.tick 1048576 && within s.node 255
def stampCmp (a b : Stamp) : Int := orI [cmpI a.wall b.wall, cmpI a.tick b.tick, cmpI a.node b.node]
def verRight (v : Ver) : Bool := stampRight v.at_ && decide (v.val.length ≤ 16) && (!v.gone || decide (v.val = []))
def H32 (Pg : Nat → Option Fn) : Prop := Pg 32 = some (.code F32)
theorem K32 (h : H32 Pg) (a b : Int) : K' Pg 32 [iz a, iz b] = some (.bool (within a b)) := by
  refine K'_code h rfl ?_
  simp only [go_sem]
  refine wrg_it (fun h => ?_) (fun h => ?_) <;> simp only [go_sem, h, within]
def H31 (Pg : Nat → Option Fn) : Prop := Pg 31 = some (.code F31)
theorem K31 (h : H31 Pg) (a : Int) : K' Pg 31 [iz a] = some (.bool false) := by
  refine K'_code h rfl ?_
  simp only [go_sem]
def H26 (Pg : Nat → Option Fn) : Prop := Pg 26 = some (.code F26) ∧ H31 Pg
theorem K26 (h : H26 Pg) (a b : Int) : K' Pg 26 [iz a, iz b] = some (iz (cmpI a b)) := by
  obtain ⟨h, h31⟩ := h
  refine K'_code h rfl ?_
  have k31 := fun x => K31 h31 x
  simp only [go_sem, k31]
  repeat' (refine wpc_i (fun h => ?_) (fun h => ?_) <;> simp only [go_sem])
  all_goals simp_all [cmpI]
  omega
def H27 (Pg : Nat → Option Fn) : Prop := Pg 27 = some (.code F27)
theorem K27 (h : H27 Pg) (l : List Int) (hl : l.length < 2 ^ 60) : K' Pg 27 [.slice 1 (l.map fun a => [iz a])] = some (iz (orI l)) := by
  refine K'_code h rfl ?_
  simp only [go_sem]
  unfold l27_0
  refine wp_lp (fun (i : Nat) S => i ≤ l.length ∧ S.ρ 3 = iz 0 ∧ S.ρ 6 = .slice 1 (l.map fun a => [iz a]) ∧ S.ρ 7 = iz l.length ∧ S.ρ 8 = iz i ∧ orI (l.drop i) = orI l) (fun i => l.length - i) 0 ?_ ?_
  · simp [go_sem]
  · intro i S ⟨hi, h3, h6, h7, h8, ho⟩
    simp only [go_sem, h3, h6, h7, h8]
    refine wpc_i (fun h => ?_) (fun h => ?_)
    · simp only [decide_eq_true_eq, Int.ofNat_lt] at h
      obtain ⟨x, hx, hd⟩ := drop_at h
      simp only [go_sem, h3, h6, h7, h8, hx]
      refine wpc_i (fun h => ?_) (fun h => ?_)
      · simp only [go_sem]
        simp only [Bool.not_eq_true', decide_eq_false_iff_not] at h
        rw [← ho, hd]; simp [orI, h]
      · simp only [go_sem, h3, h6, h7, h8]
        simp only [Bool.not_eq_false', decide_eq_true_eq] at h
        refine ⟨i + 1, by omega, by omega, ?_, by rw [← ho, hd]; simp [orI, h]⟩
        rw [wrap64 (by omega) (by omega)]; rfl
    · simp only [decide_eq_false_iff_not, Int.ofNat_lt] at h
      simp only [go_sem, h3]
      have : i = l.length := by omega
      rw [← ho, this]; simp [orI]
def H15 (Pg : Nat → Option Fn) : Prop := Pg 15 = some (.code F15) ∧ H26 Pg ∧ H27 Pg
theorem K15 (h : H15 Pg) (a b : Stamp) : K' Pg 15 [.agg (eStamp a), .agg (eStamp b)] = some (iz (stampCmp a b)) := by
  obtain ⟨h, h26, h27⟩ := h
  refine K'_code h rfl ?_
  have k26 := fun x y => K26 h26 x y
  have k27 := K27 h27 [cmpI a.wall b.wall, cmpI a.tick b.tick, cmpI a.node b.node] (by simp)
  simp only [List.map_cons, List.map_nil] at k27
  simp only [go_sem, k26, k27, stampCmp]
def H28 (Pg : Nat → Option Fn) : Prop := Pg 28 = some (.code F28) ∧ H32 Pg
theorem K28 (h : H28 Pg) (a : Stamp) : K' Pg 28 [.agg (eStamp a)] = some (.bool (stampRight a)) := by
  obtain ⟨h, h32⟩ := h
  refine K'_code h rfl ?_
  have k := fun x y => K32 h32 x y
  simp only [go_sem, k]
  repeat' (refine wrg_it (fun h => ?_) (fun h => ?_) <;> simp only [go_sem, h, k, stampRight])
def H22 (Pg : Nat → Option Fn) : Prop := Pg 22 = some (.code F22) ∧ H28 Pg
theorem K22 (h : H22 Pg) (a : Ver) : K' Pg 22 [.agg (eVer a)] = some (.bool (verRight a)) := by
  obtain ⟨h, h28⟩ := h
  refine K'_code h rfl ?_
  have k := K28 h28 a.at_
  simp only [eStamp] at k
  simp only [go_sem, k]
  repeat' (first | refine wrg_it (fun h => ?_) (fun h => ?_) <;> simp only [go_sem, h, k] | refine wrg_if (fun h => ?_) (fun h => ?_) <;> simp only [go_sem, h, k])
  all_goals simp_all [verRight]
  all_goals omega
def chR : Option Ver → List Ver → Bool
  | _, [] => true
  | p, v :: l => verRight v && (match p with | none => true | some q => decide (stampCmp q.at_ v.at_ < 0)) && chR (some v) l
def chainRight (c : List Ver) : Bool := chR none c && decide (c.length ≤ 64)
def prevAt (c : List Ver) (i : Nat) : Option Ver := if i = 0 then none else c[i - 1]?
def H7 (Pg : Nat → Option Fn) : Prop := Pg 7 = some (.code F7) ∧ H22 Pg ∧ H15 Pg
theorem K7 (h : H7 Pg) (l : List Ver) (hl : l.length < 2 ^ 60) : K' Pg 7 [eChain l] = some (.bool (chainRight l)) := by
  obtain ⟨h, h22, h15⟩ := h
  refine K'_code h rfl ?_
  have k22 := fun x => K22 h22 x
  have k15 := fun x y => K15 h15 x y
  simp only [go_sem, eChain]
  unfold l7_0
  refine wp_lp (fun (i : Nat) S => i ≤ l.length ∧ S.ρ 0 = eChain l ∧ S.ρ 5 = eChain l ∧ S.ρ 6 = iz l.length ∧ S.ρ 7 = iz i ∧ S.μ 4 = none ∧ chR (prevAt l i) (l.drop i) = chR none l) (fun i => l.length - i) 0 ?_ ?_
  · simp [go_sem, eChain, prevAt]
  · intro i S ⟨hi, h0, h5, h6, h7, hm, ho⟩
    simp only [go_sem, h5, h6, h7, h0]
    refine wpc_i (fun h => ?_) (fun h => ?_)
    · simp only [decide_eq_true_eq, Int.ofNat_lt] at h
      obtain ⟨x, hx, hd⟩ := drop_at h
      simp only [eStamp, eVer] at k22 k15
      have hstep : (verRight x = true → chR (prevAt l i) (x :: l.drop (i + 1)) = ((match prevAt l i with | none => true | some q => decide (stampCmp q.at_ x.at_ < 0)) && chR (some x) (l.drop (i + 1)))) := fun h => by simp [chR, h]
      have hnext : prevAt l (i + 1) = some x := by simp [prevAt, hx]
      have hinc : IntKind.i64.wrap ((i : Int) + 1) = ((i + 1 : Nat) : Int) := wrap64 (by omega) (by omega)
      have hbad : verRight x = false → chR none l = false := fun h => by rw [← ho, hd]; simp [chR, h]
      cases hv : verRight x with
      | false => simp only [go_sem, h0, h5, h6, h7, hx, eChain, hm, k22, hv, Bool.not_false, chainRight, hbad hv]
      | true =>
        rcases Nat.eq_zero_or_pos i with hz | hz
        · have hgt : decide ((0 : Int) < (i : Int)) = false := by simp [hz]
          simp only [go_sem, h0, h5, h6, h7, hx, eChain, hm, k22, hv, Bool.not_true, hgt]
          refine ⟨i + 1, by omega, by omega, by rw [hinc], ?_⟩
          rw [hnext, ← ho, hd, hstep hv]; simp [prevAt, hz]
        · have hgt : decide ((0 : Int) < (i : Int)) = true := by simp [hz]
          have hdec : IntKind.i64.wrap ((i : Int) - 1) = ((i - 1 : Nat) : Int) := by rw [wrap64 (by omega) (by omega)]; omega
          have hy : l[i - 1]? = some l[i - 1] := by simp
          have hp : prevAt l i = some l[i - 1] := by simp [prevAt, Nat.ne_of_gt hz]
          simp only [go_sem, h0, h5, h6, h7, hx, eChain, hm, k22, hv, Bool.not_true, hgt, hdec, hy, k15]
          refine wpc_i (fun hc => ?_) (fun hc => ?_)
          · simp only [go_sem]
            have : ¬ stampCmp l[i - 1].at_ x.at_ < 0 := by simpa using hc
            have : chR none l = false := by rw [← ho, hd, hstep hv, hp]; simp [this]
            simp [chainRight, this]
          · simp only [go_sem, h0, h5, h6, h7, hm, eChain]
            have : stampCmp l[i - 1].at_ x.at_ < 0 := by simpa using hc
            refine ⟨i + 1, by omega, by omega, by rw [hinc], ?_⟩
            rw [hnext, ← ho, hd, hstep hv, hp]; simp [this]
    · simp only [decide_eq_false_iff_not, Int.ofNat_lt] at h
      simp only [go_sem, h0, eChain]
      have : i = l.length := by omega
      subst this
      simp [chR] at ho
      have : (decide ((l.length : Int) ≤ 64)) = decide (l.length ≤ 64) := decide_eq_decide.2 (by omega)
      simp [chainRight, ← ho, this]
def zeroVer : Ver := ⟨⟨0, 0, 0⟩, false, []⟩
end Sg
namespace Sg
open _root_.Go (IntKind BinOp UnOp)
set_option linter.unusedSimpArgs false
set_option linter.unusedVariables false
variable {Pg : Nat → Option Fn}
def before (a b : Stamp) : Bool := decide (stampCmp a b < 0)
end Sg
namespace Sg
open _root_.Go (IntKind BinOp UnOp)
set_option linter.unusedSimpArgs false
set_option linter.unusedVariables false
set_option maxRecDepth 10000
variable {Pg : Nat → Option Fn}
def stB (s : Stamp) : List UInt8 := putB s.wall.toNat ++ (putB s.tick.toNat ++ putB s.node.toNat)
def tkS (s : List UInt8) : Option (Stamp × List UInt8) := (tk 9 s).bind fun a => (tk 9 a.2).bind fun b => (tk 9 b.2).bind fun c => if stampRight ⟨a.1, b.1, c.1⟩ then some (⟨a.1, b.1, c.1⟩, c.2) else none
def eTkS (e : Int) : Option (Stamp × List UInt8) → V
  | some (n, r) => .tuple [.agg (eStamp n), .str r, iz 0]
  | none => .tuple [.agg [iz 0, iz 0, iz 0], .str [], iz e]
theorem stR {s : Stamp} : stampRight s = true ↔ (0 ≤ s.wall ∧ s.wall ≤ 1099511627776) ∧ (0 ≤ s.tick ∧ s.tick ≤ 1048576) ∧ (0 ≤ s.node ∧ s.node ≤ 255) := by
  simp only [stampRight, within, Bool.and_eq_true, decide_eq_true_eq]
  constructor
  · rintro ⟨⟨h1, h2⟩, h3⟩; exact ⟨h1, h2, h3⟩
  · rintro ⟨h1, h2, h3⟩; exact ⟨⟨h1, h2⟩, h3⟩
theorem tkS_iff {s r : List UInt8} {t : Stamp} : tkS s = some (t, r) ↔ s = stB t ++ r ∧ stampRight t = true := by
  unfold tkS stB
  constructor
  · intro h
    cases h1 : tk 9 s with
    | none => rw [h1] at h; cases h
    | some a =>
      rw [h1] at h; simp only [Option.bind_some] at h
      cases h2 : tk 9 a.2 with
      | none => rw [h2] at h; cases h
      | some b =>
        rw [h2] at h; simp only [Option.bind_some] at h
        cases h3 : tk 9 b.2 with
        | none => rw [h3] at h; cases h
        | some c =>
          rw [h3] at h; simp only [Option.bind_some] at h
          split at h
          · rename_i hr
            simp only [Option.some.injEq, Prod.mk.injEq] at h
            obtain ⟨rfl, rfl⟩ := h
            refine ⟨?_, hr⟩
            obtain ⟨a1, a2⟩ := a
            obtain ⟨b1, b2⟩ := b
            obtain ⟨c1, c2⟩ := c
            simp only at h2 h3 ⊢
            rw [(tk_of h1).1, (tk_of h2).1, (tk_of h3).1]
            simp
          · cases h
  · rintro ⟨rfl, h⟩
    obtain ⟨h1, h2, h3⟩ := stR.1 h
    have e1 : ((t.wall.toNat : Nat) : Int) = t.wall := by omega
    have e2 : ((t.tick.toNat : Nat) : Int) = t.tick := by omega
    have e3 : ((t.node.toNat : Nat) : Int) = t.node := by omega
    have ht : (⟨t.wall.toNat, t.tick.toNat, t.node.toNat⟩ : Stamp) = t := by rw [e1, e2, e3]
    rw [List.append_assoc, List.append_assoc, tk_put 9 _ _ (putB_9.2 (by omega))]
    simp only [Option.bind_some]
    rw [tk_put 9 _ _ (putB_9.2 (by omega))]
    simp only [Option.bind_some]
    rw [tk_put 9 _ _ (putB_9.2 (by omega))]
    simp only [Option.bind_some]
    rw [ht, if_pos h]
end Sg
namespace Sg
open _root_.Go (IntKind BinOp UnOp)
set_option linter.unusedSimpArgs false
set_option linter.unusedVariables false
set_option maxRecDepth 10000
variable {Pg : Nat → Option Fn}
def valS (nu : Nat → Nat) (i : Nat) : List V := [iz ((if 0 < i then nu 0 else 0 : Nat) : Int), iz ((if 1 < i then nu 1 else 0 : Nat) : Int), iz ((if 2 < i then nu 2 else 0 : Nat) : Int)]
theorem valS_set {S : St} {nu : Nat → Nat} {i : Nat} (hi : i < 3) : stV S 5 i [iz (nu i)] (some (valS nu i, false)) = some ⟨S.ρ, upd S.μ 5 (some (valS nu (i + 1), false)), S.A⟩ := by
  rcases (show i = 0 ∨ i = 1 ∨ i = 2 by omega) with rfl | rfl | rfl <;> rfl
def H490 (Pg : Nat → Option Fn) : Prop := Pg 490 = some (.code F490) ∧ H491 Pg ∧ H28 Pg
theorem K490g (h : Pg 490 = some (.code F490)) (h28 : H28 Pg) {rest : Nat → List UInt8} {nu : Nat → Nat} {m : Nat} {e : Int} (hm : m ≤ 3)
    (hk : ∀ i, i < m → K' Pg 491 [.str (rest i)] = some (.tuple [iz (nu i), .str (rest (i + 1)), iz 0])) (he : m < 3 → e ≠ 0 ∧ K' Pg 491 [.str (rest m)] = some (.tuple [iz 0, .str [], iz e])) :
    K' Pg 490 [.str (rest 0)] = some (eTkS (if m < 3 then e else 3) (if m < 3 then none else if stampRight ⟨nu 0, nu 1, nu 2⟩ then some (⟨nu 0, nu 1, nu 2⟩, rest 3) else none)) := by
  refine K'_code h rfl ?_
  have i0 : iadaV 1 3 (.lref 5 0) (.int .i64 0) = some (.lref 5 0) := rfl
  have i1 : iadaV 1 3 (.lref 5 0) (.int .i64 1) = some (.lref 5 1) := rfl
  have i2 : iadaV 1 3 (.lref 5 0) (.int .i64 2) = some (.lref 5 2) := rfl
  simp only [F490, c490, go_sem]
  unfold l490_0
  refine wp_lp (fun (i : Nat) S => i ≤ m ∧ S.ρ 0 = .str (rest i) ∧ S.ρ 2 = .lref 2 0 ∧ S.ρ 5 = .lref 5 0 ∧ S.ρ 11 = iz i ∧ S.μ 2 = some ([iz 0, iz 0, iz 0], false) ∧ S.μ 5 = some (valS nu i, false) ∧ S.μ 10 = none) (fun i => 3 - i) 0 ?_ ?_
  · exact ⟨Nat.zero_le _, rfl, rfl, rfl, rfl, rfl, rfl, rfl⟩
  · intro i S ⟨hi, s0, s2, s5, s11, m2, m5, m10⟩
    cases c1 : decide ((i : Int) < 3) with
    | false =>
      have h3 : i = 3 := by have := of_decide_eq_false c1; omega
      have hm3 : m = 3 := by omega
      rw [if_neg (by omega), if_neg (by omega)]
      rw [h3] at m5 s0
      have k28 := K28 h28 ⟨nu 0, nu 1, nu 2⟩
      have hv : valS nu 3 = [iz (nu 0), iz (nu 1), iz (nu 2)] := rfl
      rw [hv] at m5
      cases hst : stampRight ⟨nu 0, nu 1, nu 2⟩ with
      | true =>
        rw [hst] at k28
        simp only [go_sem] at k28
        simp only [go_sem, s0, s2, s5, s11, m2, m5, m10, c1, i0, i1, i2, k28, if_true, eTkS]
      | false =>
        rw [hst] at k28
        simp only [go_sem] at k28
        simp only [go_sem, s0, s2, s5, s11, m2, m5, m10, c1, i0, i1, i2, k28, Bool.false_eq_true, if_false, eTkS]
    | true =>
      have hi3 : i < 3 := by have := of_decide_eq_true c1; omega
      have hinc : IntKind.i64.wrap ((i : Int) + 1) = ((i + 1 : Nat) : Int) := by rw [wrap64 (by omega) (by omega)]; omega
      by_cases him : i < m
      · have k := hk i him
        have hst := fun S => valS_set (S := S) (nu := nu) hi3
        have hia : iadaV 1 3 (.lref 5 0) (iz (i : Int)) = some (.lref 5 i) := by
          rcases (show i = 0 ∨ i = 1 ∨ i = 2 by omega) with rfl | rfl | rfl <;> rfl
        simp only [go_sem, s0, s2, s5, s11, m2, m5, m10, c1, k, hst, hia, hinc]
        exact ⟨i + 1, by omega, by omega, rfl, rfl, rfl⟩
      · have hime : i = m := by omega
        obtain ⟨e0, k⟩ := he (by omega)
        rw [← hime] at k
        have hd : decide (e = 0) = false := decide_eq_false e0
        rw [if_pos (by omega), if_pos (by omega)]
        simp only [go_sem, s0, s2, s5, s11, m2, m5, m10, c1, k, hd, eTkS]
theorem K490 (h : H490 Pg) (s : List UInt8) (hs : s.length < 2 ^ 62) : ∃ e : Int, e ≠ 0 ∧ K' Pg 490 [.str s] = some (eTkS e (tkS s)) := by
  obtain ⟨h, h491, h28⟩ := h
  obtain ⟨e, he, k⟩ := K491 h491 s hs
  unfold tkS
  cases hq : tk 9 s with
  | none =>
    rw [hq] at k
    exact ⟨e, he, by
      have := K490g h h28 (rest := fun _ => s) (nu := fun _ => 0) (m := 0) (e := e) (by omega) (fun i hi => by omega) (fun _ => ⟨he, k⟩)
      exact this⟩
  | some q =>
    obtain ⟨n, r⟩ := q
    rw [hq] at k
    have hr : r.length < 2 ^ 62 := by have := congrArg List.length (tk_of hq).1; simp at this; omega
    obtain ⟨e', he', k'⟩ := K491 h491 r hr
    simp only [Option.bind_some]
    cases hq' : tk 9 r with
    | none =>
      rw [hq'] at k'
      exact ⟨e', he', by
        have := K490g h h28 (rest := fun i => if i = 0 then s else r) (nu := fun _ => n) (m := 1) (e := e') (by omega) (fun i hi => by
          have h0 : i = 0 := by omega
          subst h0
          exact k) (fun _ => ⟨he', k'⟩)
        exact this⟩
    | some q' =>
      obtain ⟨n', r'⟩ := q'
      rw [hq'] at k'
      simp only [Option.bind_some]
      have hr' : r'.length < 2 ^ 62 := by have := congrArg List.length (tk_of hq').1; simp at this; omega
      obtain ⟨e'', he'', k''⟩ := K491 h491 r' hr'
      cases hq'' : tk 9 r' with
      | none =>
        rw [hq''] at k''
        exact ⟨e'', he'', by
          have := K490g h h28 (rest := fun i => if i = 0 then s else if i = 1 then r else r') (nu := fun i => if i = 0 then n else n') (m := 2) (e := e'') (by omega) (fun i hi => by
            rcases (show i = 0 ∨ i = 1 by omega) with rfl | rfl
            · exact k
            · exact k') (fun _ => ⟨he'', k''⟩)
          exact this⟩
      | some q'' =>
        obtain ⟨n'', r''⟩ := q''
        rw [hq''] at k''
        exact ⟨3, by decide, by
          have := K490g h h28 (rest := fun i => if i = 0 then s else if i = 1 then r else if i = 2 then r' else r'') (nu := fun i => if i = 0 then n else if i = 1 then n' else n'') (m := 3) (e := 3) (by omega) (fun i hi => by
            rcases (show i = 0 ∨ i = 1 ∨ i = 2 by omega) with rfl | rfl | rfl
            · exact k
            · exact k'
            · exact k'') (fun h => by omega)
          exact this⟩
end Sg
namespace Sg
open _root_.Go (IntKind BinOp UnOp)
set_option linter.unusedSimpArgs false
set_option linter.unusedVariables false
variable {Pg : Nat → Option Fn}
def H64 (Pg : Nat → Option Fn) : Prop := Pg 64 = some (.code F64) ∧ H65 Pg
theorem K64 (h : H64 Pg) (l : List Int) (hl : l.length < 2 ^ 60) : K' Pg 64 [eInts l] = some (.bool (decide (SetP l))) := by
  obtain ⟨h, h65⟩ := h
  refine K'_code h rfl ?_
  simp only [go_sem]
  unfold l64_0
  refine wp_lp (fun (i : Nat) S => i ≤ l.length ∧ S.ρ 0 = eInts l ∧ S.ρ 5 = eInts l ∧ S.ρ 6 = iz l.length ∧ S.ρ 7 = iz i ∧ (∀ m ∈ l.take i, 1 ≤ m ∧ m ≤ 255) ∧ (l.take i).Nodup) (fun i => l.length - i) 0 ?_ ?_
  · simp [go_sem]
  · intro i S ⟨hi, h0, h5, h6, h7, ho1, ho2⟩
    simp only [go_sem, h0, h5, h6, h7]
    refine wpc_i (fun h => ?_) (fun h => ?_)
    · have h := lt_of h
      obtain ⟨x, hx, hd⟩ := drop_at h
      have bad : ¬ (1 ≤ x ∧ x ≤ 255) → ¬ SetP l := fun e => set_bad hx (.inl e)
      have k65 := K65 h65 (l.take i) x (by simp; omega)
      simp only [eInts, List.map_take] at k65
      simp only [go_sem, h0, h5, h6, h7, hx]
      refine wrg_if (fun hc => ?_) (fun hc => ?_)
      · have h1 : ¬ x < 1 := of_decide_eq_false hc
        simp only [go_sem, h0, h5, h6, h7, hx, hi, h1]
        refine wrg_if (fun hc => ?_) (fun hc => ?_)
        · have h2 : ¬ 255 < x := of_decide_eq_false hc
          simp only [go_sem, h0, h5, h6, h7, hx, hi, h1, h2, k65]
          refine wpc_i (fun hc => ?_) (fun hc => ?_)
          · have hs : ¬ SetP l := set_bad hx (.inr (of_decide_eq_true hc))
            simp only [go_sem, hs]
          · have hn := set_next hx ⟨ho1, ho2⟩ (by omega) (of_decide_eq_false hc)
            simp only [go_sem, h0, h5, h6, h7]
            exact ⟨i + 1, by omega, by omega, by rw [inc64 h hl], hn.1, hn.2⟩
        · have h2 : 255 < x := of_decide_eq_true hc
          have hs : ¬ SetP l := bad (by omega)
          simp only [go_sem, h0, h5, h6, h7, hx, hi, h1, h2, hs]
      · have h1 : x < 1 := of_decide_eq_true hc
        have hs : ¬ SetP l := bad (by omega)
        simp only [go_sem, h0, h5, h6, h7, hx, h1, hs]
    · have h := eq_of hi h
      rw [take_all h] at ho1 ho2
      simp only [go_sem, h0]
      have : decide ((l.length : Int) ≤ 8) = decide (SetP l) := decide_eq_decide.2 ⟨fun e => ⟨by omega, ho1, ho2⟩, fun e => by have := e.1; omega⟩
      rw [this]
end Sg
namespace Sg
open _root_.Go (IntKind BinOp UnOp)
set_option linter.unusedSimpArgs false
set_option linter.unusedVariables false
variable {Pg : Nat → Option Fn}
structure Rep where
  id : Int
  view : Int
  members : List Int
  n : Int
  base : List UInt8
  text : List UInt8
  acks : List Int
  deriving DecidableEq
structure Word where
  kind : Int
  frm : Int
  to : Int
  view : Int
  n : Int
  members : List Int
  text : List UInt8
  deriving DecidableEq
@[go_sem] def eRep (r : Rep) : List V := [iz r.id, iz r.view, eInts r.members, iz r.n, .str r.base, .str r.text, eInts r.acks]
@[go_sem] def eWord (r : Word) : List V := [iz r.kind, iz r.frm, iz r.to, iz r.view, iz r.n, eInts r.members, .str r.text]
@[go_sem] def eWords (l : List Word) : V := .slice 7 (l.map eWord)
structure Rep.Ok (r : Rep) : Prop where
  m : r.members.length < 2 ^ 60
  a : r.acks.length < 2 ^ 60
def numG (n least : Int) : Bool := decide (least ≤ n) && decide (n ≤ 1099511627776)
def H63 (Pg : Nat → Option Fn) : Prop := Pg 63 = some (.code F63)
theorem K63 (h : H63 Pg) (n least : Int) : K' Pg 63 [iz n, iz least] = some (.bool (numG n least)) := by
  refine K'_code h rfl ?_
  simp only [go_sem]
  refine wrg_it (fun h => ?_) (fun h => ?_) <;> simp only [go_sem, h, numG]
def leadsR (r : Rep) : Bool := match r.members with | [] => false | m :: _ => decide (m = r.id)
def H68 (Pg : Nat → Option Fn) : Prop := Pg 68 = some (.code F68)
theorem K68 (h : H68 Pg) (r : Rep) : K' Pg 68 [.agg (eRep r)] = some (.bool (leadsR r)) := by
  refine K'_code h rfl ?_
  obtain ⟨id, view, members, n, base, text, acks⟩ := r
  cases members with
  | nil => simp only [go_sem, leadsR]
  | cons m l =>
    have h0 : iadV 1 (V.slice 1 ([iz m] :: List.map (fun a => [iz a]) l)) (iz 0) = some (.cptr [iz m] 0) := rfl
    simp only [go_sem, leadsR, pos_len, h0]
def allR (r : Rep) : Bool := r.members.all fun m => decide (m ∈ r.acks)
def rightB (r : Rep) : Bool :=
  !(decide (r.id < 1) || (decide (255 < r.id) || ((!decide (r.view = 0) && !numG r.view 1) || ((!decide (r.n = 0) && !numG r.n 1) || (!decide (SetP r.members) || !decide (SetP r.acks)))))) &&
    (r.acks.all (fun m => decide (m ∈ r.members)) && (!(decide ((0 : Int) < (r.members.length : Int)) && !decide (r.id ∈ r.members)) &&
    (bif leadsR r then decide (r.id ∈ r.acks) && (!allR r || decide (r.base = r.text)) else decide ((r.acks.length : Int) = 0) && decide (r.base = r.text))))
end Sg
namespace Sg
open _root_.Go (IntKind BinOp UnOp)
set_option linter.unusedSimpArgs false
set_option linter.unusedVariables false
variable {Pg : Nat → Option Fn}
theorem nodup_len : ∀ {l m : List Int}, l.Nodup → (∀ x ∈ l, x ∈ m) → l.length ≤ m.length
  | [], m, _, _ => by simp
  | a :: l, m, h, hs => by
    rw [List.nodup_cons] at h
    have ha := hs a (List.mem_cons_self ..)
    have h1 := nodup_len (l := l) (m := m.erase a) h.2 (fun x hx => by
      have hne : x ≠ a := fun e => h.1 (e ▸ hx)
      exact (List.mem_erase_of_ne hne).2 (hs x (List.mem_cons_of_mem _ hx)))
    have h2 := List.length_erase_of_mem ha
    have h3 : 0 < m.length := List.length_pos_of_mem ha
    simp only [List.length_cons]; omega
theorem all_len {r : Rep} (hm : SetP r.members) (ha : SetP r.acks) (hs : ∀ x ∈ r.acks, x ∈ r.members) : decide ((r.acks.length : Int) < (r.members.length : Int)) = !allR r := by
  cases h : allR r with
  | true =>
    have : ∀ x ∈ r.members, x ∈ r.acks := by simpa [allR] using h
    have := nodup_len hm.2.2 this
    simp; omega
  | false =>
    obtain ⟨x, hx, hn⟩ : ∃ x, x ∈ r.members ∧ x ∉ r.acks := by simpa [allR] using h
    have := nodup_len (l := x :: r.acks) (m := r.members) (List.nodup_cons.2 ⟨hn, ha.2.2⟩) (fun y hy => by
      rcases List.mem_cons.1 hy with rfl | hy
      · exact hx
      · exact hs y hy)
    simp only [List.length_cons] at this
    simp; omega
def rightG (r : Rep) : Bool :=
  !(decide (r.id < 1) || (decide (255 < r.id) || (!numG r.view 0 || (!numG r.n 0 || (!decide (SetP r.members) || !decide (SetP r.acks)))))) &&
    (!(decide ((0 : Int) < (r.members.length : Int)) && !decide (r.id ∈ r.members)) && (!(r.acks.any (fun m => !decide (m ∈ r.members))) &&
    (bif leadsR r then decide (r.id ∈ r.acks) && (decide ((r.acks.length : Int) < (r.members.length : Int)) || decide (r.base = r.text)) else decide ((r.acks.length : Int) = 0) && decide (r.base = r.text))))
theorem num0 {n : Int} : (!decide (n = 0) && !numG n 1) = !numG n 0 := by
  simp only [numG]
  by_cases h1 : n = 0
  · subst h1; decide
  · have : decide (1 ≤ n) = decide (0 ≤ n) := decide_eq_decide.2 (by omega)
    simp [h1, this]
theorem rightG_eq (r : Rep) : rightG r = rightB r := by
  unfold rightG rightB
  rw [num0, num0]
  have hall : (!(r.acks.any (fun m => !decide (m ∈ r.members)))) = r.acks.all (fun m => decide (m ∈ r.members)) := by
    rw [List.all_eq_not_any_not]
  rw [hall]
  by_cases hm : SetP r.members
  · by_cases ha : SetP r.acks
    · cases hs : r.acks.all (fun m => decide (m ∈ r.members)) with
      | true => rw [all_len hm ha (by simpa using hs)]; simp only [Bool.true_and]
      | false => simp
    · simp [ha]
  · simp [hm]
def H66 (Pg : Nat → Option Fn) : Prop := Pg 66 = some (.code F66) ∧ H65 Pg
theorem K66 (h : H66 Pg) (r : Rep) (m : Int) (ok : r.Ok) : K' Pg 66 [iz m, .cptr (eRep r) 0] = some (.bool (!decide (m ∈ r.members))) := by
  obtain ⟨h, h65⟩ := h
  have k65 := K65 h65 r.members m ok.m
  simp only [eInts] at k65
  refine K'_code h rfl ?_
  simp only [go_sem, k65]
def H39 (Pg : Nat → Option Fn) : Prop := Pg 39 = some (.code F39) ∧ H63 Pg ∧ H64 Pg ∧ H65 Pg ∧ H66 Pg ∧ H67 Pg ∧ H68 Pg
theorem K39 (h : H39 Pg) (r : Rep) (ok : r.Ok) : K' Pg 39 [.agg (eRep r)] = some (.bool (rightB r)) := by
  rw [← rightG_eq]
  obtain ⟨h, h63, h64, h65, h66, h67, h68⟩ := h
  have k63 := fun x y => K63 h63 x y
  have k64m := K64 h64 r.members ok.m
  have k64a := K64 h64 r.acks ok.a
  have k65m := fun x => K65 h65 r.members x ok.m
  have k65a := fun x => K65 h65 r.acks x ok.a
  have k68 := K68 h68 r
  have k67 := K67 h67 r.acks 66 [.cptr (eRep r) 0] (fun m => !decide (m ∈ r.members)) ok.a rfl (fun x _ => K66 h66 r x ok)
  simp only [eInts, eRep] at k63 k64m k64a k65m k65a k68 k67
  refine K'_code h rfl ?_
  simp only [go_sem, k63, k64m, k64a, k65m, k65a, k68]
  repeat' (first | refine wrg_if (fun h => ?_) (fun h => ?_) <;> simp only [go_sem, h, k63, k64m, k64a, k65m, k65a, k68, k67, List.all_cons, List.all_nil] | refine wrg_it (fun h => ?_) (fun h => ?_) <;> simp only [go_sem, h, k63, k64m, k64a, k65m, k65a, k68, k67] | refine wpc_i (fun h => ?_) (fun h => ?_) <;> simp only [go_sem, h, k63, k64m, k64a, k65m, k65a, k68, k67])
  
  all_goals (simp_all only [rightG, Bool.not_eq_true', Bool.not_eq_false', Bool.not_true, Bool.not_false, Bool.or_true, Bool.true_or, Bool.or_false, Bool.false_or, Bool.and_true, Bool.true_and, Bool.and_false, Bool.false_and, cond_true, cond_false]; done)
end Sg
namespace Sg
open _root_.Go (IntKind BinOp UnOp)
set_option linter.unusedSimpArgs false
set_option linter.unusedVariables false
variable {Pg : Nat → Option Fn}
def H40 (Pg : Nat → Option Fn) : Prop := Pg 40 = some (.code F40) ∧ H39 Pg ∧ H68 Pg
theorem K40 (h : H40 Pg) (r : Rep) (ok : r.Ok) : K' Pg 40 [.agg (eRep r)] = some (.bool (rightB r && leadsR r)) := by
  obtain ⟨h, h39, h68⟩ := h
  have k39 := K39 h39 r ok
  have k68 := K68 h68 r
  simp only [eInts, eRep] at k39 k68
  refine K'_code h rfl ?_
  simp only [go_sem, k39, k68]
  refine wrg_it (fun h => ?_) (fun h => ?_) <;> simp only [go_sem, h, k68]
def busyR (r : Rep) : Bool := rightB r && (leadsR r && !allR r)
theorem right_parts {r : Rep} (h : rightB r = true) : SetP r.members ∧ SetP r.acks ∧ (∀ x ∈ r.acks, x ∈ r.members) ∧ 1 ≤ r.id ∧ r.id ≤ 255 ∧ 0 ≤ r.view ∧ r.view ≤ 1099511627776 ∧ 0 ≤ r.n ∧ r.n ≤ 1099511627776 := by
  rw [← rightG_eq] at h
  simp only [rightG, numG, Bool.and_eq_true, Bool.not_eq_true', Bool.or_eq_false_iff, Bool.and_eq_false_iff, Bool.not_eq_false', Bool.not_eq_true', decide_eq_true_eq, decide_eq_false_iff_not] at h
  obtain ⟨⟨h1, h2, h3, h4, h5, h6⟩, h7, h8, -⟩ := h
  refine ⟨h5, h6, by simpa using h8, ?_⟩
  omega
theorem right_len {r : Rep} (h : rightB r = true) : decide ((r.acks.length : Int) < (r.members.length : Int)) = !allR r := by
  obtain ⟨h1, h2, h3, -⟩ := right_parts h
  exact all_len h1 h2 h3
def H41 (Pg : Nat → Option Fn) : Prop := Pg 41 = some (.code F41) ∧ H40 Pg
theorem K41 (h : H41 Pg) (r : Rep) (ok : r.Ok) : K' Pg 41 [.agg (eRep r)] = some (.bool (busyR r)) := by
  obtain ⟨h, h40⟩ := h
  have k40 := K40 h40 r ok
  simp only [eInts, eRep] at k40
  refine K'_code h rfl ?_
  simp only [go_sem, k40]
  refine wrg_it (fun h => ?_) (fun h => ?_) <;> simp only [go_sem, h, k40]
  · simp only [Bool.and_eq_true] at h
    rw [right_len h.1]; simp only [busyR, h.1, h.2, Bool.true_and]
  · rw [busyR, ← Bool.and_assoc, h]; rfl
def fixR (r : Rep) : Rep := if r.acks.length = r.members.length then { r with base := r.text } else r
def H71 (Pg : Nat → Option Fn) : Prop := Pg 71 = some (.code F71)
theorem K71 (h : H71 Pg) (r : Rep) : K' Pg 71 [.agg (eRep r)] = some (.agg (eRep (fixR r))) := by
  refine K'_code h rfl ?_
  simp only [go_sem]
  refine wpc_i (fun h => ?_) (fun h => ?_)
  · have h : r.acks.length = r.members.length := by have := of_decide_eq_true h; omega
    simp only [go_sem, fixR, h]
  · have h : ¬ r.acks.length = r.members.length := by have := of_decide_eq_false h; omega
    simp only [go_sem, fixR, h]
def H45 (Pg : Nat → Option Fn) : Prop := Pg 45 = some (.code F45) ∧ H70 Pg
theorem K45 (h : H45 Pg) (r : Rep) (ok : r.Ok) : K' Pg 45 [.agg (eRep r), .agg (eRep r)] = some (.bool true) := by
  obtain ⟨h, h70⟩ := h
  have k70m := K70 h70 r.members r.members ok.m
  have k70a := K70 h70 r.acks r.acks ok.a
  simp only [eInts, decide_true] at k70m k70a
  refine K'_code h rfl ?_
  simp only [go_sem, k70m, k70a]
def H69 (Pg : Nat → Option Fn) : Prop := Pg 69 = some (.prim (some 0) (cloneQ 1))
theorem K69 (h : H69 Pg) (l : List Int) (hl : l.length ≤ 1000000000) : K' Pg 69 [eInts l] = some (eInts l) := by
  rw [K'_prim h]; simp [cloneQ, eInts, lim]; omega
def shipsR (r : Rep) : List Word := (r.members.filter fun m => !decide (m ∈ r.acks)).map fun m => ⟨1, r.id, m, r.view, r.n, r.members, r.text⟩
end Sg
namespace Sg
open _root_.Go (IntKind BinOp UnOp)
set_option linter.unusedSimpArgs false
set_option linter.unusedVariables false
variable {Pg : Nat → Option Fn}
def zeroRep : Rep := ⟨0, 0, [], 0, [], [], []⟩
@[go_sem] def eRWE (x : Rep × List Word × Int) : V := .tuple [.agg (eRep x.1), eWords x.2.1, iz x.2.2]
@[go_sem] def eRW (x : Rep × List Word) : V := .tuple [.agg (eRep x.1), eWords x.2]
@[go_sem] def eRE (x : Rep × Int) : V := .tuple [.agg (eRep x.1), iz x.2]
def proposeR (r : Rep) (t : List UInt8) : Rep × List Word × Int :=
  if rightB r then (if leadsR r then (if allR r then (if r.n = 1099511627776 then (zeroRep, [], 6) else
    (fixR ⟨r.id, r.view, r.members, r.n + 1, r.base, t, [r.id]⟩, shipsR ⟨r.id, r.view, r.members, r.n + 1, r.base, t, [r.id]⟩, 0)) else (zeroRep, [], 11)) else (zeroRep, [], 10)) else (zeroRep, [], 1)
end Sg
namespace Sg
open _root_.Go (IntKind BinOp UnOp)
set_option linter.unusedSimpArgs false
set_option linter.unusedVariables false
variable {Pg : Nat → Option Fn}
def leadGood (r : Rep) (view : Int) (l : List Int) : Prop := rightB r = true ∧ SetP l ∧ l.head? = some r.id ∧ 1 ≤ view ∧ view ≤ 1099511627776
instance (r : Rep) (view : Int) (l : List Int) : Decidable (leadGood r view l) := inferInstanceAs (Decidable (_ ∧ _ ∧ _ ∧ _ ∧ _))
def leadNew (r : Rep) (view : Int) (l : List Int) : Rep := ⟨r.id, view, l, r.n + 1, r.text, r.text, [r.id]⟩
def leadR (r : Rep) (view : Int) (l : List Int) : Rep × List Word × Int :=
  if leadGood r view l then (if view = r.view ∧ leadsR r = true then (r, shipsR r, 0) else if view ≠ r.view + 1 ∨ r.members = [] then (zeroRep, [], 10) else if r.n = 1099511627776 then (zeroRep, [], 6)
    else (leadNew r view l, shipsR (leadNew r view l), 0)) else (zeroRep, [], 1)
def membR (l : List Int) (id leader : Int) : Bool := decide (SetP l) && (decide (id ∈ l) && decide (l.head? = some leader))
def H73 (Pg : Nat → Option Fn) : Prop := Pg 73 = some (.code F73) ∧ H64 Pg ∧ H65 Pg
theorem K73 (h : H73 Pg) (l : List Int) (id leader : Int) (hl : l.length ≤ 10000) : K' Pg 73 [eInts l, iz id, iz leader] = some (.bool (membR l id leader)) := by
  obtain ⟨h, h64, h65⟩ := h
  have k64 := K64 h64 l (by omega)
  have k65 := fun x => K65 h65 l x (by omega)
  refine K'_code h rfl ?_
  cases l with
  | nil => simp only [go_sem, membR, List.not_mem_nil, decide_false]
  | cons m l =>
    have h0 : iadV 1 (V.slice 1 ([iz m] :: List.map (fun a => [iz a]) l)) (iz 0) = some (.cptr [iz m] 0) := rfl
    simp only [eInts, List.map_cons] at k64 k65
    cases h1 : decide (SetP (m :: l)) with
    | false => simp only [go_sem, pos_len, k64, k65, h1, membR]
    | true =>
      cases h2 : decide (id ∈ m :: l) <;> simp only [go_sem, pos_len, k64, k65, h0, h1, h2, membR, List.head?_cons, Option.some.injEq]
end Sg
namespace Sg
open _root_.Go (IntKind BinOp UnOp)
set_option linter.unusedSimpArgs false
set_option linter.unusedVariables false
set_option maxRecDepth 10000
variable {Pg : Nat → Option Fn}
def shipN (r : Rep) (w : Word) : Rep := ⟨r.id, w.view, w.members, w.n, w.text, w.text, []⟩
def shipT (r : Rep) (w : Word) : Rep × List Word :=
  if w.view < r.view then (r, [⟨3, r.id, w.frm, r.view, 0, [], []⟩])
  else if w.view = r.view ∧ (leadsR r = true ∨ w.n < r.n) then (r, [])
  else if w.view ≠ r.view ∨ r.n < w.n then (shipN r w, [⟨2, r.id, w.frm, w.view, w.n, [], []⟩])
  else (r, [⟨2, r.id, w.frm, r.view, r.n, [], []⟩])
def shipR (r : Rep) (w : Word) : Rep × List Word :=
  if decide (w.frm = r.id) then (r, []) else if membR w.members r.id w.frm then (if numG w.view 1 then (if numG w.n 1 then shipT r w else (r, [])) else (r, [])) else (r, [])
def H74 (Pg : Nat → Option Fn) : Prop := Pg 74 = some (.code F74) ∧ H73 Pg ∧ H63 Pg ∧ H68 Pg ∧ H69 Pg
theorem K74 (h : H74 Pg) (r : Rep) (w : Word) (hw : w.members.length ≤ 10000) : K' Pg 74 [.agg (eRep r), .agg (eWord w)] = some (eRW (shipR r w)) := by
  obtain ⟨h, h73, h63, h68, h69⟩ := h
  have k73 := K73 h73 w.members r.id w.frm hw
  have k63v := K63 h63 w.view 1
  have k63n := K63 h63 w.n 1
  have k68 := K68 h68 r
  have k69 := K69 h69 w.members (by omega)
  simp only [eInts, eRep] at k73 k63v k63n k68 k69
  refine K'_code h rfl ?_
  cases c1 : decide (w.frm = r.id) with
  | true => simp only [go_sem, c1, shipR]
  | false =>
  cases c2 : membR w.members r.id w.frm with
  | false => simp only [go_sem, c1, k73, c2, shipR]
  | true =>
  cases c3 : numG w.view 1 with
  | false => simp only [go_sem, c1, k73, c2, k63v, c3, shipR]
  | true =>
  cases c4 : numG w.n 1 with
  | false => simp only [go_sem, c1, k73, c2, k63v, c3, k63n, c4, shipR]
  | true =>
  have e : shipR r w = shipT r w := by simp only [shipR, c1, c2, c3, c4]; rfl
  rw [e]
  by_cases d1 : w.view < r.view
  · have e : shipT r w = (r, [⟨3, r.id, w.frm, r.view, 0, [], []⟩]) := by simp only [shipT, d1, if_true]
    rw [e]
    simp only [go_sem, c1, k73, c2, k63v, c3, k63n, c4, d1]
  · by_cases d2 : w.view = r.view
    · have d2' := decide_eq_true d2
      cases hl : leadsR r with
      | true =>
        have e : shipT r w = (r, []) := by simp only [shipT]; rw [if_neg d1, if_pos ⟨d2, .inl hl⟩]
        rw [e]
        simp only [go_sem, c1, k73, c2, k63v, c3, k63n, c4, d1, d2', k68, hl]
      | false =>
        by_cases d3 : w.n < r.n
        · have e : shipT r w = (r, []) := by simp only [shipT]; rw [if_neg d1, if_pos ⟨d2, .inr d3⟩]
          rw [e]
          simp only [go_sem, c1, k73, c2, k63v, c3, k63n, c4, d1, d2', k68, hl, d3]
        · by_cases d4 : r.n < w.n
          · have e : shipT r w = (shipN r w, [⟨2, r.id, w.frm, w.view, w.n, [], []⟩]) := by simp only [shipT]; rw [if_neg d1, if_neg (by rw [hl]; simp; omega), if_pos (.inr d4)]
            rw [e]
            simp only [go_sem, c1, k73, c2, k63v, c3, k63n, c4, d1, d2', k68, hl, d3, d4, k69, shipN]
          · have e : shipT r w = (r, [⟨2, r.id, w.frm, r.view, r.n, [], []⟩]) := by simp only [shipT]; rw [if_neg d1, if_neg (by rw [hl]; simp; omega), if_neg (by omega)]
            rw [e]
            simp only [go_sem, c1, k73, c2, k63v, c3, k63n, c4, d1, d2', k68, hl, d3, d4, k69]
    · have d2' := decide_eq_false d2
      have e : shipT r w = (shipN r w, [⟨2, r.id, w.frm, w.view, w.n, [], []⟩]) := by simp only [shipT]; rw [if_neg d1, if_neg (fun x => d2 x.1), if_pos (.inl d2)]
      rw [e]
      simp only [go_sem, c1, k73, c2, k63v, c3, k63n, c4, d1, d2', k68, k69, shipN]
def ackR (r : Rep) (w : Word) : Rep := ⟨r.id, r.view, r.members, r.n, r.base, r.text, r.acks ++ [w.frm]⟩
def pastR (r : Rep) : Rep := ⟨r.id, r.view, [], r.n, r.text, r.text, []⟩
def ackB (r : Rep) (w : Word) : Bool := leadsR r && (decide (w.view = r.view) && (decide (w.n = r.n) && (decide (w.frm ∈ r.members) && !decide (w.frm ∈ r.acks))))
def hearR (r : Rep) (w : Word) : Rep × List Word :=
  if rightB r then (if w.to = r.id then (if w.kind = 1 then shipR r w else if w.kind = 2 then (if ackB r w then (fixR (ackR r w), []) else (r, []))
    else if w.kind = 3 then (if r.view < w.view then (pastR r, []) else (r, [])) else (r, [])) else (r, [])) else (r, [])
def H57 (Pg : Nat → Option Fn) : Prop := Pg 57 = some (.code F57) ∧ H39 Pg ∧ H74 Pg ∧ H68 Pg ∧ H65 Pg ∧ H69 Pg ∧ H71 Pg
theorem K57 (h : H57 Pg) (r : Rep) (w : Word) (ok : r.Ok) (ha : r.acks.length ≤ 10000) (hw : w.members.length ≤ 10000) : K' Pg 57 [.agg (eRep r), .agg (eWord w)] = some (eRW (hearR r w)) := by
  obtain ⟨h, h39, h74, h68, h65, h69, h71⟩ := h
  have k39 := K39 h39 r ok
  have k74 := K74 h74 r w hw
  have k68 := K68 h68 r
  have k65m := K65 h65 r.members w.frm ok.m
  have k65a := K65 h65 r.acks w.frm ok.a
  have k69 := K69 h69 r.acks (by omega)
  have k71 := K71 h71 (ackR r w)
  have hlim : r.acks.length + 1 ≤ lim := by simp only [lim]; omega
  simp only [eInts, eRep, eWord, eRW, eWords] at k39 k74 k68 k65m k65a k69
  simp only [eInts, eRep, ackR, List.map_append, List.map_cons, List.map_nil] at k71
  refine K'_code h rfl ?_
  cases c1 : rightB r with
  | false => simp only [go_sem, k39, c1, hearR]
  | true =>
  by_cases c2 : w.to = r.id
  · have c2' := decide_eq_true c2
    by_cases d1 : w.kind = 1
    · have d1' := decide_eq_true d1
      have e : hearR r w = shipR r w := by simp only [hearR, c1, c2, d1, if_true]
      rw [e]
      simp only [go_sem, k39, c1, c2', d1', k74]
    · have d1' := decide_eq_false d1
      by_cases d2 : w.kind = 2
      · have d2' := decide_eq_true d2
        have e : hearR r w = (if ackB r w then (fixR (ackR r w), []) else (r, [])) := by simp only [hearR]; rw [if_pos c1, if_pos c2, if_neg d1, if_pos d2]
        rw [e]
        cases b1 : leadsR r with
        | false => simp only [go_sem, k39, c1, c2', d1', d2', k68, b1, ackB]
        | true =>
        cases b2 : decide (w.view = r.view) with
        | false => simp only [go_sem, k39, c1, c2', d1', d2', k68, b1, b2, ackB]
        | true =>
        cases b3 : decide (w.n = r.n) with
        | false => simp only [go_sem, k39, c1, c2', d1', d2', k68, b1, b2, b3, ackB]
        | true =>
        cases b4 : decide (w.frm ∈ r.members) with
        | false => simp only [go_sem, k39, c1, c2', d1', d2', k68, b1, b2, b3, k65m, b4, ackB]
        | true =>
        cases b5 : decide (w.frm ∈ r.acks) with
        | true => simp only [go_sem, k39, c1, c2', d1', d2', k68, b1, b2, b3, k65m, k65a, b4, b5, ackB]
        | false => simp only [go_sem, k39, c1, c2', d1', d2', k68, b1, b2, b3, k65m, k65a, b4, b5, ackB, k69, hlim, k71, ackR]
      · have d2' := decide_eq_false d2
        by_cases d3 : w.kind = 3
        · have d3' := decide_eq_true d3
          have e : hearR r w = (if r.view < w.view then (pastR r, []) else (r, [])) := by simp only [hearR]; rw [if_pos c1, if_pos c2, if_neg d1, if_neg d2, if_pos d3]
          rw [e]
          by_cases b : r.view < w.view <;> simp only [go_sem, k39, c1, c2', d1', d2', d3', b, pastR]
        · have d3' := decide_eq_false d3
          have e : hearR r w = (r, []) := by simp only [hearR]; rw [if_pos c1, if_pos c2, if_neg d1, if_neg d2, if_neg d3]
          rw [e]
          simp only [go_sem, k39, c1, c2', d1', d2', d3']
  · have c2' := decide_eq_false c2
    have e : hearR r w = (r, []) := by simp only [hearR, c1, c2, if_true, if_false]
    rw [e]
    simp only [go_sem, k39, c1, c2']
end Sg
namespace Sg
set_option linter.unusedSimpArgs false
set_option linter.unusedVariables false
structure RP (r : Rep) : Prop where
  id : 1 ≤ r.id ∧ r.id ≤ 255
  view : 0 ≤ r.view ∧ r.view ≤ 1099511627776
  n : 0 ≤ r.n ∧ r.n ≤ 1099511627776
  sm : SetP r.members
  sa : SetP r.acks
  sub : ∀ a ∈ r.acks, a ∈ r.members
  inn : r.members ≠ [] → r.id ∈ r.members
  lead : leadsR r = true → r.id ∈ r.acks ∧ (allR r = true → r.base = r.text)
  not : leadsR r = false → r.acks = [] ∧ r.base = r.text
theorem right_iff1 (r : Rep) : rightB r = true ↔ RP r := by
  have e1 : ((0 : Int) < (r.members.length : Int)) ↔ r.members ≠ [] := by
    cases h : r.members with
    | nil => simp
    | cons a l => simp
  have e2 : ((r.acks.length : Int) = 0) ↔ r.acks = [] := by cases r.acks <;> simp; omega
  unfold rightB
  simp only [Bool.and_eq_true, Bool.not_eq_true', Bool.or_eq_false_iff, decide_eq_false_iff_not, Bool.and_eq_false_iff, List.all_eq_true, decide_eq_true_eq, numG, Bool.not_eq_false', Bool.and_eq_true, Decidable.not_not, e1]
  constructor
  · rintro ⟨⟨h1, h2, h3, h4, h5, h6⟩, h7, h8, h9⟩
    refine ⟨⟨by omega, by omega⟩, ?_, ?_, h5, h6, h7, fun hm => ?_, fun hl => ?_, fun hl => ?_⟩
    · rcases h3 with h | h <;> omega
    · rcases h4 with h | h <;> omega
    · rcases h8 with h | h
      · exact absurd (h) (fun h => by first | exact h hm | exact hm h)
      · exact h
    · rw [hl] at h9
      simp only [cond_true, Bool.and_eq_true, Bool.or_eq_true, Bool.not_eq_true', decide_eq_true_eq] at h9
      refine ⟨h9.1, fun ha => ?_⟩
      rcases h9.2 with h | h
      · rw [ha] at h; cases h
      · exact h
    · rw [hl] at h9
      simp only [cond_false, Bool.and_eq_true, decide_eq_true_eq, e2] at h9
      exact h9
  · rintro ⟨h1, h2, h3, h4, h5, h6, h7, h8, h9⟩
    refine ⟨⟨by omega, by omega, ?_, ?_, h4, h5⟩, h6, ?_, ?_⟩
    · by_cases h : r.view = 0
      · exact .inl h
      · exact .inr ⟨by omega, by omega⟩
    · by_cases h : r.n = 0
      · exact .inl h
      · exact .inr ⟨by omega, by omega⟩
    · by_cases hm : r.members = []
      · exact .inl (by first | exact hm | exact fun h => h hm)
      · exact .inr (h7 hm)
    · cases hl : leadsR r with
      | true =>
        obtain ⟨a, b⟩ := h8 hl
        simp only [cond_true, Bool.and_eq_true, Bool.or_eq_true, Bool.not_eq_true', decide_eq_true_eq]
        refine ⟨a, ?_⟩
        cases ha : allR r with
        | false => exact .inl rfl
        | true => exact .inr (b ha)
      | false =>
        simp only [cond_false, Bool.and_eq_true, decide_eq_true_eq, e2]
        exact h9 hl
theorem leads_iff (r : Rep) : leadsR r = true ↔ r.members.head? = some r.id := by
  unfold leadsR
  cases r.members <;> simp
theorem setp_nil : SetP [] := by decide
def idOf (k : Nat) : Int := (k : Int) + 1
structure Gh where
  V : Int
  who : Int → Nat
  mem : Int → List Int
  n0 : Int → Int
  top : Int → Int
  τ : Int → Int → List UInt8
structure GOK (g : Gh) : Prop where
  V1 : 1 ≤ g.V
  who : ∀ v, 1 ≤ v → v ≤ g.V → g.who v < 3
  set : ∀ v, 1 ≤ v → v ≤ g.V → SetP (g.mem v) ∧ (∀ m ∈ g.mem v, 1 ≤ m ∧ m ≤ 3) ∧ (g.mem v).head? = some (idOf (g.who v))
  n0 : ∀ v, 1 ≤ v → v ≤ g.V → 1 ≤ g.n0 v ∧ g.n0 v ≤ g.top v
  chain : ∀ v, 1 ≤ v → v ≤ g.V → ∀ n m, g.n0 v ≤ n → n ≤ m → m ≤ g.top v → g.τ v n <+: g.τ v m
  next : ∀ v, 1 ≤ v → v + 1 ≤ g.V → idOf (g.who (v + 1)) ∈ g.mem v ∧ g.n0 v ≤ g.n0 (v + 1) - 1 ∧ g.n0 (v + 1) - 1 ≤ g.top v ∧ g.τ (v + 1) (g.n0 (v + 1)) = g.τ v (g.n0 (v + 1) - 1)
def AckOK (g : Gh) (r : Nat → Rep) (j : Nat) (v n : Int) : Prop :=
  v ≤ (r j).view ∧ ((r j).view = v → n ≤ (r j).n) ∧ (v + 1 ≤ g.V → g.who (v + 1) = j → n ≤ g.n0 (v + 1) - 1)
def Evd (g : Gh) (r : Nat → Rep) (v b : Int) : Prop :=
  b = g.n0 v ∨ ∀ j, j < 3 → idOf j ∈ g.mem v → v ≤ (r j).view ∧ ((r j).view = v → b ≤ (r j).n)
structure ROK (g : Gh) (r : Nat → Rep) (k : Nat) : Prop where
  id : (r k).id = idOf k
  right : RP (r k)
  view : 1 ≤ (r k).view ∧ (r k).view ≤ g.V
  n : g.n0 (r k).view ≤ (r k).n ∧ (r k).n ≤ g.top (r k).view
  text : (r k).text = g.τ (r k).view (r k).n
  mem : (r k).members = [] ∨ (r k).members = g.mem (r k).view ∧ idOf k ∈ g.mem (r k).view
  top : leadsR (r k) = true → (r k).n = g.top (r k).view
  base : leadsR (r k) = true → ∃ b, g.n0 (r k).view ≤ b ∧ b ≤ (r k).n ∧ (r k).base = g.τ (r k).view b ∧ ((r k).view + 1 ≤ g.V → b ≤ g.n0 ((r k).view + 1) - 1) ∧ Evd g r (r k).view b
  acks : leadsR (r k) = true → ∀ a ∈ (r k).acks, a ≠ (r k).id → ∃ j, j < 3 ∧ a = idOf j ∧ AckOK g r j (r k).view (r k).n
structure WOK (g : Gh) (r : Nat → Rep) (x : Word) : Prop where
  ship : x.kind = 1 → 1 ≤ x.view ∧ x.view ≤ g.V ∧ g.n0 x.view ≤ x.n ∧ x.n ≤ g.top x.view ∧ x.text = g.τ x.view x.n ∧ x.members = g.mem x.view ∧ x.frm = idOf (g.who x.view)
  ack : x.kind = 2 → ∃ j, j < 3 ∧ x.frm = idOf j ∧ AckOK g r j x.view x.n
  past : x.kind = 3 → x.view ≤ g.V
structure Fixd where
  text : List UInt8
  at_ : Int
structure FOK (g : Gh) (r : Nat → Rep) (x : Fixd) : Prop where
  at_ : 1 ≤ x.at_ ∧ x.at_ ≤ g.V
  b : ∃ b, g.n0 x.at_ ≤ b ∧ b ≤ g.top x.at_ ∧ x.text = g.τ x.at_ b ∧ (x.at_ + 1 ≤ g.V → b ≤ g.n0 (x.at_ + 1) - 1) ∧ Evd g r x.at_ b
  now : ∀ k, k < 3 → leadsR (r k) = true → (r k).view = x.at_ → x.text <+: (r k).base
structure Told where
  view : Int
  who : Int
  members : List Int
structure Inv1 (g : Gh) (r : Nat → Rep) (net : List Word) (views : List Told) (fx : List Fixd) : Prop where
  gk : GOK g
  rk : ∀ k, k < 3 → ROK g r k
  told : ∀ v, 1 ≤ v → v ≤ g.V → v ≤ (r (g.who v)).view
  netk : ∀ x ∈ net, WOK g r x
  viewk : ∀ t ∈ views, 2 ≤ t.view ∧ t.view ≤ g.V ∧ t.who = (g.who t.view : Int)
  all : ∀ v, 2 ≤ v → v ≤ g.V → ∃ t ∈ views, t.view = v
  fxk : ∀ x ∈ fx, FOK g r x
theorem idOf_inj {i j : Nat} (h : idOf i = idOf j) : i = j := by unfold idOf at h; omega
section
variable {g : Gh} {r : Nat → Rep} {net : List Word} {views : List Told} {fx : List Fixd}
theorem ROK.who (hg : GOK g) {k : Nat} (h : ROK g r k) (hl : leadsR (r k) = true) : g.who (r k).view = k ∧ (r k).members = g.mem (r k).view := by
  rcases h.mem with hm | ⟨hm, _⟩
  · rw [leads_iff, hm] at hl; simp at hl
  · have h1 := (leads_iff _).1 hl
    rw [hm, (hg.set _ h.view.1 h.view.2).2.2, h.id] at h1
    exact ⟨idOf_inj (by simpa using h1), hm⟩
structure Goes (r : Nat → Rep) (k : Nat) (x : Rep) : Prop where
  view : (r k).view ≤ x.view
  n : x.view = (r k).view → (r k).n ≤ x.n
theorem Goes.ack {k : Nat} {x : Rep} (h : Goes r k x) {j : Nat} {v n : Int} (ha : AckOK g r j v n) : AckOK g (upd r k x) j v n := by
  obtain ⟨a1, a2, a3⟩ := ha
  refine ⟨?_, ?_, a3⟩
  · simp only [upd]; split
    · rename_i e; subst e; exact Int.le_trans a1 h.view
    · exact a1
  · simp only [upd]; split
    · rename_i e; subst e
      intro hv
      have := h.view
      have e2 : (r j).view = v := by omega
      exact Int.le_trans (a2 e2) (h.n (by omega))
    · exact a2
theorem Goes.evd {k : Nat} {x : Rep} (h : Goes r k x) {v b : Int} (ha : Evd g r v b) : Evd g (upd r k x) v b := by
  rcases ha with ha | ha
  · exact .inl ha
  · refine .inr fun j hj hm => ?_
    obtain ⟨a1, a2⟩ := ha j hj hm
    simp only [upd]; split
    · rename_i e; subst e
      have := h.view
      exact ⟨by omega, fun hv => Int.le_trans (a2 (by omega)) (h.n (by omega))⟩
    · exact ⟨a1, a2⟩
theorem Inv1.go (h : Inv1 g r net views fx) {k : Nat} (hk : k < 3) {x : Rep} (hg : Goes r k x) (hx : ROK g (upd r k x) k)
    (hf : leadsR x = true → leadsR (r k) = true ∧ x.view = (r k).view ∧ (r k).base <+: x.base) : Inv1 g (upd r k x) net views fx := by
  refine ⟨h.gk, fun j hj => ?_, fun v h1 h2 => ?_, fun y hy => ?_, h.viewk, h.all, fun y hy => ?_⟩
  · by_cases e : j = k
    · subst e; exact hx
    · have hr := h.rk j hj
      have e1 : upd r k x j = r j := by simp [upd, e]
      refine ⟨by rw [e1]; exact hr.id, by rw [e1]; exact hr.right, by rw [e1]; exact hr.view, by rw [e1]; exact hr.n, by rw [e1]; exact hr.text, by rw [e1]; exact hr.mem, by rw [e1]; exact hr.top, ?_, ?_⟩
      · rw [e1]; intro hl
        obtain ⟨b, b1, b2, b3, b4, b5⟩ := hr.base hl
        exact ⟨b, b1, b2, b3, b4, hg.evd b5⟩
      · rw [e1]; intro hl a ha hne
        obtain ⟨i, i1, i2, i3⟩ := hr.acks hl a ha hne
        exact ⟨i, i1, i2, hg.ack i3⟩
  · have := h.told v h1 h2
    simp only [upd]; split
    · rename_i e; rw [e] at this; exact Int.le_trans this hg.view
    · exact this
  · have hw := h.netk y hy
    exact ⟨hw.ship, fun hk => by obtain ⟨j, j1, j2, j3⟩ := hw.ack hk; exact ⟨j, j1, j2, hg.ack j3⟩, hw.past⟩
  · have hw := h.fxk y hy
    obtain ⟨b, b1, b2, b3, b4, b5⟩ := hw.b
    refine ⟨hw.at_, ⟨b, b1, b2, b3, b4, hg.evd b5⟩, fun j hj hl hv => ?_⟩
    by_cases e : j = k
    · subst e
      have e1 : upd r j x j = x := by simp [upd]
      rw [e1] at hl hv ⊢
      obtain ⟨f1, f2, f3⟩ := hf hl
      exact (hw.now j hj f1 (by omega)).trans f3
    · have e1 : upd r k x j = r j := by simp [upd, e]
      rw [e1] at hl hv ⊢
      exact hw.now j hj hl hv
theorem upd_k {k : Nat} {x : Rep} : upd r k x k = x := by simp [upd]
theorem Inv1.say (h : Inv1 g r net views fx) {net' : List Word} (hn : ∀ x ∈ net', WOK g r x) : Inv1 g r net' views fx := ⟨h.gk, h.rk, h.told, hn, h.viewk, h.all, h.fxk⟩
theorem memb_spec {l : List Int} {id f : Int} (h : membR l id f = true) : SetP l ∧ id ∈ l ∧ l.head? = some f := by
  simp only [membR, Bool.and_eq_true, decide_eq_true_eq] at h
  exact ⟨h.1, h.2.1, h.2.2⟩
theorem Inv1.notNext (h : Inv1 g r net views fx) {k : Nat} {v : Int} (hv : (r k).view ≤ v) (h1 : 1 ≤ v) (h2 : v + 1 ≤ g.V) : g.who (v + 1) ≠ k := fun e => by
  have := h.told (v + 1) (by omega) h2
  rw [e] at this
  omega
theorem Inv1.ship (h : Inv1 g r net views fx) {k : Nat} (hk : k < 3) {w : Word} (hw : WOK g r w) (h1 : w.kind = 1) :
    Inv1 g (upd r k (shipR (r k) w).1) (net ++ (shipR (r k) w).2) views fx := by
  have hr := h.rk k hk
  have hsame : upd r k (r k) = r := by funext i; simp only [upd]; split <;> simp_all
  have keep : ∀ l : List Word, (∀ x ∈ l, WOK g r x) → Inv1 g (upd r k (r k)) (net ++ l) views fx := fun l hl => by
    rw [hsame]
    exact h.say fun x hx => (List.mem_append.1 hx).elim (h.netk x) (hl x)
  have nil : Inv1 g (upd r k (r k)) (net ++ []) views fx := keep [] (fun x hx => by simp at hx)
  unfold shipR
  split
  · exact nil
  rename_i hne
  split
  rotate_left
  · exact nil
  rename_i hm
  split
  rotate_left
  · exact nil
  rename_i hnv
  split
  rotate_left
  · exact nil
  rename_i hnn
  obtain ⟨m1, m2, m3⟩ := memb_spec hm
  obtain ⟨s1, s2, s3, s4, s5, s6, s7⟩ := hw.ship h1
  simp only [numG, Bool.and_eq_true, decide_eq_true_eq] at hnv hnn
  have hne' : w.frm ≠ (r k).id := by simpa using hne
  unfold shipT
  split
  · refine keep _ fun x hx => ?_
    have : x = ⟨3, (r k).id, w.frm, (r k).view, 0, [], []⟩ := by simpa using hx
    subst this
    exact ⟨fun e => by simp at e, fun e => by simp at e, fun _ => hr.view.2⟩
  rename_i c1
  split
  · exact nil
  rename_i c2
  split
  · rename_i c3
    -- taken
    have hnl : leadsR (shipN (r k) w) = false := by
      cases hl : leadsR (shipN (r k) w) with
      | false => rfl
      | true =>
        have := (leads_iff _).1 hl
        simp only [shipN] at this
        rw [m3] at this
        exact absurd (by simpa using this) hne'
    have hgo : Goes r k (shipN (r k) w) := ⟨by simp only [shipN]; omega, fun e => by
      simp only [shipN] at e ⊢
      rcases c3 with c3 | c3
      · exact absurd e c3
      · omega⟩
    have hR : ROK g (upd r k (shipN (r k) w)) k := by
      have hp : RP (shipN (r k) w) := ⟨hr.right.id, ⟨by simp only [shipN]; omega, by simp only [shipN]; omega⟩, ⟨by simp only [shipN]; omega, by simp only [shipN]; omega⟩, m1, setp_nil,
        fun a ha => (by simp [shipN] at ha), fun _ => m2, fun hl => (by rw [hnl] at hl; cases hl), fun _ => ⟨rfl, rfl⟩⟩
      refine ⟨by rw [upd_k]; exact hr.id, by rw [upd_k]; exact hp, by rw [upd_k]; exact ⟨s1, s2⟩, by rw [upd_k]; exact ⟨s3, s4⟩, by rw [upd_k]; exact s5, ?_, ?_, ?_, ?_⟩
      · rw [upd_k]
        refine .inr ⟨s6, ?_⟩
        show idOf k ∈ g.mem w.view
        rw [← s6, ← hr.id]; exact m2
      all_goals (rw [upd_k]; intro hl; rw [hnl] at hl; cases hl)
    have hgo' := h.go hk hgo hR (fun hl => by rw [hnl] at hl; cases hl)
    refine hgo'.say fun x hx => ?_
    rcases List.mem_append.1 hx with hx | hx
    · exact hgo'.netk x hx
    · have : x = ⟨2, (r k).id, w.frm, w.view, w.n, [], []⟩ := by simpa using hx
      subst this
      refine ⟨fun e => by simp at e, fun _ => ⟨k, hk, hr.id, ?_, ?_, ?_⟩, fun e => by simp at e⟩
      · rw [upd_k]; exact Int.le_refl _
      · intro _; rw [upd_k]; exact Int.le_refl _
      · intro hv hw'
        exact absurd hw' (hgo'.notNext (k := k) (v := w.view) (by rw [upd_k]; exact Int.le_refl _) s1 hv)
  · refine keep _ fun x hx => ?_
    have : x = ⟨2, (r k).id, w.frm, (r k).view, (r k).n, [], []⟩ := by simpa using hx
    subst this
    refine ⟨fun e => by simp at e, fun _ => ⟨k, hk, hr.id, Int.le_refl _, fun _ => Int.le_refl _, fun hv hw' => ?_⟩, fun e => by simp at e⟩
    exact absurd hw' (h.notNext (Int.le_refl _) hr.view.1 hv)
theorem setp_snoc {l : List Int} {a : Int} (h : SetP l) (ha : a ∉ l) (hl : (l ++ [a]).length ≤ 8) (hr : 1 ≤ a ∧ a ≤ 255) : SetP (l ++ [a]) := by
  refine ⟨hl, fun m hm => ?_, ?_⟩
  · rcases List.mem_append.1 hm with hm | hm
    · exact h.2.1 m hm
    · have : m = a := by simpa using hm
      subst this; exact hr
  · refine List.nodup_append.2 ⟨h.2.2, by simp, fun x hx y hy e => ?_⟩
    have : y = a := by simpa using hy
    subst this; subst e; exact ha hx
theorem all_of_len {l m : List Int} (hl : l.Nodup) (hm : m.Nodup) (hs : ∀ x ∈ l, x ∈ m) (h : l.length = m.length) : ∀ x ∈ m, x ∈ l := fun x hx => by
  by_cases hn : x ∈ l
  · exact hn
  · exfalso
    have := nodup_len (l := x :: l) (m := m) (List.nodup_cons.2 ⟨hn, hl⟩) (fun y hy => by
      rcases List.mem_cons.1 hy with rfl | hy
      · exact hx
      · exact hs y hy)
    simp at this; omega
theorem fix_fields (r : Rep) : (fixR r).id = r.id ∧ (fixR r).view = r.view ∧ (fixR r).members = r.members ∧ (fixR r).n = r.n ∧ (fixR r).text = r.text ∧ (fixR r).acks = r.acks := by
  unfold fixR; split <;> exact ⟨rfl, rfl, rfl, rfl, rfl, rfl⟩
theorem leads_fix (r : Rep) : leadsR (fixR r) = leadsR r := by
  obtain ⟨h1, h2, h3, h4, h5, h6⟩ := fix_fields r
  unfold leadsR; rw [h3, h1]
theorem all_fix (r : Rep) : allR (fixR r) = allR r := by
  obtain ⟨h1, h2, h3, h4, h5, h6⟩ := fix_fields r
  unfold allR; rw [h3, h6]
theorem Inv1.ack (h : Inv1 g r net views fx) {k : Nat} (hk : k < 3) {w : Word} (hw : WOK g r w) (h2 : w.kind = 2) (hb : ackB (r k) w = true) :
    Inv1 g (upd r k (fixR (ackR (r k) w))) net views fx := by
  have hr := h.rk k hk
  simp only [ackB, Bool.and_eq_true, decide_eq_true_eq, Bool.not_eq_true', decide_eq_false_iff_not] at hb
  obtain ⟨b1, b2, b3, b4, b5⟩ := hb
  obtain ⟨e1, e2, e3, e4, e5, e6⟩ := fix_fields (ackR (r k) w)
  have hl' : leadsR (fixR (ackR (r k) w)) = true := by rw [leads_fix]; exact b1
  obtain ⟨w1, w2⟩ := hr.who h.gk b1
  obtain ⟨j, j1, j2, j3⟩ := hw.ack h2
  rw [b2, b3] at j3
  have hgo : Goes r k (fixR (ackR (r k) w)) := ⟨by rw [e2]; exact Int.le_refl _, fun _ => by rw [e4]; exact Int.le_refl _⟩
  have hlen : ((r k).acks ++ [w.frm]).length ≤ (r k).members.length := nodup_len (List.nodup_append.2 ⟨hr.right.sa.2.2, by simp, fun x hx y hy e => by
      have : y = w.frm := by simpa using hy
      subst this; subst e; exact b5 hx⟩) (fun x hx => by
    rcases List.mem_append.1 hx with hx | hx
    · exact hr.right.sub x hx
    · have : x = w.frm := by simpa using hx
      subst this; exact b4)
  have hset : SetP ((r k).acks ++ [w.frm]) := setp_snoc hr.right.sa b5 (Nat.le_trans hlen hr.right.sm.1) (hr.right.sm.2.1 _ b4)
  have hsub : ∀ a ∈ (r k).acks ++ [w.frm], a ∈ (r k).members := fun a ha => by
    rcases List.mem_append.1 ha with ha | ha
    · exact hr.right.sub a ha
    · have : a = w.frm := by simpa using ha
      subst this; exact b4
  have hacks : ∀ a ∈ (r k).acks ++ [w.frm], a ≠ (r k).id → ∃ j, j < 3 ∧ a = idOf j ∧ AckOK g r j (r k).view (r k).n := fun a ha hne => by
    rcases List.mem_append.1 ha with ha | ha
    · exact hr.acks b1 a ha hne
    · have : a = w.frm := by simpa using ha
      subst this; exact ⟨j, j1, j2, j3⟩
  have hR : ROK g (upd r k (fixR (ackR (r k) w))) k := by
    have hp : RP (fixR (ackR (r k) w)) := by
      refine ⟨by rw [e1]; exact hr.right.id, by rw [e2]; exact hr.right.view, by rw [e4]; exact hr.right.n, by rw [e3]; exact hr.right.sm, by rw [e6]; exact hset, by rw [e6, e3]; exact hsub, by rw [e3, e1]; exact hr.right.inn, fun _ => ?_, fun hl => by rw [hl'] at hl; cases hl⟩
      rw [e1, e6]
      refine ⟨List.mem_append.2 (.inl (hr.right.lead b1).1), fun ha => ?_⟩
      rw [all_fix] at ha
      unfold fixR
      split
      · rfl
      · rename_i hn
        exfalso
        have hs : ∀ m ∈ (r k).members, m ∈ (r k).acks ++ [w.frm] := by simpa [allR, ackR] using ha
        have := nodup_len hr.right.sm.2.2 hs
        exact hn (by simp only [ackR]; omega)
    refine ⟨by rw [upd_k, e1]; exact hr.id, by rw [upd_k]; exact hp, by rw [upd_k, e2]; exact hr.view, by rw [upd_k, e2, e4]; exact hr.n, by rw [upd_k, e5, e2, e4]; exact hr.text, by rw [upd_k, e3, e2]; exact hr.mem, ?_, ?_, ?_⟩
    · rw [upd_k, e2, e4]; intro _; exact hr.top b1
    · rw [upd_k, e2, e4]; intro _
      unfold fixR
      split
      · rename_i hlen2
        simp only [ackR] at hlen2
        have hall := all_of_len hset.2.2 hr.right.sm.2.2 hsub hlen2
        refine ⟨(r k).n, hr.n.1, Int.le_refl _, hr.text, fun hv => ?_, .inr fun i hi hm => ?_⟩
        · have hmem := (h.gk.next _ hr.view.1 hv).1
          rw [← w2] at hmem
          obtain ⟨i, i1, i2, i3⟩ := hacks _ (hall _ hmem) (fun e => by
            rw [hr.id] at e
            exact h.notNext (Int.le_refl _) hr.view.1 hv (idOf_inj e))
          exact i3.2.2 hv (idOf_inj i2)
        · have hm : idOf i ∈ g.mem (r k).view := hm
          rw [← w2] at hm
          by_cases e : i = k
          · subst e; rw [upd_k]; exact ⟨Int.le_refl _, fun _ => Int.le_refl _⟩
          · obtain ⟨i', i1, i2, i3⟩ := hacks _ (hall _ hm) (fun e' => by rw [hr.id] at e'; exact e (idOf_inj e'))
            have : i = i' := idOf_inj i2
            subst this
            simp only [upd, if_neg e]
            exact ⟨i3.1, i3.2.1⟩
      · obtain ⟨b, c1, c2, c3, c4, c5⟩ := hr.base b1
        refine ⟨b, c1, c2, c3, c4, ?_⟩
        have := hgo.evd c5
        unfold fixR at this
        rename_i hn
        rwa [if_neg hn] at this
    · rw [upd_k, e2, e4, e6, e1]
      intro _ a ha hne
      obtain ⟨i, i1, i2, i3⟩ := hacks a ha hne
      exact ⟨i, i1, i2, hgo.ack i3⟩
  refine h.go hk hgo hR (fun _ => ⟨b1, e2, ?_⟩)
  unfold fixR
  split
  · obtain ⟨b, c1, c2, c3, -, -⟩ := hr.base b1
    show (r k).base <+: (r k).text
    rw [c3, hr.text]
    exact h.gk.chain _ hr.view.1 hr.view.2 _ _ c1 c2 hr.n.2
  · exact List.prefix_refl _
theorem Inv1.hear (h : Inv1 g r net views fx) {k : Nat} (hk : k < 3) {w : Word} (hw : WOK g r w) :
    Inv1 g (upd r k (hearR (r k) w).1) (net ++ (hearR (r k) w).2) views fx := by
  have hr := h.rk k hk
  have hsame : upd r k (r k) = r := by funext i; simp only [upd]; split <;> simp_all
  have nil : Inv1 g (upd r k (r k)) (net ++ []) views fx := by rw [hsame, List.append_nil]; exact h
  unfold hearR
  split
  rotate_left
  · exact nil
  split
  rotate_left
  · exact nil
  split
  · rename_i h1; exact h.ship hk hw h1
  split
  · rename_i h2
    split
    · rename_i hb; simp only [List.append_nil]; exact h.ack hk hw h2 hb
    · exact nil
  split
  rotate_left
  · exact nil
  split
  rotate_left
  · exact nil
  simp only [List.append_nil]
  have hnl : leadsR (pastR (r k)) = false := rfl
  refine h.go hk ⟨Int.le_refl _, fun _ => Int.le_refl _⟩ ?_ (fun hl => by rw [hnl] at hl; cases hl)
  refine ⟨by rw [upd_k]; exact hr.id, ?_, by rw [upd_k]; exact hr.view, by rw [upd_k]; exact hr.n, by rw [upd_k]; exact hr.text, by rw [upd_k]; exact .inl rfl, ?_, ?_, ?_⟩
  · rw [upd_k]
    exact ⟨hr.right.id, hr.right.view, hr.right.n, setp_nil, setp_nil, fun a ha => (by simp [pastR] at ha), fun hm => absurd rfl hm,
      fun hl => (by rw [hnl] at hl; cases hl), fun _ => ⟨rfl, rfl⟩⟩
  all_goals (rw [upd_k]; intro hl; rw [hnl] at hl; cases hl)
end
end Sg
namespace Sg
set_option linter.unusedSimpArgs false
set_option linter.unusedVariables false
section
variable {g : Gh} {r : Nat → Rep} {net : List Word} {views : List Told} {fx : List Fixd}
def Gh.prop (g : Gh) (v n : Int) (t : List UInt8) : Gh := ⟨g.V, g.who, g.mem, g.n0, fun x => if x = v then n else g.top x, fun x m => if x = v ∧ m = n then t else g.τ x m⟩
theorem prop_τ {v n : Int} {t : List UInt8} {x m : Int} (h : m ≤ g.top x) (hn : n = g.top v + 1) : (g.prop v n t).τ x m = g.τ x m := by
  simp only [Gh.prop]
  rw [if_neg]
  rintro ⟨rfl, rfl⟩
  omega
theorem prop_top {v n : Int} {t : List UInt8} {x : Int} (hn : n = g.top v + 1) : g.top x ≤ (g.prop v n t).top x := by
  simp only [Gh.prop]; split
  · rename_i e; subst e; omega
  · exact Int.le_refl _
theorem ships_of {r : Rep} {x : Word} (h : x ∈ shipsR r) : x.kind = 1 ∧ x.frm = r.id ∧ x.view = r.view ∧ x.n = r.n ∧ x.members = r.members ∧ x.text = r.text := by
  simp only [shipsR, List.mem_map] at h
  obtain ⟨m, -, rfl⟩ := h
  exact ⟨rfl, rfl, rfl, rfl, rfl, rfl⟩
theorem Inv1.propose (h : Inv1 g r net views fx) {k : Nat} (hk : k < 3) {c : List UInt8} {x : Rep} {l : List Word} (hp : proposeR (r k) ((r k).base ++ c) = (x, l, 0)) :
    ∃ g', Inv1 g' (upd r k x) (net ++ l) views fx ∧ g'.V = g.V ∧ g'.who = g.who := by
  have hr := h.rk k hk
  unfold proposeR at hp
  have hright := (right_iff1 _).2 hr.right
  rw [if_pos hright] at hp
  split at hp <;> try (simp at hp; done)
  rename_i hl
  split at hp <;> try (simp at hp; done)
  rename_i hall
  split at hp <;> try (simp at hp; done)
  rename_i hmax
  simp only [Prod.mk.injEq, and_true] at hp
  obtain ⟨hx, hl'⟩ := hp
  obtain ⟨w1, w2⟩ := hr.who h.gk hl
  have hbt := (hr.right.lead hl).2 hall
  have htop := hr.top hl
  -- the new replica
  generalize hy : (⟨(r k).id, (r k).view, (r k).members, (r k).n + 1, (r k).base, (r k).base ++ c, [(r k).id]⟩ : Rep) = y at hx hl'
  have y1 : y.id = (r k).id := by rw [← hy]
  have y2 : y.view = (r k).view := by rw [← hy]
  have y3 : y.members = (r k).members := by rw [← hy]
  have y4 : y.n = (r k).n + 1 := by rw [← hy]
  have y5 : y.base = (r k).base := by rw [← hy]
  have y6 : y.text = (r k).base ++ c := by rw [← hy]
  have y7 : y.acks = [(r k).id] := by rw [← hy]
  obtain ⟨e1, e2, e3, e4, e5, e6⟩ := fix_fields y
  rw [hx] at e1 e2 e3 e4 e5 e6
  have hly : leadsR y = true := by
    rw [leads_iff, y3, y1]; exact (leads_iff _).1 hl
  have hlx : leadsR x = true := by rw [← hx, leads_fix]; exact hly
  have hn : (r k).n + 1 = g.top (r k).view + 1 := by omega
  have hτ : ∀ {v m : Int}, m ≤ g.top v → (g.prop (r k).view ((r k).n + 1) ((r k).base ++ c)).τ v m = g.τ v m := fun hm => prop_τ hm hn
  have htp : ∀ v, g.top v ≤ (g.prop (r k).view ((r k).n + 1) ((r k).base ++ c)).top v := fun v => prop_top hn
  have hτn : (g.prop (r k).view ((r k).n + 1) ((r k).base ++ c)).τ (r k).view ((r k).n + 1) = (r k).base ++ c := by simp [Gh.prop]
  have htn : (g.prop (r k).view ((r k).n + 1) ((r k).base ++ c)).top (r k).view = (r k).n + 1 := by simp [Gh.prop]
  have hgo : Goes r k x := ⟨by rw [e2, y2]; exact Int.le_refl _, fun _ => by rw [e4, y4]; omega⟩
  have hmemid : (r k).id ∈ (r k).members := hr.right.inn (fun e => by rw [leads_iff, e] at hl; simp at hl)
  have hgk : GOK (g.prop (r k).view ((r k).n + 1) ((r k).base ++ c)) := by
    refine ⟨h.gk.V1, h.gk.who, h.gk.set, fun v h1 h2 => ⟨(h.gk.n0 v h1 h2).1, Int.le_trans (h.gk.n0 v h1 h2).2 (htp v)⟩, fun v h1 h2 n m a1 a2 a3 => ?_, fun v h1 h2 => ?_⟩
    · by_cases hv : v = (r k).view
      · subst hv
        by_cases hm : m = (r k).n + 1
        · subst hm
          rw [hτn]
          by_cases hn' : n = (r k).n + 1
          · subst hn'; rw [hτn]; exact List.prefix_refl _
          · rw [hτ (by omega)]
            have := h.gk.chain _ h1 h2 n (r k).n a1 (by omega) (by omega)
            rw [← hr.text, ← hbt] at this
            exact this.trans (List.prefix_append _ _)
        · rw [htn] at a3
          rw [hτ (by omega), hτ (by omega)]
          exact h.gk.chain _ h1 h2 n m a1 a2 (by omega)
      · have e : (g.prop (r k).view ((r k).n + 1) ((r k).base ++ c)).top v = g.top v := by simp [Gh.prop, hv]
        rw [e] at a3
        rw [hτ (by omega), hτ a3]
        exact h.gk.chain _ h1 h2 n m a1 a2 a3
    · obtain ⟨b1, b2, b3, b4⟩ := h.gk.next v h1 h2
      refine ⟨b1, b2, Int.le_trans b3 (htp v), ?_⟩
      have e1 : (g.prop (r k).view ((r k).n + 1) ((r k).base ++ c)).n0 = g.n0 := rfl
      rw [e1, hτ (h.gk.n0 (v + 1) (by omega) h2).2, hτ b3]
      exact b4
  refine ⟨g.prop (r k).view ((r k).n + 1) ((r k).base ++ c), ⟨hgk, fun j hj => ?_, fun v h1 h2 => ?_, fun z hz => ?_, h.viewk, h.all, fun z hz => ?_⟩, rfl, rfl⟩
  · by_cases e : j = k
    · subst e
      have hpx : RP x := by
        refine ⟨by rw [e1, y1]; exact hr.right.id, by rw [e2, y2]; exact hr.right.view, by rw [e4, y4]; have := hr.right.n; omega, by rw [e3, y3]; exact hr.right.sm, ?_, ?_, by rw [e3, e1, y3, y1]; exact hr.right.inn, fun _ => ?_, fun hn => by rw [hlx] at hn; cases hn⟩
        · rw [e6, y7]
          refine ⟨by simp, fun m hm => ?_, by simp⟩
          have : m = (r j).id := by simpa using hm
          subst this; exact hr.right.id
        · rw [e6, y7, e3, y3]
          intro a ha
          have : a = (r j).id := by simpa using ha
          subst this; exact hmemid
        · refine ⟨by rw [e1, e6, y7, y1]; simp, fun ha => ?_⟩
          rw [← hx, all_fix] at ha
          rw [← hx]
          unfold fixR
          split
          · rfl
          · rename_i hne
            exfalso
            have hs : ∀ m ∈ y.members, m ∈ y.acks := by simpa [allR] using ha
            rw [y3, y7] at hs
            have l1 := nodup_len hr.right.sm.2.2 hs
            have l2 : 0 < (r j).members.length := List.length_pos_of_mem hmemid
            apply hne
            rw [y3, y7]
            simp at l1 ⊢
            omega
      refine ⟨by rw [upd_k, e1, y1]; exact hr.id, by rw [upd_k]; exact hpx, by rw [upd_k, e2, y2]; exact hr.view, ?_, ?_, by rw [upd_k, e3, e2, y3, y2]; exact hr.mem, ?_, ?_, ?_⟩
      · rw [upd_k, e2, e4, y2, y4, htn]; exact ⟨by have := hr.n.1; show g.n0 _ ≤ _; omega, Int.le_refl _⟩
      · rw [upd_k, e5, e2, e4, y6, y2, y4, hτn]
      · rw [upd_k, e2, e4, y2, y4, htn]; intro _; rfl
      · rw [upd_k, e2, e4, y2, y4]; intro _
        rw [← hx]
        unfold fixR
        split
        · rename_i hlen
          have hone : (r j).members.length = 1 := by rw [y7, y3] at hlen; simpa using hlen.symm
          have hsing : ∀ a ∈ (r j).members, a = (r j).id := fun a ha => by
            match hmm : (r j).members, hone with
            | [b], _ =>
              rw [hmm] at ha hmemid
              simp at ha hmemid
              rw [ha, hmemid]
          refine ⟨(r j).n + 1, by have := hr.n.1; show g.n0 _ ≤ _; omega, Int.le_refl _, by rw [hτn]; exact y6, fun hv => ?_, .inr fun i hi hm => ?_⟩
          · exfalso
            have hmem := (h.gk.next _ hr.view.1 hv).1
            rw [← w2] at hmem
            have := hsing _ hmem
            rw [hr.id] at this
            exact h.notNext (Int.le_refl _) hr.view.1 hv (idOf_inj this)
          · have hm : idOf i ∈ g.mem (r j).view := hm
            rw [← w2] at hm
            have := hsing _ hm
            rw [hr.id] at this
            have hij := idOf_inj this
            subst hij
            have ez : ({ y with base := y.text } : Rep).view = (r i).view := y2
            have en : ({ y with base := y.text } : Rep).n = (r i).n + 1 := y4
            rw [upd_k]
            exact ⟨by rw [ez]; exact Int.le_refl _, fun _ => by rw [en]; exact Int.le_refl _⟩
        · rename_i hne
          obtain ⟨b, b1, b2, b3, b4, b5⟩ := hr.base hl
          refine ⟨b, b1, by omega, by rw [y5, hτ (by omega)]; exact b3, b4, ?_⟩
          have hyx : y = x := by rw [← hx]; unfold fixR; rw [if_neg hne]
          rw [hyx]
          exact hgo.evd (g := g) b5
      · rw [upd_k, e6, e1, y7, y1]
        intro _ a ha hne
        have : a = (r j).id := by simpa using ha
        exact absurd this hne
    · have hj' := h.rk j hj
      have eu : upd r k x j = r j := by simp [upd, e]
      refine ⟨by rw [eu]; exact hj'.id, by rw [eu]; exact hj'.right, by rw [eu]; exact hj'.view, by rw [eu]; exact ⟨hj'.n.1, Int.le_trans hj'.n.2 (htp _)⟩, by rw [eu, hτ hj'.n.2]; exact hj'.text, by rw [eu]; exact hj'.mem, ?_, ?_, ?_⟩
      · rw [eu]; intro hlj
        have hvne : (r j).view ≠ (r k).view := fun hv => by
          have := (hj'.who h.gk hlj).1
          rw [hv, w1] at this
          exact e this.symm
        have : (g.prop (r k).view ((r k).n + 1) ((r k).base ++ c)).top (r j).view = g.top (r j).view := by simp [Gh.prop, hvne]
        rw [this]; exact hj'.top hlj
      · rw [eu]; intro hlj
        obtain ⟨b, b1, b2, b3, b4, b5⟩ := hj'.base hlj
        exact ⟨b, b1, b2, by rw [hτ (Int.le_trans b2 hj'.n.2)]; exact b3, b4, hgo.evd (g := g) b5⟩
      · rw [eu]; intro hlj a ha hne
        obtain ⟨i, i1, i2, i3⟩ := hj'.acks hlj a ha hne
        exact ⟨i, i1, i2, hgo.ack (g := g) i3⟩
  · have := h.told v h1 h2
    show v ≤ (upd r k x (g.who v)).view
    simp only [upd]; split
    · rename_i e; rw [e] at this; exact Int.le_trans this hgo.view
    · exact this
  · rcases List.mem_append.1 hz with hz | hz
    · have hw := h.netk z hz
      refine ⟨fun e => ?_, fun e => ?_, hw.past⟩
      · obtain ⟨s1, s2, s3, s4, s5, s6, s7⟩ := hw.ship e
        exact ⟨s1, s2, s3, Int.le_trans s4 (htp _), by rw [hτ s4]; exact s5, s6, s7⟩
      · obtain ⟨j, j1, j2, j3⟩ := hw.ack e
        exact ⟨j, j1, j2, hgo.ack (g := g) j3⟩
    · rw [← hl'] at hz
      obtain ⟨z1, z2, z3, z4, z5, z6⟩ := ships_of hz
      refine ⟨fun _ => ?_, fun e => by omega, fun e => by omega⟩
      rw [z3, z4, z5, z6, z2, y2, y4, y3, y6, y1, htn, hτn]
      refine ⟨hr.view.1, hr.view.2, by have := hr.n.1; show g.n0 _ ≤ _; omega, Int.le_refl _, rfl, w2, ?_⟩
      show (r k).id = idOf (g.who (r k).view)
      rw [w1]; exact hr.id
  · have hw := h.fxk z hz
    obtain ⟨b, b1, b2, b3, b4, b5⟩ := hw.b
    refine ⟨hw.at_, ⟨b, b1, Int.le_trans b2 (htp _), by rw [hτ b2]; exact b3, b4, hgo.evd (g := g) b5⟩, fun j hj hlj hv => ?_⟩
    by_cases e : j = k
    · subst e
      rw [upd_k] at hlj hv ⊢
      have := hw.now j hj hl (by rw [← hv, e2, y2])
      rw [← hx]
      unfold fixR
      split
      · show z.text <+: y.text
        rw [y6]; exact this.trans (List.prefix_append _ _)
      · rw [y5]; exact this
    · have eu : upd r k x j = r j := by simp [upd, e]
      rw [eu] at hlj hv ⊢
      exact hw.now j hj hlj hv
def Gh.tell (g : Gh) (k : Nat) (l : List Int) (n : Int) (t : List UInt8) : Gh :=
  ⟨g.V + 1, upd' g.who (g.V + 1) k, upd' g.mem (g.V + 1) l, upd' g.n0 (g.V + 1) n, upd' g.top (g.V + 1) n, fun v m => if v = g.V + 1 then t else g.τ v m⟩
where upd' {α : Type} (f : Int → α) (v : Int) (x : α) : Int → α := fun i => if i = v then x else f i
theorem tell_old {k : Nat} {l : List Int} {n : Int} {t : List UInt8} {v : Int} (h : v ≤ g.V) : (g.tell k l n t).who v = g.who v ∧ (g.tell k l n t).mem v = g.mem v ∧ (g.tell k l n t).n0 v = g.n0 v ∧
    (g.tell k l n t).top v = g.top v ∧ ∀ m, (g.tell k l n t).τ v m = g.τ v m := by
  have : v ≠ g.V + 1 := by omega
  simp [Gh.tell, Gh.tell.upd', this]
theorem tell_new {k : Nat} {l : List Int} {n : Int} {t : List UInt8} : (g.tell k l n t).who (g.V + 1) = k ∧ (g.tell k l n t).mem (g.V + 1) = l ∧ (g.tell k l n t).n0 (g.V + 1) = n ∧
    (g.tell k l n t).top (g.V + 1) = n ∧ (∀ m, (g.tell k l n t).τ (g.V + 1) m = t) ∧ (g.tell k l n t).V = g.V + 1 := by
  simp [Gh.tell, Gh.tell.upd']
theorem Inv1.lead (h : Inv1 g r net views fx) {k : Nat} (hk : k < 3) {l : List Int} (hl3 : ∀ m ∈ l, 1 ≤ m ∧ m ≤ 3) {view : Int} {x : Rep} {ws : List Word}
    (hp : leadR (r k) view l = (x, ws, 0)) (hnew : ∀ t ∈ views, t.view ≠ view) (hv : view = (r k).view + 1) :
    ∃ g', Inv1 g' (upd r k x) (net ++ ws) (views ++ [⟨view, k, l⟩]) fx ∧ g'.V = view ∧ g'.who view = k := by
  have hr := h.rk k hk
  have hview := hr.view
  unfold leadR at hp
  split at hp
  rotate_left
  · simp at hp
  rename_i hgood
  obtain ⟨-, q1, q2, q3, q4⟩ := hgood
  rw [if_neg (fun e => by omega)] at hp
  split at hp
  · simp at hp
  rename_i hmm
  split at hp
  · simp at hp
  rename_i hmax
  simp only [Prod.mk.injEq, and_true] at hp
  obtain ⟨rfl, rfl⟩ := hp
  have hmne : (r k).members ≠ [] := fun e => hmm (.inr e)
  have hV : (r k).view = g.V := by
    rcases Int.lt_or_le (r k).view g.V with h' | h'
    · obtain ⟨t, t1, t2⟩ := h.all ((r k).view + 1) (by omega) (by omega)
      exact absurd (t2.trans hv.symm) (hnew t t1)
    · omega
  have hview' : view = g.V + 1 := by omega
  subst hview'
  obtain ⟨hm1, hm2⟩ : (r k).members = g.mem (r k).view ∧ idOf k ∈ g.mem (r k).view := hr.mem.resolve_left hmne
  rw [hV] at hm1 hm2
  obtain ⟨n1, n2, n3, n4, n5, n6⟩ := tell_new (g := g) (k := k) (l := l) (n := (r k).n + 1) (t := (r k).text)
  have old := fun {v : Int} (hv : v ≤ g.V) => tell_old (g := g) (k := k) (l := l) (n := (r k).n + 1) (t := (r k).text) hv
  generalize hg' : g.tell k l ((r k).n + 1) (r k).text = g' at n1 n2 n3 n4 n5 n6 old
  have hgo : Goes r k (leadNew (r k) (g.V + 1) l) := ⟨by show (r k).view ≤ g.V + 1; omega, fun e => by have : g.V + 1 = (r k).view := e; omega⟩
  have hrn := hr.n
  rw [hV] at hrn
  have hack : ∀ {j : Nat} {v n : Int}, v ≤ g.V → AckOK g r j v n → AckOK g' (upd r k (leadNew (r k) (g.V + 1) l)) j v n := fun {j v n} hvv ha => by
    obtain ⟨a1, a2, a3⟩ := hgo.ack ha
    refine ⟨a1, a2, fun h1 h2 => ?_⟩
    by_cases hvV : v = g.V
    · subst hvV
      rw [n1] at h2
      subst h2
      rw [n3]
      have := ha.2.1 hV
      omega
    · obtain ⟨o1, o2, o3, o4, o5⟩ := old (v := v + 1) (by omega)
      rw [o3]
      rw [o1] at h2
      exact a3 (by omega) h2
  have hevd : ∀ {v b : Int}, v ≤ g.V → Evd g r v b → Evd g' (upd r k (leadNew (r k) (g.V + 1) l)) v b := fun {v b} hvv ha => by
    obtain ⟨o1, o2, o3, o4, o5⟩ := old hvv
    rcases hgo.evd ha with h' | h'
    · exact .inl (by rw [o3]; exact h')
    · exact .inr (by rw [o2]; exact h')
  -- what counts avs fixed in the view that ends is in the next one
  have hin : ∀ {b : Int}, g.n0 g.V ≤ b → Evd g r g.V b → b ≤ (r k).n := fun hb he => by
    rcases he with he | he
    · rw [he]; exact hrn.1
    · exact (he k hk hm2).2 hV
  have hnext : ∀ {v b : Int}, v ≤ g.V → g.n0 v ≤ b → (v + 1 ≤ g.V → b ≤ g.n0 (v + 1) - 1) → Evd g r v b → (v + 1 ≤ g'.V → b ≤ g'.n0 (v + 1) - 1) := fun {v b} hvv hb h1 he h2 => by
    by_cases hvV : v = g.V
    · subst hvV
      rw [n3]
      have := hin hb he
      omega
    · obtain ⟨o1, o2, o3, o4, o5⟩ := old (v := v + 1) (by omega)
      rw [o3]; exact h1 (by omega)
  have hgk : GOK g' := by
    refine ⟨by rw [n6]; have := h.gk.V1; omega, fun v h1 h2 => ?_, fun v h1 h2 => ?_, fun v h1 h2 => ?_, fun v h1 h2 n m a1 a2 a3 => ?_, fun v h1 h2 => ?_⟩
    · by_cases e : v = g.V + 1
      · subst e; rw [n1]; exact hk
      · rw [(old (by omega)).1]; exact h.gk.who v h1 (by omega)
    · by_cases e : v = g.V + 1
      · subst e; rw [n1, n2]; exact ⟨q1, hl3, by rw [q2, hr.id]⟩
      · obtain ⟨o1, o2, -⟩ := old (v := v) (by omega)
        rw [o1, o2]; exact h.gk.set v h1 (by omega)
    · by_cases e : v = g.V + 1
      · subst e
        rw [n3, n4]
        have := (h.gk.n0 g.V h.gk.V1 (Int.le_refl _)).1
        exact ⟨by omega, Int.le_refl _⟩
      · obtain ⟨o1, o2, o3, o4, -⟩ := old (v := v) (by omega)
        rw [o3, o4]; exact h.gk.n0 v h1 (by omega)
    · by_cases e : v = g.V + 1
      · subst e; rw [n5, n5]; exact List.prefix_refl _
      · obtain ⟨o1, o2, o3, o4, o5⟩ := old (v := v) (by omega)
        rw [o3] at a1
        rw [o4] at a3
        rw [o5, o5]; exact h.gk.chain v h1 (by omega) n m a1 a2 a3
    · by_cases e : v = g.V
      · subst e
        obtain ⟨o1, o2, o3, o4, o5⟩ := old (v := g.V) (Int.le_refl _)
        rw [n1, n3, n5, o2, o3, o4, o5]
        refine ⟨hm2, by omega, by omega, ?_⟩
        rw [Int.add_sub_cancel, ← hV]; exact hr.text
      · obtain ⟨o1, o2, o3, o4, o5⟩ := old (v := v) (by omega)
        obtain ⟨p1, p2, p3, p4, p5⟩ := old (v := v + 1) (by omega)
        rw [p1, p3, p5, o2, o3, o4, o5]
        exact h.gk.next v h1 (by omega)
  have hlx : leadsR (leadNew (r k) (g.V + 1) l) = true := (leads_iff _).2 q2
  refine ⟨g', ⟨hgk, fun j hj => ?_, fun v h1 h2 => ?_, fun z hz => ?_, fun t ht => ?_, fun v h1 h2 => ?_, fun z hz => ?_⟩, n6, n1⟩
  · by_cases e : j = k
    · subst e
      have hpx : RP (leadNew (r j) (g.V + 1) l) := by
        refine ⟨hr.right.id, ⟨by show 0 ≤ g.V + 1; omega, by show g.V + 1 ≤ _; omega⟩, ⟨by show 0 ≤ (r j).n + 1; have := hr.right.n; omega, by show (r j).n + 1 ≤ _; have := hr.right.n; omega⟩, q1, ⟨by simp [leadNew], fun m hm => ?_, by simp [leadNew]⟩, fun a ha => ?_, fun _ => ?_, fun _ => ⟨by simp [leadNew], fun _ => rfl⟩, fun hn => by rw [hlx] at hn; cases hn⟩
        · have : m = (r j).id := by simpa [leadNew] using hm
          subst this; exact hr.right.id
        · have : a = (r j).id := by simpa [leadNew] using ha
          subst this
          exact List.mem_of_mem_head? q2
        · exact List.mem_of_mem_head? q2
      refine ⟨by rw [upd_k]; exact hr.id, by rw [upd_k]; exact hpx, by rw [upd_k, n6]; exact ⟨by show 1 ≤ g.V + 1; omega, Int.le_refl _⟩, ?_, ?_, ?_, ?_, ?_, ?_⟩
      · rw [upd_k]; show g'.n0 (g.V + 1) ≤ (r j).n + 1 ∧ (r j).n + 1 ≤ g'.top (g.V + 1); rw [n3, n4]; exact ⟨Int.le_refl _, Int.le_refl _⟩
      · rw [upd_k]; show (r j).text = g'.τ (g.V + 1) ((r j).n + 1); rw [n5]
      · rw [upd_k]; right
        show l = g'.mem (g.V + 1) ∧ idOf j ∈ g'.mem (g.V + 1)
        rw [n2]; exact ⟨rfl, by rw [← hr.id]; exact List.mem_of_mem_head? q2⟩
      · rw [upd_k]; intro _; show (r j).n + 1 = g'.top (g.V + 1); rw [n4]
      · rw [upd_k]; intro _
        refine ⟨(r j).n + 1, ?_, Int.le_refl _, ?_, fun hv => ?_, .inl ?_⟩
        · show g'.n0 (g.V + 1) ≤ _; rw [n3]; exact Int.le_refl _
        · show (r j).text = g'.τ (g.V + 1) _; rw [n5]
        · exfalso; have : g.V + 1 + 1 ≤ g'.V := hv; omega
        · show _ = g'.n0 (g.V + 1); rw [n3]
      · rw [upd_k]; intro _ a ha hne
        have : a = (r j).id := by simpa [leadNew] using ha
        exact absurd this hne
    · have hj' := h.rk j hj
      have eu : upd r k (leadNew (r k) (g.V + 1) l) j = r j := by simp [upd, e]
      obtain ⟨o1, o2, o3, o4, o5⟩ := old hj'.view.2
      refine ⟨by rw [eu]; exact hj'.id, by rw [eu]; exact hj'.right, by rw [eu, n6]; have := hj'.view; omega, by rw [eu, o3, o4]; exact hj'.n, by rw [eu, o5]; exact hj'.text, by rw [eu, o2]; exact hj'.mem, by rw [eu, o4]; exact hj'.top, ?_, ?_⟩
      · rw [eu]; intro hlj
        obtain ⟨b, b1, b2, b3, b4, b5⟩ := hj'.base hlj
        exact ⟨b, by rw [o3]; exact b1, b2, by rw [o5]; exact b3, hnext hj'.view.2 b1 b4 b5, hevd hj'.view.2 b5⟩
      · rw [eu]; intro hlj a ha hne
        obtain ⟨i, i1, i2, i3⟩ := hj'.acks hlj a ha hne
        exact ⟨i, i1, i2, hack hj'.view.2 i3⟩
  · by_cases e : v = g.V + 1
    · subst e
      rw [n1, upd_k]; exact Int.le_refl _
    · have := h.told v h1 (by omega)
      rw [(old (by omega)).1]
      simp only [upd]; split
      · rename_i e'; rw [e'] at this; exact Int.le_trans this hgo.view
      · exact this
  · rcases List.mem_append.1 hz with hz | hz
    · have hw := h.netk z hz
      refine ⟨fun e => ?_, fun e => ?_, fun e => by rw [n6]; have := hw.past e; omega⟩
      · obtain ⟨s1, s2, s3, s4, s5, s6, s7⟩ := hw.ship e
        obtain ⟨o1, o2, o3, o4, o5⟩ := old s2
        exact ⟨s1, by omega, by rw [o3]; exact s3, by rw [o4]; exact s4, by rw [o5]; exact s5, by rw [o2]; exact s6, by rw [o1]; exact s7⟩
      · obtain ⟨j, j1, j2, j3⟩ := hw.ack e
        exact ⟨j, j1, j2, hack (Int.le_trans j3.1 (h.rk j j1).view.2) j3⟩
    · obtain ⟨z1, z2, z3, z4, z5, z6⟩ := ships_of hz
      refine ⟨fun _ => ?_, fun e => by omega, fun e => by omega⟩
      have e3 : z.view = g.V + 1 := z3
      have e4 : z.n = (r k).n + 1 := z4
      have e5 : z.members = l := z5
      have e6 : z.text = (r k).text := z6
      have e2 : z.frm = (r k).id := z2
      rw [e3, e4, e5, e6, e2, n1, n2, n3, n4, n5, n6]
      have := h.gk.V1
      exact ⟨by omega, Int.le_refl _, Int.le_refl _, Int.le_refl _, rfl, rfl, hr.id⟩
  · rcases List.mem_append.1 ht with ht | ht
    · obtain ⟨t1, t2, t3⟩ := h.viewk t ht
      exact ⟨t1, by omega, by rw [(old t2).1]; exact t3⟩
    · have : t = ⟨g.V + 1, k, l⟩ := by simpa using ht
      subst this
      have := h.gk.V1
      exact ⟨by show 2 ≤ g.V + 1; omega, by show g.V + 1 ≤ _; omega, by show (k : Int) = _; rw [n1]⟩
  · by_cases e : v = g.V + 1
    · exact ⟨_, List.mem_append.2 (.inr (List.mem_singleton.2 rfl)), e.symm⟩
    · obtain ⟨t, t1, t2⟩ := h.all v h1 (by omega)
      exact ⟨t, List.mem_append.2 (.inl t1), t2⟩
  · have hw := h.fxk z hz
    obtain ⟨b, b1, b2, b3, b4, b5⟩ := hw.b
    obtain ⟨o1, o2, o3, o4, o5⟩ := old hw.at_.2
    refine ⟨by rw [n6]; have := hw.at_; omega, ⟨b, by rw [o3]; exact b1, by rw [o4]; exact b2, by rw [o5]; exact b3, hnext hw.at_.2 b1 b4 b5, hevd hw.at_.2 b5⟩, fun j hj hlj hv => ?_⟩
    by_cases e : j = k
    · subst e
      rw [upd_k] at hv
      have : g.V + 1 = z.at_ := hv
      have := hw.at_
      omega
    · have eu : upd r k (leadNew (r k) (g.V + 1) l) j = r j := by simp [upd, e]
      rw [eu] at hlj hv ⊢
      exact hw.now j hj hlj hv
def r0 (k : Nat) : Rep := ⟨idOf k, 1, [1, 2, 3], 1, [], [], if k = 0 then [1, 2, 3] else []⟩
end
end Sg
namespace Sg
set_option linter.unusedSimpArgs false
set_option linter.unusedVariables false
structure Thr where
  r : Nat → Rep
  net : List Word
  views : List Told
  fx : List Fixd
  count : Int
def sayN (net l : List Word) : List Word := l.foldl (fun n x => if n.length < 200 then n ++ [x] else n) net
theorem sayN_mem : ∀ {l net : List Word} {x : Word}, x ∈ sayN net l → x ∈ net ∨ x ∈ l
  | [], net, x, h => .inl h
  | y :: l, net, x, h => by
    have h' : x ∈ sayN (if net.length < 200 then net ++ [y] else net) l := h
    rcases sayN_mem h' with h1 | h1
    · split at h1
      · rcases List.mem_append.1 h1 with h1 | h1
        · exact .inl h1
        · exact .inr (by simp at h1; simp [h1])
      · exact .inl h1
    · exact .inr (by simp [h1])
theorem sayN_all : ∀ {l net : List Word}, net.length + l.length ≤ 200 → sayN net l = net ++ l
  | [], net, _ => by simp [sayN]
  | y :: l, net, h => by
    have h' : net.length < 200 := by simp at h; omega
    show sayN (if net.length < 200 then net ++ [y] else net) l = _
    rw [if_pos h', sayN_all (by simp at h ⊢; omega)]
    simp
def offN (net : List Word) (i : Nat) : List Word := net.take i ++ net.drop (i + 1)
theorem offN_mem {net : List Word} {i : Nat} {x : Word} (h : x ∈ offN net i) : x ∈ net := by
  rcases List.mem_append.1 h with h | h
  · exact List.mem_of_mem_take h
  · exact List.mem_of_mem_drop h
def hearT (t : Thr) (x : Word) : Thr :=
  if x.to < 1 ∨ 3 < x.to then t else
    { t with r := upd t.r (x.to - 1).toNat (hearR (t.r (x.to - 1).toNat) x).1, net := sayN t.net (hearR (t.r (x.to - 1).toNat) x).2 }
def letter (n : Int) : UInt8 := UInt8.ofNat ((Go.IntKind.u8.wrap (97 + n.tmod 26)).toNat)
def propT (t : Thr) (k : Nat) : Thr :=
  if (proposeR (t.r k) ((t.r k).base ++ [letter (t.count + 1)])).2.2 = 0 then
    { t with count := t.count + 1, r := upd t.r k (proposeR (t.r k) ((t.r k).base ++ [letter (t.count + 1)])).1, net := sayN t.net (proposeR (t.r k) ((t.r k).base ++ [letter (t.count + 1)])).2.1 }
  else { t with count := t.count + 1 }
def bitB (bits m : Int) : Bool := match intBin .and .i64 (bits.fdiv (2 ^ (min m.toNat 64))) 1 with
  | some (.int _ x) => decide (x = 1)
  | _ => false
def bitF (k : Nat) (bits m : Int) : Bool := !decide (m = idOf k) && bitB bits m
def bitsM (k : Nat) (bits : Int) : List Int := idOf k :: ([1, 2, 3].filter (bitF k bits))
def tellT (views : List Told) (t : Told) : Option Told :=
  match views with
  | [] => some t
  | v :: vs => if v.view = t.view ∧ v.who ≠ t.who then none else tellT vs (if v.view = t.view then ⟨v.view, t.who, v.members⟩ else t)
def leadT (t : Thr) (k : Nat) (bits : Int) : Thr :=
  match tellT t.views ⟨(t.r k).view + 1, k, bitsM k bits⟩ with
  | none => t
  | some v => if (leadR (t.r k) v.view v.members).2.2 = 0 then
      { t with views := t.views ++ [v], r := upd t.r k (leadR (t.r k) v.view v.members).1, net := sayN t.net (leadR (t.r k) v.view v.members).2.1 } else t
structure Act14 where
  kind : Int
  who : Int
  n : Int
def u64 (n : Int) : Int := Go.IntKind.u64.wrap n
def actT (t : Thr) (a : Act14) : Thr :=
  let k := ((u64 a.who).tmod 3).toNat
  let n := (u64 a.kind).tmod 12
  if n < 3 then propT t k
  else if n = 10 then { t with net := sayN t.net (if busyR (t.r k) then shipsR (t.r k) else []) }
  else if n = 11 then leadT t k ((u64 a.n).tmod 16)
  else match t.net with
    | [] => t
    | _ => let i := ((u64 a.n).tmod t.net.length).toNat
      if n = 8 then { t with net := offN t.net i }
      else if n = 9 then (match t.net[i]? with | some x => hearT t x | none => t)
      else (match t.net[i]? with | some x => hearT { t with net := offN t.net i } x | none => t)
abbrev IT (g : Gh) (t : Thr) : Prop := Inv1 g t.r t.net t.views t.fx
def LastT (g : Gh) (t : Thr) : Prop := leadsR (t.r (g.who g.V)) = true ∧ (t.r (g.who g.V)).view = g.V
section
variable {g : Gh} {t : Thr}
theorem hear_last {r : Nat → Rep} {k : Nat} {x : Word} (hk : k < 3) (hr : ROK g r k) (hx : WOK g r x) (hl : leadsR (r k) = true) (hv : (r k).view = g.V) :
    leadsR (hearR (r k) x).1 = true ∧ (hearR (r k) x).1.view = g.V := by
  unfold hearR
  split
  rotate_left
  · exact ⟨hl, hv⟩
  split
  rotate_left
  · exact ⟨hl, hv⟩
  split
  · rename_i h1
    unfold shipR
    split
    · exact ⟨hl, hv⟩
    split
    rotate_left
    · exact ⟨hl, hv⟩
    split
    rotate_left
    · exact ⟨hl, hv⟩
    split
    rotate_left
    · exact ⟨hl, hv⟩
    unfold shipT
    split
    · exact ⟨hl, hv⟩
    rename_i c1
    have h2 := (hx.ship h1).2.1
    rw [if_pos ⟨by omega, .inl hl⟩]
    exact ⟨hl, hv⟩
  split
  · split
    · obtain ⟨e1, e2, e3, e4, e5, e6⟩ := fix_fields (ackR (r k) x)
      exact ⟨by rw [leads_fix]; exact hl, by rw [e2]; exact hv⟩
    · exact ⟨hl, hv⟩
  split
  · rename_i h3
    split
    · have := hx.past h3; omega
    · exact ⟨hl, hv⟩
  · exact ⟨hl, hv⟩
theorem IT.hear (h : IT g t) {x : Word} (hx : WOK g t.r x) : IT g (hearT t x) ∧ (LastT g t → LastT g (hearT t x)) := by
  unfold hearT
  split
  · exact ⟨h, fun hl => hl⟩
  rename_i hn
  have hk : (x.to - 1).toNat < 3 := by omega
  have h1 := Inv1.hear h hk hx
  refine ⟨h1.say fun y hy => h1.netk y (List.mem_append.2 (sayN_mem hy)), fun hl => ?_⟩
  by_cases e : g.who g.V = (x.to - 1).toNat
  · obtain ⟨l1, l2⟩ := hl
    rw [e] at l1 l2
    have := hear_last hk (h.rk _ hk) hx l1 l2
    simp only [LastT, e, upd_k]
    exact this
  · simp only [LastT, upd, if_neg e]; exact hl
theorem IT.off (h : IT g t) (i : Nat) : IT g { t with net := offN t.net i } := Inv1.say h fun y hy => h.netk y (offN_mem hy)
theorem IT.prop (h : IT g t) {k : Nat} (hk : k < 3) : ∃ g', IT g' (propT t k) ∧ (LastT g t → LastT g' (propT t k)) := by
  unfold propT
  split
  · rename_i he
    generalize hp : proposeR (t.r k) ((t.r k).base ++ [letter (t.count + 1)]) = q at he ⊢
    obtain ⟨x, l, e⟩ := q
    simp only at he
    subst he
    obtain ⟨g', h1, h2, h3⟩ := Inv1.propose h hk hp
    refine ⟨g', h1.say fun y hy => h1.netk y (List.mem_append.2 (sayN_mem hy)), fun hl => ?_⟩
    simp only [LastT, h2, h3]
    by_cases e : g.who g.V = k
    · rw [e, upd_k]
      obtain ⟨l1, l2⟩ := hl
      rw [e] at l1 l2
      unfold proposeR at hp
      rw [if_pos ((right_iff1 _).2 (h.rk k hk).right), if_pos l1] at hp
      split at hp <;> try (simp at hp; done)
      split at hp <;> try (simp at hp; done)
      simp only [Prod.mk.injEq, and_true] at hp
      obtain ⟨rfl, -⟩ := hp
      obtain ⟨e1, e2, e3, e4, e5, e6⟩ := fix_fields ⟨(t.r k).id, (t.r k).view, (t.r k).members, (t.r k).n + 1, (t.r k).base, (t.r k).base ++ [letter (t.count + 1)], [(t.r k).id]⟩
      exact ⟨by rw [leads_fix]; exact l1, by rw [e2]; exact l2⟩
    · simp only [upd, if_neg e]; exact hl
  · exact ⟨g, h, fun hl => hl⟩
theorem bits_mem {k : Nat} {bits m : Int} (hk : k < 3) (h : m ∈ bitsM k bits) : 1 ≤ m ∧ m ≤ 3 := by
  unfold bitsM at h
  rcases List.mem_cons.1 h with rfl | h
  · unfold idOf; omega
  · have := (List.mem_filter.1 h).1
    simp at this; omega
theorem tell_none : ∀ {views : List Told} {t v : Told}, tellT views t = some v → (∀ u ∈ views, u.view = t.view → u.who ≠ t.who) → v = t ∧ ∀ u ∈ views, u.view ≠ t.view
  | [], t, v, h, _ => by simp only [tellT, Option.some.injEq] at h; exact ⟨h.symm, fun u hu => by simp at hu⟩
  | u :: us, t, v, h, hn => by
    simp only [tellT] at h
    split at h
    · simp at h
    rename_i hc
    have hne : u.view ≠ t.view := fun e => hc ⟨e, hn u (by simp) e⟩
    rw [if_neg hne] at h
    obtain ⟨h1, h2⟩ := tell_none h (fun w hw => hn w (by simp [hw]))
    exact ⟨h1, fun w hw => by
      rcases List.mem_cons.1 hw with rfl | hw
      · exact hne
      · exact h2 w hw⟩
theorem IT.lead (h : IT g t) {k : Nat} (hk : k < 3) (bits : Int) : ∃ g', IT g' (leadT t k bits) ∧ (LastT g t → LastT g' (leadT t k bits)) := by
  unfold leadT
  split
  · exact ⟨g, h, fun hl => hl⟩
  rename_i v hv
  obtain ⟨rfl, hnew⟩ := tell_none hv (fun u hu e e' => by
    obtain ⟨a1, a2, a3⟩ := h.viewk u hu
    simp only at e e'
    have : g.who u.view = k := by omega
    have h2 := h.told u.view (by omega) a2
    rw [this, e] at h2
    omega)
  simp only
  split
  · rename_i he
    generalize hp : leadR (t.r k) ((t.r k).view + 1) (bitsM k bits) = q at he ⊢
    obtain ⟨x, l, e⟩ := q
    simp only at he
    subst he
    obtain ⟨g', h1, h2, h3⟩ := Inv1.lead h hk (fun m hm => bits_mem hk hm) hp hnew rfl
    refine ⟨g', h1.say fun y hy => h1.netk y (List.mem_append.2 (sayN_mem hy)), fun _ => ?_⟩
    simp only [LastT, h2, h3, upd_k]
    unfold leadR at hp
    split at hp <;> try (simp at hp; done)
    rename_i hgood
    obtain ⟨-, -, q2, -, -⟩ := hgood
    rw [if_neg (fun e => by omega)] at hp
    split at hp <;> try (simp at hp; done)
    split at hp <;> try (simp at hp; done)
    simp only [Prod.mk.injEq, and_true] at hp
    obtain ⟨rfl, -⟩ := hp
    exact ⟨(leads_iff _).2 q2, rfl⟩
  · exact ⟨g, h, fun hl => hl⟩
theorem ships_ok (h : IT g t) {k : Nat} (hk : k < 3) (hl : leadsR (t.r k) = true) {x : Word} (hx : x ∈ shipsR (t.r k)) : WOK g t.r x := by
  obtain ⟨z1, z2, z3, z4, z5, z6⟩ := ships_of hx
  have hr := h.rk k hk
  obtain ⟨w1, w2⟩ := hr.who h.gk hl
  refine ⟨fun _ => ?_, fun e => by omega, fun e => by omega⟩
  rw [z3, z4, z5, z6, z2, w1]
  exact ⟨hr.view.1, hr.view.2, hr.n.1, hr.n.2, hr.text, w2, hr.id⟩
theorem who_lt (n : Int) : ((u64 n).tmod 3).toNat < 3 := by
  have h1 : 0 ≤ u64 n := by unfold u64; simp [Go.IntKind.wrap, Go.IntKind.bits, Go.IntKind.signed]; omega
  have := Int.tmod_lt_of_pos (u64 n) (b := 3) (by omega)
  have := Int.tmod_nonneg (b := 3) h1
  omega
theorem IT.act (h : IT g t) (a : Act14) : ∃ g', IT g' (actT t a) ∧ (LastT g t → LastT g' (actT t a)) := by
  have hk := who_lt a.who
  unfold actT
  generalize ((u64 a.who).tmod 3).toNat = k at hk
  simp only
  split
  · exact h.prop hk
  split
  · refine ⟨g, Inv1.say h fun y hy => ?_, fun hl => hl⟩
    rcases sayN_mem hy with hy | hy
    · exact h.netk y hy
    · split at hy
      · rename_i hb
        have : leadsR (t.r k) = true := by
          unfold busyR at hb
          simp only [Bool.and_eq_true] at hb
          exact hb.2.1
        exact ships_ok h hk this hy
      · simp at hy
  split
  · exact h.lead hk _
  split
  · exact ⟨g, h, fun hl => hl⟩
  split
  · exact ⟨g, h.off _, fun hl => hl⟩
  split
  · split
    · rename_i x hx; exact ⟨g, h.hear (h.netk x (List.mem_of_getElem? hx))⟩
    · exact ⟨g, h, fun hl => hl⟩
  · split
    · rename_i x hx; exact ⟨g, IT.hear (h.off _) (h.netk x (List.mem_of_getElem? hx))⟩
    · exact ⟨g, h, fun hl => hl⟩
end
end Sg
namespace Sg
set_option linter.unusedSimpArgs false
set_option linter.unusedVariables false
def msr : List Word → Nat
  | [] => 0
  | x :: l => (if x.kind = 1 then 2 else 1) + msr l
theorem msr_append (l m : List Word) : msr (l ++ m) = msr l + msr m := by
  induction l with
  | nil => simp [msr]
  | cons x l ih => simp only [List.cons_append, msr, ih]; omega
structure LI (g : Gh) (t : Thr) (N : Int) (T : List UInt8) : Prop where
  it : IT g t
  last : LastT g t
  n : (t.r (g.who g.V)).n = N
  text : (t.r (g.who g.V)).text = T
  net : ∀ x ∈ t.net, (x.kind = 1 ∧ x.frm = idOf (g.who g.V) ∧ x.view = g.V ∧ x.n = N ∧ x.members = g.mem g.V ∧ x.text = T ∧ x.to ∈ g.mem g.V ∧ x.to ≠ idOf (g.who g.V)) ∨
    (x.kind = 2 ∧ x.to = idOf (g.who g.V) ∧ x.view = g.V ∧ x.n = N ∧ x.frm ∈ g.mem g.V)
  mem : ∀ m ∈ g.mem g.V, m ∈ (t.r (g.who g.V)).acks ∨ ∃ x ∈ t.net, x.kind = 1 ∧ x.to = m ∨ x.kind = 2 ∧ x.frm = m
  len : t.net.length ≤ 8
section
variable {g : Gh} {t : Thr} {N : Int} {T : List UInt8}
theorem LI.ship (h : LI g t N T) {x : Word} {rest : List Word} (hn : t.net = x :: rest) (h1 : x.kind = 1) :
    LI g (hearT { t with net := rest } x) N T ∧ msr (hearT { t with net := rest } x).net + 1 ≤ msr t.net := by
  have hV1 := h.it.gk.V1
  have hw := h.it.gk.who g.V hV1 (Int.le_refl _)
  have hx := (h.net x (by rw [hn]; simp)).resolve_right (fun e => by omega)
  obtain ⟨-, x2, x3, x4, x5, x6, x7, x8⟩ := hx
  obtain ⟨hset, hm3, hhead⟩ := h.it.gk.set g.V hV1 (Int.le_refl _)
  have hto := hm3 _ x7
  have hto' : ¬ (x.to < 1 ∨ 3 < x.to) := by omega
  have hk : (x.to - 1).toNat < 3 := by omega
  have hid : idOf (x.to - 1).toNat = x.to := by unfold idOf; omega
  generalize hkk : (x.to - 1).toNat = k at hk hid
  have hr := h.it.rk k hk
  have htop := h.it.rk _ hw
  have hne : k ≠ g.who g.V := fun e => x8 (by rw [← hid, e])
  have htopn := htop.top h.last.1
  rw [h.last.2, h.n] at htopn
  have hnn : 1 ≤ N ∧ N ≤ 1099511627776 := by
    have a1 := htop.right.n; have a2 := htop.n.1; have a3 := (h.it.gk.n0 g.V hV1 (Int.le_refl _)).1
    rw [h.last.2] at a2
    rw [h.n] at a1 a2
    omega
  have hvv : g.V ≤ 1099511627776 := by have := htop.right.view.2; rw [h.last.2] at this; exact this
  -- what it hears
  have key : ∃ y, hearR (t.r k) x = (y, [⟨2, idOf k, idOf (g.who g.V), g.V, N, [], []⟩]) := by
    unfold hearR
    rw [if_pos ((right_iff1 _).2 hr.right), if_pos (by rw [hr.id, hid]), if_pos h1]
    unfold shipR
    have c1 : decide (x.frm = (t.r k).id) = false := decide_eq_false (by rw [x2, hr.id]; exact fun e => hne (idOf_inj e).symm)
    have c2 : membR x.members (t.r k).id x.frm = true := by
      simp only [membR, Bool.and_eq_true, decide_eq_true_eq]
      rw [x5, x2, hr.id]
      exact ⟨hset, by rw [hid]; exact x7, hhead⟩
    have c3 : numG x.view 1 = true := by simp only [numG, Bool.and_eq_true, decide_eq_true_eq]; omega
    have c4 : numG x.n 1 = true := by simp only [numG, Bool.and_eq_true, decide_eq_true_eq]; omega
    rw [c1, c2, c3, c4]
    simp only [Bool.false_eq_true, if_false, if_true]
    unfold shipT
    have hv := hr.view
    rw [if_neg (by omega)]
    have hn2 : ¬ (x.view = (t.r k).view ∧ (leadsR (t.r k) = true ∨ x.n < (t.r k).n)) := by
      rintro ⟨e1, e2⟩
      have hvk : (t.r k).view = g.V := by omega
      rcases e2 with e2 | e2
      · have := (hr.who h.it.gk e2).1
        rw [hvk] at this
        exact hne this.symm
      · have := hr.n.2
        rw [hvk] at this
        omega
    rw [if_neg hn2]
    split
    · exact ⟨_, by rw [hr.id, x2, x3, x4]⟩
    · rename_i c5
      have hvk : (t.r k).view = g.V := by
        rcases Decidable.em (x.view = (t.r k).view) with e | e
        · omega
        · exact absurd (.inl e) c5
      have hnk : (t.r k).n = N := by
        have h2 := hr.n.2
        rw [hvk] at h2
        have h3 : ¬ (t.r k).n < x.n := fun e => c5 (.inr e)
        omega
      exact ⟨_, by rw [hr.id, x2, hvk, hnk]⟩
  obtain ⟨y, hy⟩ := key
  have hlen : rest.length + 1 ≤ 8 := by have := h.len; rw [hn] at this; simpa using this
  have hsub : IT g { t with net := rest } := Inv1.say h.it fun z hz => h.it.netk z (by rw [hn]; simp [hz])
  have hwx : WOK g t.r x := h.it.netk x (by rw [hn]; simp)
  have hit := IT.hear hsub hwx
  have hT : hearT { t with net := rest } x = { t with r := upd t.r k y, net := rest ++ [⟨2, idOf k, idOf (g.who g.V), g.V, N, [], []⟩] } := by
    unfold hearT
    rw [if_neg hto']
    simp only [hkk, hy]
    rw [sayN_all (by simp; omega)]
  rw [hT] at hit ⊢
  have hlead : upd t.r k y (g.who g.V) = t.r (g.who g.V) := by simp [upd, Ne.symm hne]
  refine ⟨⟨hit.1, hit.2 h.last, by simp only [hlead]; exact h.n, by simp only [hlead]; exact h.text, fun z hz => ?_, fun m hm => ?_, by simp; omega⟩, ?_⟩
  · rcases List.mem_append.1 hz with hz | hz
    · exact h.net z (by rw [hn]; simp [hz])
    · have : z = ⟨2, idOf k, idOf (g.who g.V), g.V, N, [], []⟩ := by simpa using hz
      subst this
      exact .inr ⟨rfl, rfl, rfl, rfl, by show idOf k ∈ _; rw [hid]; exact x7⟩
  · simp only [hlead]
    rcases h.mem m hm with h' | ⟨z, hz, hz'⟩
    · exact .inl h'
    · rw [hn] at hz
      rcases List.mem_cons.1 hz with rfl | hz
      · refine .inr ⟨⟨2, idOf k, idOf (g.who g.V), g.V, N, [], []⟩, by simp, .inr ⟨rfl, ?_⟩⟩
        rcases hz' with ⟨_, e⟩ | ⟨e, _⟩
        · show idOf k = m; rw [hid]; exact e
        · omega
      · exact .inr ⟨z, by simp [hz], hz'⟩
  · rw [hn]
    simp only [msr_append, msr, h1, if_true]
    simp
    omega
theorem LI.ack (h : LI g t N T) {x : Word} {rest : List Word} (hn : t.net = x :: rest) (h2 : x.kind = 2) :
    LI g (hearT { t with net := rest } x) N T ∧ msr (hearT { t with net := rest } x).net + 1 ≤ msr t.net := by
  have hV1 := h.it.gk.V1
  have hw := h.it.gk.who g.V hV1 (Int.le_refl _)
  have hx := (h.net x (by rw [hn]; simp)).resolve_left (fun e => by omega)
  obtain ⟨-, x2, x3, x4, x5⟩ := hx
  have hto' : ¬ (x.to < 1 ∨ 3 < x.to) := by rw [x2]; unfold idOf; omega
  have hkk : (x.to - 1).toNat = g.who g.V := by rw [x2]; unfold idOf; omega
  have htop := h.it.rk _ hw
  obtain ⟨w1, w2⟩ := htop.who h.it.gk h.last.1
  rw [h.last.2] at w2
  have hlen : rest.length + 1 ≤ 8 := by have := h.len; rw [hn] at this; simpa using this
  have hsub : IT g { t with net := rest } := Inv1.say h.it fun z hz => h.it.netk z (by rw [hn]; simp [hz])
  have hwx : WOK g t.r x := h.it.netk x (by rw [hn]; simp)
  have hit := IT.hear hsub hwx
  have key : ∃ y, hearR (t.r (g.who g.V)) x = (y, []) ∧ y.n = N ∧ y.text = T ∧ (∀ m ∈ (t.r (g.who g.V)).acks, m ∈ y.acks) ∧ x.frm ∈ y.acks := by
    unfold hearR
    rw [if_pos ((right_iff1 _).2 htop.right), if_pos (by rw [x2, htop.id]), if_neg (by omega), if_pos h2]
    split
    · rename_i hb
      obtain ⟨e1, e2, e3, e4, e5, e6⟩ := fix_fields (ackR (t.r (g.who g.V)) x)
      refine ⟨_, rfl, by rw [e4]; exact h.n, by rw [e5]; exact h.text, fun m hm => by rw [e6]; exact List.mem_append.2 (.inl hm), by rw [e6]; exact List.mem_append.2 (.inr (by simp))⟩
    · rename_i hb
      refine ⟨_, rfl, h.n, h.text, fun m hm => hm, ?_⟩
      by_cases hin : x.frm ∈ (t.r (g.who g.V)).acks
      · exact hin
      · exfalso
        apply hb
        simp only [ackB, Bool.and_eq_true, decide_eq_true_eq, Bool.not_eq_true', decide_eq_false_iff_not]
        exact ⟨h.last.1, by rw [x3, h.last.2], by rw [x4, h.n], by rw [w2]; exact x5, hin⟩
  obtain ⟨y, hy, y1, y2, y3, y4⟩ := key
  have hT : hearT { t with net := rest } x = { t with r := upd t.r (g.who g.V) y, net := rest } := by
    unfold hearT
    rw [if_neg hto']
    simp only [hkk, hy]
    rfl
  rw [hT] at hit ⊢
  refine ⟨⟨hit.1, hit.2 h.last, by simp only [upd_k]; exact y1, by simp only [upd_k]; exact y2, fun z hz => h.net z (by rw [hn]; simp [hz]), fun m hm => ?_, by show rest.length ≤ 8; omega⟩, ?_⟩
  · simp only [upd_k]
    rcases h.mem m hm with h' | ⟨z, hz, hz'⟩
    · exact .inl (y3 m h')
    · rw [hn] at hz
      rcases List.mem_cons.1 hz with rfl | hz
      · rcases hz' with ⟨e, _⟩ | ⟨_, e⟩
        · omega
        · exact .inl (e ▸ y4)
      · exact .inr ⟨z, hz, hz'⟩
  · rw [hn]
    simp only [msr, h2]
    simp
    omega
theorem LI.step (h : LI g t N T) {x : Word} {rest : List Word} (hn : t.net = x :: rest) : LI g (hearT { t with net := rest } x) N T ∧ msr (hearT { t with net := rest } x).net + 1 ≤ msr t.net := by
  rcases h.net x (by rw [hn]; simp) with hx | hx
  · exact h.ship hn hx.1
  · exact h.ack hn hx.1
theorem LI.done (h : LI g t N T) (hn : t.net = []) : allR (t.r (g.who g.V)) = true ∧ (t.r (g.who g.V)).base = (t.r (g.who g.V)).text ∧ (∀ m ∈ (t.r (g.who g.V)).members, 1 ≤ m ∧ m ≤ 3 ∧
    (t.r (m - 1).toNat).text = (t.r (g.who g.V)).text ∧ (t.r (m - 1).toNat).view = (t.r (g.who g.V)).view) := by
  have hV1 := h.it.gk.V1
  have hw := h.it.gk.who g.V hV1 (Int.le_refl _)
  have htop := h.it.rk _ hw
  obtain ⟨w1, w2⟩ := htop.who h.it.gk h.last.1
  rw [h.last.2] at w2
  have hall : ∀ m ∈ g.mem g.V, m ∈ (t.r (g.who g.V)).acks := fun m hm => by
    rcases h.mem m hm with h' | ⟨z, hz, _⟩
    · exact h'
    · rw [hn] at hz; simp at hz
  have ha : allR (t.r (g.who g.V)) = true := by
    simp only [allR, List.all_eq_true, decide_eq_true_eq]
    rw [w2]; exact hall
  refine ⟨ha, (htop.right.lead h.last.1).2 ha, fun m hm => ?_⟩
  rw [w2] at hm
  have hm3 := (h.it.gk.set g.V hV1 (Int.le_refl _)).2.1 m hm
  refine ⟨hm3.1, hm3.2, ?_⟩
  by_cases e : m = (t.r (g.who g.V)).id
  · rw [e, htop.id]
    have : (idOf (g.who g.V) - 1).toNat = g.who g.V := by unfold idOf; omega
    rw [this]
    exact ⟨rfl, rfl⟩
  · obtain ⟨j, j1, j2, j3⟩ := htop.acks h.last.1 m (hall m hm) e
    have hj : (m - 1).toNat = j := by rw [j2]; unfold idOf; omega
    rw [hj]
    have hrj := h.it.rk j j1
    have hvj : (t.r j).view = g.V := by have := j3.1; rw [h.last.2] at this; have := hrj.view.2; omega
    have hnj : (t.r j).n = N := by
      have h1 := j3.2.1 (by rw [h.last.2]; exact hvj)
      rw [h.n] at h1
      have h2 := hrj.n.2
      rw [hvj] at h2
      have h3 := htop.top h.last.1
      rw [h.last.2, h.n] at h3
      omega
    refine ⟨?_, by rw [hvj, h.last.2]⟩
    rw [hrj.text, hvj, hnj, htop.text, h.last.2, h.n]
theorem LI.begin (h : IT g t) (hl : LastT g t) : LI g { t with net := sayN [] (if busyR (t.r (g.who g.V)) then shipsR (t.r (g.who g.V)) else []) } (t.r (g.who g.V)).n (t.r (g.who g.V)).text ∧
    msr (sayN [] (if busyR (t.r (g.who g.V)) then shipsR (t.r (g.who g.V)) else [])) ≤ 16 := by
  have hV1 := h.gk.V1
  have hw := h.gk.who g.V hV1 (Int.le_refl _)
  have htop := h.rk _ hw
  obtain ⟨w1, w2⟩ := htop.who h.gk hl.1
  rw [hl.2] at w2
  have hsl : (shipsR (t.r (g.who g.V))).length ≤ 8 := by
    simp only [shipsR, List.length_map]
    exact Nat.le_trans (List.length_filter_le _ _) htop.right.sm.1
  generalize hl0 : (if busyR (t.r (g.who g.V)) then shipsR (t.r (g.who g.V)) else []) = l0
  have hl8 : l0.length ≤ 8 := by
    rw [← hl0]; split
    · exact hsl
    · simp
  have hsay : sayN [] l0 = l0 := by rw [sayN_all (by simp; omega)]; rfl
  rw [hsay]
  have hin : ∀ x ∈ l0, x ∈ shipsR (t.r (g.who g.V)) := fun x hx => by
    rw [← hl0] at hx
    split at hx
    · exact hx
    · simp at hx
  have hto : ∀ x ∈ shipsR (t.r (g.who g.V)), x.to ∈ g.mem g.V ∧ x.to ∉ (t.r (g.who g.V)).acks := fun x hx => by
    simp only [shipsR, List.mem_map, List.mem_filter] at hx
    obtain ⟨m, ⟨m1, m2⟩, rfl⟩ := hx
    rw [w2] at m1
    exact ⟨m1, by simpa using m2⟩
  refine ⟨⟨Inv1.say h fun x hx => ships_ok h hw hl.1 (hin x hx), hl, rfl, rfl, fun x hx => .inl ?_, fun m hm => ?_, hl8⟩, ?_⟩
  · obtain ⟨z1, z2, z3, z4, z5, z6⟩ := ships_of (hin x hx)
    obtain ⟨t1, t2⟩ := hto x (hin x hx)
    refine ⟨z1, by rw [z2]; exact htop.id, by rw [z3]; exact hl.2, z4, by rw [z5]; exact w2, z6, t1, fun e => t2 ?_⟩
    rw [e, ← htop.id]; exact (htop.right.lead hl.1).1
  · by_cases hma : m ∈ (t.r (g.who g.V)).acks
    · exact .inl hma
    · refine .inr ⟨⟨1, (t.r (g.who g.V)).id, m, (t.r (g.who g.V)).view, (t.r (g.who g.V)).n, (t.r (g.who g.V)).members, (t.r (g.who g.V)).text⟩, ?_, .inl ⟨rfl, rfl⟩⟩
      show _ ∈ l0
      have hb : busyR (t.r (g.who g.V)) = true := by
        simp only [busyR, Bool.and_eq_true, Bool.not_eq_true']
        refine ⟨(right_iff1 _).2 htop.right, hl.1, ?_⟩
        cases ha : allR (t.r (g.who g.V)) with
        | false => rfl
        | true =>
          exfalso
          simp only [allR, List.all_eq_true, decide_eq_true_eq] at ha
          exact hma (ha m (by rw [w2]; exact hm))
      rw [← hl0, if_pos hb]
      simp only [shipsR, List.mem_map, List.mem_filter]
      exact ⟨m, ⟨by rw [w2]; exact hm, by simpa using hma⟩, rfl⟩
  · have : ∀ l : List Word, msr l ≤ 2 * l.length := by
      intro l
      induction l with
      | nil => simp [msr]
      | cons x l ih => simp only [msr, List.length_cons]; split <;> omega
    have := this l0
    omega
end
end Sg
namespace Sg
open _root_.Go (IntKind BinOp UnOp)
end Sg
namespace Sg
open _root_.Go (IntKind BinOp UnOp)
set_option linter.unusedSimpArgs false
set_option linter.unusedVariables false
@[go_sem] def eTold (t : Told) : List V := [iz t.view, iz t.who, eInts t.members]
def eThrG (r : Nat → Rep) (v1 v2 v3 v4 v5 : V) : List V := eRep (r 0) ++ (eRep (r 1) ++ (eRep (r 2) ++ [v1, v2, v3, v4, v5]))
@[go_sem] def eThrO (t : Thr) (a b c d : Nat) : List V := eThrG t.r (.own a 7 t.net.length) (.own b 3 t.views.length) (.own c 1 t.fx.length) (.own d 1 t.fx.length) (iz t.count)
structure Arr4 (A : AA) (t : Thr) (a b c d : Nat) : Prop where
  ra : A a = some (7, t.net.map eWord, .live)
  rb : A b = some (3, t.views.map eTold, .live)
  rc : A c = some (1, t.fx.map (fun f => [.str f.text]), .live)
  rd : A d = some (1, t.fx.map (fun f => [iz f.at_]), .live)
  rn : a ≠ b ∧ a ≠ c ∧ a ≠ d ∧ b ≠ c ∧ b ≠ d ∧ c ≠ d
def HT (S : St) (v : Nat) (t : Thr) (a b c d : Nat) : Prop := S.μ v = some (eThrO t a b c d, false) ∧ Arr4 S.A t a b c d
theorem hand_dat {A : AA} : ∀ {l m : List V}, l.all V.datC = true → (∀ z, V.nslice z ∉ l) → handL (l ++ m) A = (handL m A).map fun r => (l ++ r.1, r.2)
  | [], m, _, _ => by cases h : handL m A <;> simp [h]
  | x :: l, m, hd, hn => by
    simp only [List.all_cons, Bool.and_eq_true] at hd
    have hx : handC A x = some (x, A) := by
      cases x <;> first | rfl | (simp [V.datC] at hd; done) | (exact absurd (List.mem_cons_self ..) (hn _))
    rw [List.cons_append, hand_cons, hx]
    simp only [Option.bind_some]
    rw [hand_dat hd.2 (fun z hz => hn z (by simp [hz]))]
    cases handL m A <;> simp
theorem take_dat {A : AA} : ∀ {l m : List V} {d : Nat}, l.all V.datC = true → takeL d (l ++ m) A = (takeL (d + l.length) m A).map fun r => (l ++ r.1, r.2)
  | [], m, d, _ => by cases h : takeL d m A <;> simp [h]
  | x :: l, m, d, hd => by
    simp only [List.all_cons, Bool.and_eq_true] at hd
    have hx : takeC d A x = some (x, A) := by
      cases x <;> first | rfl | (simp [V.datC] at hd; done)
    rw [List.cons_append, take_cons, hx]
    simp only [Option.bind_some]
    rw [take_dat hd.2, show d + 1 + l.length = d + (x :: l).length by simp; omega]
    cases takeL (d + (x :: l).length) m A <;> simp
theorem rep_dat (r : Rep) : (eRep r).all V.datC = true := rfl
section
variable {r : Nat → Rep} {v1 v2 v3 v4 v5 w : V} {k s : Nat} {S : St}
theorem thr_len : (eThrG r v1 v2 v3 v4 v5).length = 26 := rfl
theorem k3 (hk : k < 3) : k = 0 ∨ k = 1 ∨ k = 2 := by omega
theorem ld_21 : (eThrG r v1 v2 v3 v4 v5)[21]? = some v1 := rfl
theorem ld_22 : (eThrG r v1 v2 v3 v4 v5)[22]? = some v2 := rfl
theorem ld_23 : (eThrG r v1 v2 v3 v4 v5)[23]? = some v3 := rfl
theorem ld_24 : (eThrG r v1 v2 v3 v4 v5)[24]? = some v4 := rfl
theorem ld_25 : (eThrG r v1 v2 v3 v4 v5)[25]? = some v5 := rfl
theorem stv_rep (hk : k < 3) (x : Rep) : stV S s (k * 7) (eRep x) (some (eThrG r v1 v2 v3 v4 v5, false)) = some ⟨S.ρ, upd S.μ s (some (eThrG (upd r k x) v1 v2 v3 v4 v5, false)), S.A⟩ := by
  rcases k3 hk with rfl | rfl | rfl <;> rfl
theorem stv_rep' {a b n : Int} {l ak : List Int} {bs tx : List UInt8} (hk : k < 3) : stV S s (k * 7) [iz a, iz b, .slice 1 (l.map fun a => [iz a]), iz n, .str bs, .str tx, .slice 1 (ak.map fun a => [iz a])] (some (eThrG r v1 v2 v3 v4 v5, false)) =
    some ⟨S.ρ, upd S.μ s (some (eThrG (upd r k ⟨a, b, l, n, bs, tx, ak⟩) v1 v2 v3 v4 v5, false)), S.A⟩ := stv_rep hk ⟨a, b, l, n, bs, tx, ak⟩
theorem stv_21 : stV S s 21 [w] (some (eThrG r v1 v2 v3 v4 v5, false)) = some ⟨S.ρ, upd S.μ s (some (eThrG r w v2 v3 v4 v5, false)), S.A⟩ := rfl
theorem stv_22 : stV S s 22 [w] (some (eThrG r v1 v2 v3 v4 v5, false)) = some ⟨S.ρ, upd S.μ s (some (eThrG r v1 w v3 v4 v5, false)), S.A⟩ := rfl
theorem stv_23 : stV S s 23 [w] (some (eThrG r v1 v2 v3 v4 v5, false)) = some ⟨S.ρ, upd S.μ s (some (eThrG r v1 v2 w v4 v5, false)), S.A⟩ := rfl
theorem stv_24 : stV S s 24 [w] (some (eThrG r v1 v2 v3 v4 v5, false)) = some ⟨S.ρ, upd S.μ s (some (eThrG r v1 v2 v3 w v5, false)), S.A⟩ := rfl
theorem stv_25 : stV S s 25 [w] (some (eThrG r v1 v2 v3 v4 v5, false)) = some ⟨S.ρ, upd S.μ s (some (eThrG r v1 v2 v3 v4 w, false)), S.A⟩ := rfl
attribute [go_sem] ld_21 ld_22 ld_23 ld_24 ld_25 thr_len
attribute [go_sem high] stv_rep' stv_21 stv_22 stv_23 stv_24 stv_25
end
theorem ren_arr {A : AA} {t : Thr} {a b c d x h : Nat} (hA : Arr4 A t a b c d) : Arr4 (fun i => A (swp x h i)) t (swp x h a) (swp x h b) (swp x h c) (swp x h d) := by
  obtain ⟨n1, n2, n3, n4, n5, n6⟩ := hA.rn
  have inj : ∀ {p q : Nat}, p ≠ q → swp x h p ≠ swp x h q := fun {p q} hn e => hn (by
    have : ∀ r, swp x h (swp x h r) = r := fun r => by
      unfold swp
      by_cases e1 : r = x
      · subst e1; simp only [if_true]; split
        · rename_i e; exact e
        · rfl
      · rw [if_neg e1]
        by_cases e2 : r = h
        · subst e2; simp
        · rw [if_neg e2, if_neg e1, if_neg e2]
    rw [← this p, e, this q])
  have inv : ∀ r, swp x h (swp x h r) = r := fun r => by
      unfold swp
      by_cases e1 : r = x
      · subst e1; simp only [if_true]; split
        · rename_i e; exact e
        · rfl
      · rw [if_neg e1]
        by_cases e2 : r = h
        · subst e2; simp
        · rw [if_neg e2, if_neg e1, if_neg e2]
  exact ⟨by simp only [inv]; exact hA.ra, by simp only [inv]; exact hA.rb, by simp only [inv]; exact hA.rc, by simp only [inv]; exact hA.rd, inj n1, inj n2, inj n3, inj n4, inj n5, inj n6⟩
theorem HT.ren {S : St} {v x h : Nat} {t : Thr} {a b c d : Nat} (hT : HT S v t a b c d) : HT (S.ren x h) v t (swp x h a) (swp x h b) (swp x h c) (swp x h d) := by
  refine ⟨?_, ren_arr hT.2⟩
  show (S.μ v).map _ = _
  rw [hT.1]; rfl
theorem swp_keep {x h p : Nat} (h1 : p ≠ x) (h2 : p ≠ h) : swp x h p = p := by simp [swp, h1, h2]
theorem swp_in {T : List Nat} {x h y : Nat} (hx : x ∈ T) (hh : h ∈ T) (hy : y ∈ T) : swp x h y ∈ T := by
  unfold swp
  split
  · exact hh
  · split
    · exact hx
    · exact hy
theorem HT.head {S : St} {v : Nat} {t : Thr} {a b c d h1 h2 h3 h4 : Nat} {Wv Wa : List Nat} (hT : HT S v t a b c d) (hh : h1 ≠ h2 ∧ h1 ≠ h3 ∧ h1 ≠ h4 ∧ h2 ≠ h3 ∧ h2 ≠ h4 ∧ h3 ≠ h4)
    (hv : Wv.contains v = false) (hw : Wa.contains h1 = false ∧ Wa.contains h2 = false ∧ Wa.contains h3 = false ∧ Wa.contains h4 = false) :
    HT (S.head [] [v, 21, h1, v, 22, h2, v, 23, h3, v, 24, h4] Wv Wa) v t h1 h2 h3 h4 ∧ (∀ x, Wa.contains x = true → (S.head [] [v, 21, h1, v, 22, h2, v, 23, h3, v, 24, h4] Wv Wa).A x = none) ∧
      (∀ x, x ∉ [a, b, c, d, h1, h2, h3, h4] → S.A x = none → (S.head [] [v, 21, h1, v, 22, h2, v, 23, h3, v, 24, h4] Wv Wa).A x = none) := by
  obtain ⟨q1, q2, q3, q4, q5, q6⟩ := hh
  have s1 := hT.ren (x := a) (h := h1)
  rw [swp_l] at s1
  have e1 : S.swp1 v 21 h1 = S.ren a h1 := by rw [swp1_e, hT.1, sw1_s]; rfl
  have T0 : ∀ y ∈ [a, b, c, d, h1, h2, h3, h4], swp a h1 y ∈ [a, b, c, d, h1, h2, h3, h4] := fun y hy => swp_in (by simp) (by simp) hy
  have tb1 := T0 b (by simp)
  have tc1 := T0 c (by simp)
  have td1 := T0 d (by simp)
  generalize swp a h1 b = b1 at *
  generalize swp a h1 c = c1 at *
  generalize swp a h1 d = d1 at *
  obtain ⟨n1, n2, n3, n4, n5, n6⟩ := s1.2.rn
  have s2 := s1.ren (x := b1) (h := h2)
  rw [swp_l, swp_keep n1 q1] at s2
  have e2 : (S.ren a h1).swp1 v 22 h2 = (S.ren a h1).ren b1 h2 := by rw [swp1_e, s1.1, sw1_s]; rfl
  have tc2 := swp_in (h := h2) tb1 (by simp) tc1
  have td2 := swp_in (h := h2) tb1 (by simp) td1
  generalize swp b1 h2 c1 = c2 at *
  generalize swp b1 h2 d1 = d2 at *
  obtain ⟨m1, m2, m3, m4, m5, m6⟩ := s2.2.rn
  have s3 := s2.ren (x := c2) (h := h3)
  rw [swp_l, swp_keep m2 q2, swp_keep m4 q4] at s3
  have e3 : ((S.ren a h1).ren b1 h2).swp1 v 23 h3 = ((S.ren a h1).ren b1 h2).ren c2 h3 := by rw [swp1_e, s2.1, sw1_s]; rfl
  have td3 := swp_in (h := h3) tc2 (by simp) td2
  generalize swp c2 h3 d2 = d3 at *
  obtain ⟨l1, l2, l3, l4, l5, l6⟩ := s3.2.rn
  have s4 := s3.ren (x := d3) (h := h4)
  rw [swp_l, swp_keep l3 q3, swp_keep l5 q5, swp_keep l6 q6] at s4
  have e4 : (((S.ren a h1).ren b1 h2).ren c2 h3).swp1 v 24 h4 = (((S.ren a h1).ren b1 h2).ren c2 h3).ren d3 h4 := by rw [swp1_e, s3.1, sw1_s]; rfl
  have eh : S.head [] [v, 21, h1, v, 22, h2, v, 23, h3, v, 24, h4] Wv Wa = ((((S.ren a h1).ren b1 h2).ren c2 h3).ren d3 h4).scrub [] Wv Wa := by
    rw [head_sw, e1, head_sw, e2, head_sw, e3, head_sw, e4]; rfl
  rw [eh]
  refine ⟨⟨?_, ?_⟩, fun x hx => ?_, fun x hx h0 => ?_⟩
  · show (if Wv.contains v then none else _) = _
    rw [hv, s4.1]
    simp only [Bool.false_eq_true, if_false, Option.map_some]
    have : (eThrO t h1 h2 h3 h4).map (scrubC Wa) = eThrO t h1 h2 h3 h4 := by
      unfold eThrO eThrG
      simp only [List.map_append, scrub_data (rep_dat _), List.map_cons, List.map_nil, scrubC, hw.1, hw.2.1, hw.2.2.1, hw.2.2.2]
      rfl
    rw [this]
    cases Wa.isEmpty <;> rfl
  · have keep : ∀ x, Wa.contains x = false → (((((S.ren a h1).ren b1 h2).ren c2 h3).ren d3 h4).scrub [] Wv Wa).A x = ((((S.ren a h1).ren b1 h2).ren c2 h3).ren d3 h4).A x := fun x hx => by
      show (if Wa.contains x then none else _) = _
      rw [hx]; rfl
    exact ⟨by rw [keep _ hw.1]; exact s4.2.ra, by rw [keep _ hw.2.1]; exact s4.2.rb, by rw [keep _ hw.2.2.1]; exact s4.2.rc, by rw [keep _ hw.2.2.2]; exact s4.2.rd, q1, q2, q3, q4, q5, q6⟩
  · show (if Wa.contains x then none else _) = _
    rw [hx]; rfl
  · show (if Wa.contains x then none else _) = _
    split
    · rfl
    · show S.A (swp a h1 (swp b1 h2 (swp c2 h3 (swp d3 h4 x)))) = none
      have ne : ∀ {y}, y ∈ [a, b, c, d, h1, h2, h3, h4] → x ≠ y := fun hy e => hx (e ▸ hy)
      rw [swp_keep (ne td3) (ne (by simp)), swp_keep (ne tc2) (ne (by simp)), swp_keep (ne tb1) (ne (by simp)), swp_keep (ne (by simp)) (ne (by simp))]
      exact h0
structure SThr (S : St) (rest : List V) (t : Thr) : Prop where
  r0 : S.ρ 0 = .lref 0 0
  r : ∀ i, S.ρ (i + 1) = (rest[i]?).getD .undef
  h : HT S 0 t 9021 9022 9023 9024
  m : ∀ i, (i == 0) = false → S.μ i = none
  a : ∀ x, x < 9021 ∨ 9024 < x → S.A x = none
theorem HT.set {ρ : Nat → V} {μ : Nat → Option (List V × Bool)} {A : AA} {v : Nat} {t : Thr} {a b c d : Nat} {S : St} (h : HT S v t a b c d) (h1 : μ v = S.μ v) (h2 : A = S.A) : HT ⟨ρ, μ, A⟩ v t a b c d :=
  ⟨h1.trans h.1, h2 ▸ h.2⟩
theorem Arr4.net {A : AA} {t : Thr} {a b c d : Nat} (h : Arr4 A t a b c d) (l : List Word) : Arr4 (upd A a (some (7, l.map eWord, .live))) { t with net := l } a b c d := by
  obtain ⟨n1, n2, n3, n4, n5, n6⟩ := h.rn
  exact ⟨by simp [upd], by simp [upd, Ne.symm n1, h.rb], by simp [upd, Ne.symm n2, h.rc], by simp [upd, Ne.symm n3, h.rd], n1, n2, n3, n4, n5, n6⟩
theorem Arr4.of {A : AA} {t t' : Thr} {a b c d : Nat} (h : Arr4 A t a b c d) (h1 : t'.net = t.net) (h2 : t'.views = t.views) (h3 : t'.fx = t.fx) : Arr4 A t' a b c d :=
  ⟨by rw [h1]; exact h.ra, by rw [h2]; exact h.rb, by rw [h3]; exact h.rc, by rw [h3]; exact h.rd, h.rn⟩
end Sg
namespace Sg
open _root_.Go (IntKind BinOp UnOp)
set_option linter.unusedSimpArgs false
set_option linter.unusedVariables false
set_option maxRecDepth 10000
variable {Pg : Nat → Option Fn}
theorem handL_all {A : AA} {l : List V} (hd : l.all V.datC = true) (hn : ∀ z, V.nslice z ∉ l) : handL l A = some (l, A) := by
  have := hand_dat (A := A) (m := []) hd hn
  rw [List.append_nil] at this
  rw [this, hand_nil]; simp
theorem takeL_all {A : AA} {l : List V} {d : Nat} (hd : l.all V.datC = true) : takeL d l A = some (l, A) := by
  have := take_dat (A := A) (m := []) (d := d) hd
  rw [List.append_nil] at this
  rw [this, take_nil]; simp
structure SDat (S : St) (rest cs : List V) : Prop where
  r0 : S.ρ 0 = .lref 0 0
  r : ∀ i, S.ρ (i + 1) = (rest[i]?).getD .undef
  h : S.μ 0 = some (cs, false)
  m : ∀ i, (i == 0) = false → S.μ i = none
  a : ∀ x, S.A x = none
theorem K'_dat2 {f : Nat} {F : F} (rs : List Res) {rest ws cs cs' : List V} (hF : Pg f = some (.codeR F 0)) (hl : rest.length + 1 = F.np) (hrs : F.res = rs) (hd : cs.all V.datC = true) (hd' : cs'.all V.datC = true) (hn' : ∀ z, V.nslice z ∉ cs')
    (h : ∀ S, SDat S rest cs → Wp (K' Pg) F.body S fun ex S' => (ex = .norm ∨ ex = .ret) ∧ S'.μ 0 = some (cs', false) ∧ ∃ vs, mapO (resV S') rs = some vs ∧ mapO (toD S'.A) vs = some ws) :
    K' Pg f (.tuple (.lref 0 0 :: cs) :: rest) = some (.tuple [shut ws, .tuple cs']) := by
  have hs : startR (.tuple (.lref 0 0 :: cs) :: rest) 0 cs = some ⟨fun i => if i = 0 then .lref 0 0 else ((V.tuple (.lref 0 0 :: cs) :: rest)[i]?).getD .undef, upd (fun _ => none) 0 (some (cs, false)), fun _ => none⟩ := by
    unfold startR
    rw [takeL_all hd]; rfl
  have hm : ∀ i, (i == 0) = false → (upd (fun _ => none) 0 (some (cs, false)) : Nat → Option (List V × Bool)) i = none := fun i hi => upd_ne_ hi
  refine K'_codeR hF (by simpa using hl) rfl hs ((h _ ⟨rfl, fun i => rfl, by simp [upd], hm, fun x => rfl⟩).mono fun ex S' hq => ⟨hq.1, ?_⟩)
  obtain ⟨h1, vs, h2, h3⟩ := hq.2
  unfold finishR
  rw [hrs, h2]
  simp only [Option.bind_some, h1, handL_all hd' hn', h3]
theorem K'_dat {f : Nat} {F : F} (rs : List Res) {rest ws cs cs' : List V} (hF : Pg f = some (.codeR F 0)) (hl : rest.length + 1 = F.np) (hrs : F.res = rs) (hd : cs.all V.datC = true) (hd' : cs'.all V.datC = true) (hn' : ∀ z, V.nslice z ∉ cs')
    (h : ∀ S, SDat S rest cs → Wp (K' Pg) F.body S fun ex S' => (ex = .norm ∨ ex = .ret) ∧ S'.μ 0 = some (cs', false) ∧ ∃ vs, mapO (resV S') rs = some vs ∧ ∀ A, mapO (toD A) vs = some ws) :
    K' Pg f (.tuple (.lref 0 0 :: cs) :: rest) = some (.tuple [shut ws, .tuple cs']) :=
  K'_dat2 rs hF hl hrs hd hd' hn' fun S hS => (h S hS).mono fun ex S' hq => ⟨hq.1, hq.2.1, hq.2.2.elim fun vs hv => ⟨vs, hv.1, hv.2 _⟩⟩
theorem rcall_dat {κ : Nat → List V → Option V} {S : St} {f v p : Nat} {rest cs cs' : List V} {r : V} (hm : S.μ v = some (cs, false)) (hc : cs.all V.datC = true) (hn : ∀ z, V.nslice z ∉ cs) (hc' : cs'.all V.datC = true)
    (hd : ∀ A, mapO (toD A) rest = some rest) (hs : rest.flatMap sitesV = [])
    (hκ : κ f (.tuple (.lref 0 0 :: cs) :: rest) = some (.tuple [r, .tuple cs'])) :
    rcallV κ p S f 0 v (.lref v 0 :: rest) = some (r, ⟨S.ρ, upd S.μ v (some (cs', false)), S.A⟩) := by
  have hA : rcallA S 0 v (.lref v 0 :: rest) = some (.tuple (.lref 0 0 :: cs) :: rest, S.A) := by
    simp only [rcallA_e, get_z, rcA1_l, List.set_cons_zero, mapO, toD_u, hd, Option.bind_some, hm, rcA2_s, flat_cons, sites_u, hs, List.nil_append, frz_nil, handL_all hc hn]
  rw [rcall_e, hA]
  simp only [Option.bind_some, hκ, rcallE_t, takeL_all hc']
abbrev Rd := List UInt8 × Bool
@[go_sem] def eRd (r : Rd) : List V := [.str r.1, .bool r.2]
theorem rd_dat (r : Rd) : (eRd r).all V.datC = true := rfl
theorem rd_ns (r : Rd) (z : Nat) : V.nslice z ∉ eRd r := by simp [eRd]
theorem rcall_rd {κ : Nat → List V → Option V} {S : St} {f v p : Nat} {x : Rd} {r : V} {y : Rd} (hκ : κ f [.tuple (.lref 0 0 :: eRd x)] = some (.tuple [r, .tuple (eRd y)])) (hm : S.μ v = some (eRd x, false)) :
    rcallV κ p S f 0 v [.lref v 0] = some (r, ⟨S.ρ, upd S.μ v (some (eRd y, false)), S.A⟩) :=
  rcall_dat (rest := []) hm (rd_dat x) (rd_ns x) (rd_dat y) (fun A => rfl) rfl hκ
def rd {α : Type} (f : List UInt8 → Option (α × List UInt8)) (d : α) (r : Rd) : α × Rd := match r.2, f r.1 with
  | false, some (n, s) => (n, (s, false))
  | _, _ => (d, (r.1, true))
def cu {α : Type} (f : List UInt8 → Option (α × List UInt8)) (d : α) (r : Rd) : α × Rd := match f r.1 with
  | some (n, s) => (n, (s, r.2))
  | none => (d, ([], true))
def zS : Stamp := ⟨0, 0, 0⟩
def eSt (s : Stamp) : V := .agg (eStamp s)
def H465 (Pg : Nat → Option Fn) : Prop := Pg 465 = some (.codeR F465 0) ∧ H491 Pg
theorem K465 (h : H465 Pg) (x : Rd) (hx : x.1.length < 2 ^ 62) : K' Pg 465 [.tuple (.lref 0 0 :: eRd x)] = some (.tuple [iz (rd (tk 9) 0 x).1, .tuple (eRd (rd (tk 9) 0 x).2)]) := by
  obtain ⟨h, hk⟩ := h
  obtain ⟨e, he, k⟩ := K491 hk x.1 hx
  have hd : decide (e = 0) = false := decide_eq_false he
  obtain ⟨s, b⟩ := x
  refine K'_dat [.t 2] (ws := [iz _]) h rfl rfl (rd_dat _) (rd_dat _) (rd_ns _) fun S ⟨r0, r, hm, m0, a0⟩ => ?_
  simp only [go_sem] at hm k
  cases hq : (tk 9) s with
  | none =>
    rw [hq] at k
    simp only [eTk] at k
    cases b with
    | true =>
      simp only [F465, c465, go_sem, r0, hm, k, hd, rd, hq]
      exact ⟨_, rfl, fun _ => rfl⟩
    | false =>
      simp only [F465, c465, go_sem, r0, hm, k, hd, rd, hq]
      exact ⟨_, rfl, fun _ => rfl⟩
  | some q =>
    obtain ⟨n, u⟩ := q
    rw [hq] at k
    simp only [eTk] at k
    cases b with
    | true =>
      simp only [F465, c465, go_sem, r0, hm, k, rd, hq]
      exact ⟨_, rfl, fun _ => rfl⟩
    | false =>
      simp only [F465, c465, go_sem, r0, hm, k, rd, hq]
      exact ⟨_, rfl, fun _ => rfl⟩
def H492 (Pg : Nat → Option Fn) : Prop := Pg 492 = some (.codeR F492 0) ∧ H506 Pg
theorem K492 (h : H492 Pg) (x : Rd) (hx : x.1.length < 2 ^ 62) : K' Pg 492 [.tuple (.lref 0 0 :: eRd x)] = some (.tuple [.str (rd tkT [] x).1, .tuple (eRd (rd tkT [] x).2)]) := by
  obtain ⟨h, hk⟩ := h
  obtain ⟨e, he, k⟩ := K506 hk x.1 hx
  have hd : decide (e = 0) = false := decide_eq_false he
  obtain ⟨s, b⟩ := x
  refine K'_dat [.t 2] (ws := [.str _]) h rfl rfl (rd_dat _) (rd_dat _) (rd_ns _) fun S ⟨r0, r, hm, m0, a0⟩ => ?_
  simp only [go_sem] at hm k
  cases hq : tkT s with
  | none =>
    rw [hq] at k
    simp only [eTkT] at k
    cases b with
    | true =>
      simp only [F492, c492, go_sem, r0, hm, k, hd, rd, hq]
      exact ⟨_, rfl, fun _ => rfl⟩
    | false =>
      simp only [F492, c492, go_sem, r0, hm, k, hd, rd, hq]
      exact ⟨_, rfl, fun _ => rfl⟩
  | some q =>
    obtain ⟨n, u⟩ := q
    rw [hq] at k
    simp only [eTkT] at k
    cases b with
    | true =>
      simp only [F492, c492, go_sem, r0, hm, k, rd, hq]
      exact ⟨_, rfl, fun _ => rfl⟩
    | false =>
      simp only [F492, c492, go_sem, r0, hm, k, rd, hq]
      exact ⟨_, rfl, fun _ => rfl⟩
def H493 (Pg : Nat → Option Fn) : Prop := Pg 493 = some (.codeR F493 0) ∧ H507 Pg
theorem K493 (h : H493 Pg) (x : Rd) (hx : x.1.length < 2 ^ 62) : K' Pg 493 [.tuple (.lref 0 0 :: eRd x)] = some (.tuple [.bool (rd tkF false x).1, .tuple (eRd (rd tkF false x).2)]) := by
  obtain ⟨h, hk⟩ := h
  obtain ⟨e, he, k⟩ := K507 hk x.1
  have hd : decide (e = 0) = false := decide_eq_false he
  obtain ⟨s, b⟩ := x
  refine K'_dat [.t 2] (ws := [.bool _]) h rfl rfl (rd_dat _) (rd_dat _) (rd_ns _) fun S ⟨r0, r, hm, m0, a0⟩ => ?_
  simp only [go_sem] at hm k
  cases hq : tkF s with
  | none =>
    rw [hq] at k
    simp only [eTkF] at k
    cases b with
    | true =>
      simp only [F493, c493, go_sem, r0, hm, k, hd, rd, hq]
      exact ⟨_, rfl, fun _ => rfl⟩
    | false =>
      simp only [F493, c493, go_sem, r0, hm, k, hd, rd, hq]
      exact ⟨_, rfl, fun _ => rfl⟩
  | some q =>
    obtain ⟨n, u⟩ := q
    rw [hq] at k
    simp only [eTkF] at k
    cases b with
    | true =>
      simp only [F493, c493, go_sem, r0, hm, k, rd, hq]
      exact ⟨_, rfl, fun _ => rfl⟩
    | false =>
      simp only [F493, c493, go_sem, r0, hm, k, rd, hq]
      exact ⟨_, rfl, fun _ => rfl⟩
def H464 (Pg : Nat → Option Fn) : Prop := Pg 464 = some (.codeR F464 0) ∧ H490 Pg
theorem K464 (h : H464 Pg) (x : Rd) (hx : x.1.length < 2 ^ 62) : K' Pg 464 [.tuple (.lref 0 0 :: eRd x)] = some (.tuple [eSt (rd tkS zS x).1, .tuple (eRd (rd tkS zS x).2)]) := by
  obtain ⟨h, hk⟩ := h
  obtain ⟨e, he, k⟩ := K490 hk x.1 hx
  have hd : decide (e = 0) = false := decide_eq_false he
  obtain ⟨s, b⟩ := x
  refine K'_dat [.cell 2 (some 3)] (ws := [eSt _]) h rfl rfl (rd_dat _) (rd_dat _) (rd_ns _) fun S ⟨r0, r, hm, m0, a0⟩ => ?_
  have m2 := m0 2 rfl
  have m3 := m0 3 rfl
  simp only [go_sem] at hm k
  cases hq : tkS s with
  | none =>
    rw [hq] at k
    simp only [eTkS] at k
    cases b with
    | true =>
      simp only [F464, c464, go_sem, r0, hm, k, hd, rd, hq, m2, m3, eSt, zS]
      exact ⟨_, rfl, fun _ => rfl⟩
    | false =>
      simp only [F464, c464, go_sem, r0, hm, k, hd, rd, hq, m2, m3, eSt, zS]
      exact ⟨_, rfl, fun _ => rfl⟩
  | some q =>
    obtain ⟨n, u⟩ := q
    rw [hq] at k
    simp only [eTkS, eStamp] at k
    cases b with
    | true =>
      simp only [F464, c464, go_sem, r0, hm, k, rd, hq, m2, m3, eSt, zS]
      exact ⟨_, rfl, fun _ => rfl⟩
    | false =>
      simp only [F464, c464, go_sem, r0, hm, k, rd, hq, m2, m3, eSt, zS]
      exact ⟨_, rfl, fun _ => rfl⟩
end Sg
