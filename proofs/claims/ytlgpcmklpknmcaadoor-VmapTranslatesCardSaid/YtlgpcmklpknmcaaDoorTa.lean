/- The functions' code, checked against the program's. -/
import Derived.Test.YtlgpcmklpknmcaaDoorEl
import Derived.Test.YtlgpcmklpknmcaaDoorChecked
import Derived.KernelRfl
set_option linter.unusedVariables false
set_option maxRecDepth 100000
namespace Go.Proofs.YtlgpcmklpknmcaaDoor
open Go Go.Eng Go.Proofs

/-- drayage/drayagelaw13.VmapTranslates -/
def r5 : RFunc := ⟨38,
(.seq
(RR [0, 1, 2] [gI 6 .mov [.c (AV.bool false)]])
(.seq
(.seq
(RR [0, 1, 2, 12] [gI 11 (.call 15) [], gI 12 (.pure (.un .not)) [tt 11]])
(.cond (.t 12 false)
(.seq
(RR [6] [gI 6 .mov [.c (AV.bool false)]])
(.ret [6]))
.skip))
(.seq
(.seq
(RR [0, 1, 2, 15] [gI 13 .mov [tt 2], gI 14 (.pure .lenS) [tt 13], gI 15 (.pure (.bin .gtr)) [tt 14, ti 2000]])
(.cond (.t 15 false)
(.seq
(RR [6] [gI 6 .mov [.c (AV.bool true)]])
(.ret [6]))
.skip))
(.seq
(RR [0, 1, 2, 7, 8] [gI 17 .mov [tt 0], gI 18 .mov [tt 1], gI 19 .mov [tt 2], gI 20 (.call 24) [tt 17, tt 18, tt 19], gI 16 .mov [tt 20], gI 21 (.pure (.extract 0)) [tt 16], gI 22 (.pure (.extract 1)) [tt 16], gI 7 .mov [tt 21], gI 8 .mov [tt 22]])
(.seq
(RR [7, 8, 9, 10] [gI 24 .mov [tt 0], gI 25 .mov [tt 1], gI 26 .mov [tt 2], gI 27 (.call 25) [tt 24, tt 25, tt 26], gI 23 .mov [tt 27], gI 28 (.pure (.extract 0)) [tt 23], gI 29 (.pure (.extract 1)) [tt 23], gI 9 .mov [tt 28], gI 10 .mov [tt 29]])
(.seq
(RR [6] [gI 30 .mov [tt 7], gI 31 .mov [tt 9], gI 32 (.pure (.bin .eql)) [tt 30, tt 31], gI 33 .mov [tt 32], .sub [(⟨some 34, .mov, [tt 8], some (33, true)⟩, .any),
    (⟨some 35, .mov, [tt 10], some (33, true)⟩, .any),
    (⟨some 36, .pure (.bin .eql), [tt 34, tt 35], some (33, true)⟩, .any),
    (⟨some 37, .pure .pick, [tt 33, tt 36, .c (AV.bool false)], none⟩, .any)] 37, gI 6 .mov [tt 37]])
(.ret [6]))))))),
 [.tmp 6 false], false⟩
def a5 : Ann := mkAnn [] [] false [] [] [(0, [0, 1, 2]), (1, [0, 1, 2, 12]), (2, [6]), (3, [0, 1, 2, 15]), (4, [6]), (5, [0, 1, 2, 7, 8]), (6, [7, 8, 9, 10]), (7, [6])] [] [] [] [] [6] [false] [(7, [(4, none), (4, some 37)])] [] []
set_option maxRecDepth 100000 in
theorem c5 : convFn Tryd.prog a5 5 = some r5 := by kernel_rfl

/-- drayage/drayagelaw13.VmapBack -/
def r6 : RFunc := ⟨68,
(.seq
(RR [0, 1, 2, 3] [gI 8 .mov [.c (AV.bool false)]])
(.seq
(.seq
(RR [0, 1, 2, 3, 16] [gI 15 (.call 15) [], gI 16 (.pure (.un .not)) [tt 15]])
(.cond (.t 16 false)
(.seq
(RR [8] [gI 8 .mov [.c (AV.bool false)]])
(.ret [8]))
.skip))
(.seq
(.seq
(RR [0, 1, 2, 3, 19] [gI 17 .mov [tt 3], gI 18 (.pure .lenS) [tt 17], gI 19 (.pure (.bin .gtr)) [tt 18, ti 2000]])
(.cond (.t 19 false)
(.seq
(RR [8] [gI 8 .mov [.c (AV.bool true)]])
(.ret [8]))
.skip))
(.seq
(RR [0, 1, 2, 3, 9, 10] [gI 21 .mov [tt 0], gI 22 .mov [tt 2], gI 23 .mov [tt 3], gI 24 (.call 24) [tt 21, tt 22, tt 23], gI 20 .mov [tt 24], gI 25 (.pure (.extract 0)) [tt 20], gI 26 (.pure (.extract 1)) [tt 20], gI 9 .mov [tt 25], gI 10 .mov [tt 26]])
(.seq
(.seq
(RR [0, 1, 2, 3, 9, 28] [gI 27 .mov [tt 10], gI 28 (.pure (.bin .neq)) [tt 27, ti 0]])
(.cond (.t 28 false)
(.seq
(RR [8] [gI 29 .mov [tt 9], gI 30 (.pure (.bin .eql)) [tt 29, .c (AV.str [])], gI 8 .mov [tt 30]])
(.ret [8]))
.skip))
(.seq
(RR [0, 1, 2, 3, 9, 11, 12] [gI 32 .mov [tt 2], gI 33 .mov [tt 0], gI 34 .mov [tt 9], gI 35 (.call 24) [tt 32, tt 33, tt 34], gI 31 .mov [tt 35], gI 36 (.pure (.extract 0)) [tt 31], gI 37 (.pure (.extract 1)) [tt 31], gI 11 .mov [tt 36], gI 12 .mov [tt 37]])
(.seq
(.seq
(RR [0, 1, 2, 3, 9, 44] [gI 38 .mov [tt 11], gI 39 .mov [tt 3], gI 40 (.pure (.bin .neq)) [tt 38, tt 39], gI 41 .mov [tt 40], .sub [(⟨some 42, .mov, [tt 12], some (41, false)⟩, .any),
    (⟨some 43, .pure (.bin .neq), [tt 42, ti 0], some (41, false)⟩, .any),
    (⟨some 44, .pure .pick, [tt 41, .c (AV.bool true), tt 43], none⟩, .any)] 44])
(.cond (.t 44 false)
(.seq
(RR [8] [gI 8 .mov [.c (AV.bool false)]])
(.ret [8]))
.skip))
(.seq
(RR [1, 2, 9, 10, 13] [gI 46 .mov [tt 0], gI 47 .mov [tt 1], gI 48 .mov [tt 3], gI 49 (.call 24) [tt 46, tt 47, tt 48], gI 45 .mov [tt 49], gI 50 (.pure (.extract 0)) [tt 45], gI 51 (.pure (.extract 1)) [tt 45], gI 13 .mov [tt 50], gI 10 .mov [tt 51]])
(.seq
(.seq
(RR [1, 2, 9, 13, 53] [gI 52 .mov [tt 10], gI 53 (.pure (.bin .neq)) [tt 52, ti 0]])
(.cond (.t 53 false)
(.seq
(RR [8] [gI 8 .mov [.c (AV.bool true)]])
(.ret [8]))
.skip))
(.seq
(RR [9, 12, 14] [gI 55 .mov [tt 1], gI 56 .mov [tt 2], gI 57 .mov [tt 13], gI 58 (.call 24) [tt 55, tt 56, tt 57], gI 54 .mov [tt 58], gI 59 (.pure (.extract 0)) [tt 54], gI 60 (.pure (.extract 1)) [tt 54], gI 14 .mov [tt 59], gI 12 .mov [tt 60]])
(.seq
(RR [8] [gI 61 .mov [tt 14], gI 62 .mov [tt 9], gI 63 (.pure (.bin .eql)) [tt 61, tt 62], gI 64 .mov [tt 63], .sub [(⟨some 65, .mov, [tt 12], some (64, true)⟩, .any),
    (⟨some 66, .pure (.bin .eql), [tt 65, ti 0], some (64, true)⟩, .any),
    (⟨some 67, .pure .pick, [tt 64, tt 66, .c (AV.bool false)], none⟩, .any)] 67, gI 8 .mov [tt 67]])
(.ret [8])))))))))))),
 [.tmp 8 false], false⟩
def a6 : Ann := mkAnn [] [] false [] [] [(0, [0, 1, 2, 3]), (1, [0, 1, 2, 3, 16]), (2, [8]), (3, [0, 1, 2, 3, 19]), (4, [8]), (5, [0, 1, 2, 3, 9, 10]), (6, [0, 1, 2, 3, 9, 28]), (7, [8]), (8, [0, 1, 2, 3, 9, 11, 12]), (9, [0, 1, 2, 3, 9, 44]), (10, [8]), (11, [1, 2, 9, 10, 13]), (12, [1, 2, 9, 13, 53]), (13, [8]), (14, [9, 12, 14]), (15, [8])] [] [] [] [] [8] [false] [(9, [(4, none), (3, some 44)]), (15, [(4, none), (3, some 67)])] [] []
set_option maxRecDepth 100000 in
theorem c6 : convFn Tryd.prog a6 6 = some r6 := by kernel_rfl

/-- drayage/version.Check -/
def r13 : RFunc := ⟨26,
(.seq
(RR [0, 1] [gI 4 .mov [ti 0]])
(.seq
(.block 0
(.seq
(RR [0, 1, 7] [gI 8 .mov [tt 0], gI 9 (.pure (.bin .lss)) [tt 8, ti 1], gI 10 .mov [tt 9], .sub [(⟨some 11, .mov, [tt 0], some (10, false)⟩, .any),
    (⟨some 12, .pure (.bin .gtr), [tt 11, ti 3], some (10, false)⟩, .any),
    (⟨some 13, .pure .pick, [tt 10, .c (AV.bool true), tt 12], none⟩, .any)] 13, gI 7 .mov [tt 13]])
(.cond (.t 7 false)
(.seq
(RR [4] [gI 4 .mov [ti 9]])
(.ret [4]))
(.seq
(RR [0, 1, 14] [gI 15 .mov [tt 1], gI 16 (.pure .lenS) [tt 15], gI 17 (.pure (.bin .gtr)) [tt 16, ti 64], gI 14 .mov [tt 17]])
(.cond (.t 14 false)
(.seq
(RR [4] [gI 4 .mov [ti 4]])
(.ret [4]))
.skip)))))
(.seq
(.seq
(RR [6] [gI 19 .mov [tt 0], gI 20 .mov [tt 1], gI 21 (.call 39) [tt 19, tt 20], gI 18 .mov [tt 21], gI 22 (.pure (.extract 0)) [tt 18], gI 23 (.pure (.extract 1)) [tt 18], gI 5 (.new 4) [.c (AV.agg [AV.str [], AV.str [], AV.str [], AV.bool false])], gS (.store 4) [tt 5, tt 22], gI 6 .mov [tt 23]])
(.seq
(RR [25] [gI 24 .mov [tt 6], gI 25 (.pure (.un .not)) [tt 24]])
(.cond (.t 25 false)
(.seq
(RR [4] [gI 4 .mov [ti 3]])
(.ret [4]))
.skip)))
(.seq
(RR [4] [gI 4 .mov [ti 0]])
(.ret [4]))))),
 [.tmp 4 false], false⟩
def a13 : Ann := mkAnn [] [] false [] [] [(0, [0, 1]), (1, [0, 1, 7]), (2, [4]), (3, [0, 1, 14]), (4, [4]), (5, [6]), (6, [25]), (7, [4]), (8, [4])] [] [] [] [(0, [0, 1])] [4] [false] [(1, [(3, none), (3, some 13)])] [] []
set_option maxRecDepth 100000 in
theorem c13 : convFn Tryd.prog a13 13 = some r13 := by kernel_rfl

/-- drayage/drayagelaw13.awake -/
def r15 : RFunc := ⟨27,
(.seq
(RR [] [gI 0 .mov [.c (AV.bool false)]])
(.seq
(RR [1, 2] [gI 6 (.call 24) [ti 1, ti 3, .c (AV.str [49, 46, 50, 126, 98, 101, 116, 97, 50, 45, 49])], gI 5 .mov [tt 6], gI 7 (.pure (.extract 0)) [tt 5], gI 8 (.pure (.extract 1)) [tt 5], gI 1 .mov [tt 7], gI 2 .mov [tt 8]])
(.seq
(RR [1, 2, 3, 4] [gI 10 (.call 24) [ti 1, ti 3, .c (AV.str [49, 58, 49, 46, 50, 45, 49])], gI 9 .mov [tt 10], gI 11 (.pure (.extract 0)) [tt 9], gI 12 (.pure (.extract 1)) [tt 9], gI 3 .mov [tt 11], gI 4 .mov [tt 12]])
(.seq
(RR [0] [gI 13 .mov [tt 1], gI 14 (.pure (.bin .eql)) [tt 13, .c (AV.str [49, 46, 50, 95, 98, 101, 116, 97, 50, 45, 114, 49])], gI 15 .mov [tt 14], .sub [(⟨some 16, .mov, [tt 2], some (15, true)⟩, .any),
    (⟨some 17, .pure (.bin .eql), [tt 16, ti 0], some (15, true)⟩, .any),
    (⟨some 18, .pure .pick, [tt 15, tt 17, .c (AV.bool false)], none⟩, .any)] 18, gI 19 .mov [tt 18], .sub [(⟨some 20, .mov, [tt 3], some (19, true)⟩, .any),
    (⟨some 21, .pure (.bin .eql), [tt 20, .c (AV.str [])], some (19, true)⟩, .any),
    (⟨some 22, .pure .pick, [tt 19, tt 21, .c (AV.bool false)], none⟩, .any)] 22, gI 23 .mov [tt 22], .sub [(⟨some 24, .mov, [tt 4], some (23, true)⟩, .any),
    (⟨some 25, .pure (.bin .eql), [tt 24, ti 11], some (23, true)⟩, .any),
    (⟨some 26, .pure .pick, [tt 23, tt 25, .c (AV.bool false)], none⟩, .any)] 26, gI 0 .mov [tt 26]])
(.ret [0]))))),
 [.tmp 0 false], false⟩
def a15 : Ann := mkAnn [] [] false [] [] [(0, []), (1, [1, 2]), (2, [1, 2, 3, 4]), (3, [0])] [] [] [] [] [0] [false] [(3, [(3, none), (3, some 18), (1, none), (3, some 22), (1, none), (3, some 26)])] [] []
set_option maxRecDepth 100000 in
theorem c15 : convFn Tryd.prog a15 15 = some r15 := by kernel_rfl

/-- drayage/vmap.Print -/
def r17 : RFunc := ⟨32,
(.seq
(RR [0, 3] [gI 3 (.new 6) [tt 1], gI 4 .mov [.c (AV.str [])], gI 5 .mov [ti 0]])
(.seq
(.seq
(RR [0, 3, 10] [gI 8 .mov [tt 0], gI 9 (.call 47) [tt 8], gI 10 (.pure (.un .not)) [tt 9]])
(.cond (.t 10 false)
(.seq
(RR [4, 5] [gI 4 .mov [.c (AV.str [])], gI 5 .mov [ti 9]])
(.ret [4, 5]))
.skip))
(.seq
(.seq
(RR [0, 3, 6] [gI 11 (.load 6 true false) [tt 3], gI 12 (.call 22) [tt 11], gI 6 .mov [tt 12]])
(.seq
(RR [0, 3, 6, 14] [gI 13 .mov [tt 6], gI 14 (.pure (.bin .neq)) [tt 13, ti 0]])
(.cond (.t 14 false)
(.seq
(RR [4, 5] [gI 15 .mov [tt 6], gI 4 .mov [.c (AV.str [])], gI 5 .mov [tt 15]])
(.ret [4, 5]))
.skip)))
(.seq
(.seq
(RR [0, 3, 7] [gI 16 .mov [tt 0], gI 17 (.load 6 true false) [tt 3], gI 18 (.call 48) [tt 16, tt 17], gI 7 .mov [tt 18]])
(.seq
(RR [7, 30] [gI 19 .mov [tt 0], gI 20 (.pure (.bin .neq)) [tt 19, ti 3], gI 21 .mov [tt 20], .sub [(⟨some 22, .pure (.faddr 0), [tt 3], some (21, false)⟩, .any),
    (⟨some 23, .load 1 false false, [tt 22], some (21, false)⟩, .any),
    (⟨some 24, .pure (.bin .eql), [tt 23, ti 0], some (21, false)⟩, .any),
    (⟨some 25, .mov, [tt 24], some (21, false)⟩, .any),
    (⟨some 26, .mov, [tt 7], some (25, true)⟩, .any),
    (⟨some 27, .pure .lenS, [tt 26], some (25, true)⟩, .any),
    (⟨some 28, .pure (.bin .leq), [tt 27, ti 64], some (25, true)⟩, .any),
    (⟨some 29, .pure .pick, [tt 25, tt 28, .c (AV.bool false)], some (21, false)⟩, .any),
    (⟨some 30, .pure .pick, [tt 21, .c (AV.bool true), tt 29], none⟩, .any)] 30])
(.cond (.t 30 false)
(.seq
(RR [4, 5] [gI 31 .mov [tt 7], gI 4 .mov [tt 31], gI 5 .mov [ti 0]])
(.ret [4, 5]))
.skip)))
(.seq
(RR [4, 5] [gI 4 .mov [.c (AV.str [])], gI 5 .mov [ti 11]])
(.ret [4, 5])))))),
 [.tmp 4 false, .tmp 5 false], false⟩
def a17 : Ann := mkAnn [] [] false [] [] [(0, [0, 3]), (1, [0, 3, 10]), (2, [4, 5]), (3, [0, 3, 6]), (4, [0, 3, 6, 14]), (5, [4, 5]), (6, [0, 3, 7]), (7, [7, 30]), (8, [4, 5]), (9, [4, 5])] [] [] [] [] [4, 5] [false, false] [(7, [(3, none), (9, some 30)])] [] []
set_option maxRecDepth 100000 in
theorem c17 : convFn Tryd.prog a17 17 = some r17 := by kernel_rfl

/-- drayage/drayageref13.Print -/
def r18 : RFunc := ⟨34,
(.seq
(RR [0, 3] [gI 3 (.new 6) [tt 1], gI 4 .mov [.c (AV.str [])], gI 5 .mov [ti 0]])
(.seq
(.seq
(RR [0, 3, 11] [gI 6 .mov [tt 0], gI 7 (.pure (.bin .lss)) [tt 6, ti 1], gI 8 .mov [tt 7], .sub [(⟨some 9, .mov, [tt 0], some (8, false)⟩, .any),
    (⟨some 10, .pure (.bin .gtr), [tt 9, ti 3], some (8, false)⟩, .any),
    (⟨some 11, .pure .pick, [tt 8, .c (AV.bool true), tt 10], none⟩, .any)] 11])
(.cond (.t 11 false)
(.seq
(RR [4, 5] [gI 4 .mov [.c (AV.str [])], gI 5 .mov [ti 9]])
(.ret [4, 5]))
.skip))
(.seq
(.seq
(RR [0, 3, 30] [gI 12 (.load 6 true false) [tt 3], gI 13 (.call 23) [tt 12], gI 14 (.pure (.bin .neq)) [tt 13, ti 0], gI 15 .mov [tt 14], .sub [(⟨some 16, .mov, [tt 0], some (15, false)⟩, .any),
    (⟨some 17, .pure (.bin .eql), [tt 16, ti 3], some (15, false)⟩, .any),
    (⟨some 18, .mov, [tt 17], some (15, false)⟩, .any),
    (⟨some 19, .pure (.faddr 0), [tt 3], some (18, true)⟩, .any),
    (⟨some 20, .load 1 false false, [tt 19], some (18, true)⟩, .any),
    (⟨some 21, .pure (.bin .neq), [tt 20, ti 0], some (18, true)⟩, .any),
    (⟨some 22, .pure .pick, [tt 18, tt 21, .c (AV.bool false)], some (15, false)⟩, .any),
    (⟨some 23, .pure .pick, [tt 15, .c (AV.bool true), tt 22], none⟩, .any)] 23, gI 24 .mov [tt 23], .sub [(⟨some 25, .mov, [tt 0], some (24, false)⟩, .any),
    (⟨some 26, .load 6 true false, [tt 3], some (24, false)⟩, .any),
    (⟨some 27, .call 49, [tt 25, tt 26], some (24, false)⟩, .any),
    (⟨some 28, .pure .lenS, [tt 27], some (24, false)⟩, .any),
    (⟨some 29, .pure (.bin .gtr), [tt 28, ti 64], some (24, false)⟩, .any),
    (⟨some 30, .pure .pick, [tt 24, .c (AV.bool true), tt 29], none⟩, .any)] 30])
(.cond (.t 30 false)
(.seq
(RR [4, 5] [gI 4 .mov [.c (AV.str [])], gI 5 .mov [ti 11]])
(.ret [4, 5]))
.skip))
(.seq
(RR [4, 5] [gI 31 .mov [tt 0], gI 32 (.load 6 true false) [tt 3], gI 33 (.call 49) [tt 31, tt 32], gI 4 .mov [tt 33], gI 5 .mov [ti 0]])
(.ret [4, 5]))))),
 [.tmp 4 false, .tmp 5 false], false⟩
def a18 : Ann := mkAnn [] [] false [] [] [(0, [0, 3]), (1, [0, 3, 11]), (2, [4, 5]), (3, [0, 3, 30]), (4, [4, 5]), (5, [4, 5])] [] [] [] [] [4, 5] [false, false] [(1, [(3, none), (3, some 11)]), (3, [(4, none), (8, some 23), (1, none), (6, some 30)])] [] []
set_option maxRecDepth 100000 in
theorem c18 : convFn Tryd.prog a18 18 = some r18 := by kernel_rfl

/-- drayage/vmap.Parse -/
def l19_21 : RCode :=
(.seq
(RR [0, 1, 4, 7, 8, 15, 82, 83, 84, 88, 89, 90, 91] [gI 91 (.pure (.bin .lss)) [tt 90, tt 89]])
(.seq
(.cond (.t 91 false)
.skip
(.exit 4 [0, 1, 4, 7, 8, 82, 83, 84]))
(.seq
(.block 5
(.seq
(RR [0, 1, 4, 7, 8, 15, 17, 82, 83, 84, 88, 89, 90] [.one ⟨some 92, .pure (.iaddr 1), [tt 88, tt 90], none⟩ .str, gI 93 (.load 1 false false) [tt 92], gI 17 .mov [tt 93]])
(.seq
(RR [0, 1, 4, 7, 8, 15, 18, 19, 82, 83, 84, 88, 89, 90] [gI 95 .mov [tt 8], gI 96 .mov [tt 17], gI 97 .mov [tt 15], gI 98 (.pure (.bin .add)) [tt 96, tt 97], gI 99 (.call 54) [tt 95, tt 98], gI 94 .mov [tt 99], gI 100 (.pure (.extract 0)) [tt 94], gI 101 (.pure (.extract 1)) [tt 94], gI 18 .mov [tt 100], gI 19 .mov [tt 101]])
(.seq
(RR [0, 1, 4, 7, 8, 15, 18, 82, 83, 84, 88, 89, 90, 107] [gI 102 .mov [tt 19], gI 103 .mov [tt 102], .sub [(⟨some 104, .pure (.faddr 3), [tt 7], some (103, true)⟩, .any),
    (⟨some 105, .load 1 false false, [tt 104], some (103, true)⟩, .any),
    (⟨some 106, .pure (.bin .eql), [tt 105, .c (AV.str [])], some (103, true)⟩, .any),
    (⟨some 107, .pure .pick, [tt 103, tt 106, .c (AV.bool false)], none⟩, .any)] 107])
(.cond (.t 107 false)
(.seq
(RR [0, 1, 4, 7, 15, 18, 82, 83, 84, 88, 89, 90] [gI 108 .mov [tt 15], gI 109 (.pure (.faddr 3)) [tt 7], gS (.store 1) [tt 109, tt 108]])
(RR [0, 1, 4, 7, 8, 15, 82, 83, 84, 88, 89, 90] [gI 111 .mov [tt 18], gI 112 (.call 51) [tt 111], gI 110 .mov [tt 112], gI 113 (.pure (.extract 0)) [tt 110], gI 114 (.pure (.extract 1)) [tt 110], gI 115 (.pure (.faddr 4)) [tt 7], gS (.store 1) [tt 115, tt 113], gI 8 .mov [tt 114]]))
.skip)))))
(RR [0, 1, 4, 7, 8, 15, 82, 83, 84, 88, 89, 90] [gI 116 (.pure (.bin .add)) [tt 90, ti 1], gI 90 .mov [tt 116]]))))
def l19_18 : RCode :=
(.seq
(RR [0, 1, 4, 7, 8, 82, 83, 84, 85] [gI 85 (.pure (.bin .lss)) [tt 84, tt 83]])
(.seq
(.cond (.t 85 false)
.skip
(.exit 2 [0, 1, 4, 7, 8]))
(.seq
(.block 3
(.seq
(RR [0, 1, 4, 7, 8, 15, 82, 83, 84] [.one ⟨some 86, .pure (.iaddr 1), [tt 82, tt 84], none⟩ .str, gI 87 (.load 1 false false) [tt 86], gI 15 .mov [tt 87]])
(.seq
(RR [0, 1, 4, 7, 8, 15, 82, 83, 84, 88, 89, 90] [gI 88 (.bslice 1 false 2) [.c (AV.str [126]), .c (AV.str [95])], gI 89 (.pure .lenSl) [tt 88], gI 90 .mov [ti 0]])
(.block 4
(.loop 21 [0, 1, 4, 7, 8, 15, 82, 83, 84, 88, 89, 90] l19_21)))))
(RR [0, 1, 4, 7, 8, 82, 83, 84] [gI 117 (.pure (.bin .add)) [tt 84, ti 1], gI 84 .mov [tt 117]]))))
def k19_17 : RCode :=
(.seq
(.seq
(RR [0, 1, 4, 7, 8, 82, 83, 84] [gI 82 (.call 53) [], gI 83 (.pure .lenSl) [tt 82], gI 84 .mov [ti 0]])
(.block 2
(.loop 18 [0, 1, 4, 7, 8, 82, 83, 84] l19_18)))
(.seq
(RR [0, 1, 4, 7, 8] [gI 118 .mov [tt 8], gI 119 (.call 55) [tt 118, .c (AV.str [45])], gI 120 (.call 55) [tt 119, .c (AV.str [114])], gI 8 .mov [tt 120]])
(.seq
(RR [0, 1, 4, 7] [gI 122 .mov [tt 8], gI 123 (.call 51) [tt 122], gI 121 .mov [tt 123], gI 124 (.pure (.extract 0)) [tt 121], gI 125 (.pure (.extract 1)) [tt 121], gI 126 (.pure (.faddr 5)) [tt 7], gS (.store 1) [tt 126, tt 124]])
(.seq
(.seq
(RR [1, 4, 7, 20, 21] [gI 128 .mov [tt 0], gI 129 (.load 6 true false) [tt 7], gI 130 (.call 17) [tt 128, tt 129], gI 127 .mov [tt 130], gI 131 (.pure (.extract 0)) [tt 127], gI 132 (.pure (.extract 1)) [tt 127], gI 20 .mov [tt 131], gI 21 .mov [tt 132]])
(.seq
(RR [4, 7, 139] [gI 133 .mov [tt 21], gI 134 (.pure (.bin .neq)) [tt 133, ti 0], gI 135 .mov [tt 134], .sub [(⟨some 136, .mov, [tt 20], some (135, false)⟩, .any),
    (⟨some 137, .mov, [tt 1], some (135, false)⟩, .any),
    (⟨some 138, .pure (.bin .neq), [tt 136, tt 137], some (135, false)⟩, .any),
    (⟨some 139, .pure .pick, [tt 135, .c (AV.bool true), tt 138], none⟩, .any)] 139])
(.cond (.t 139 false)
(.seq
(RR [4, 5] [gI 140 (.build [AV.int .i64 0, AV.sl false 1 [], AV.str [], AV.str [], AV.int .i64 0, AV.int .i64 0] []) [], gS (.store 6) [tt 4, tt 140], gI 5 .mov [ti 11]])
(.ret [4, 5]))
.skip)))
(.seq
(RR [4, 5] [gI 141 (.load 6 true false) [tt 7], gS (.store 6) [tt 4, tt 141], gI 5 .mov [ti 0]])
(.ret [4, 5]))))))
def l19_10 : RCode :=
(.block 1
(.seq
(RR [0, 1, 4, 7, 12, 13] [gI 45 .mov [tt 8], gI 46 (.call 51) [tt 45], gI 44 .mov [tt 46], gI 47 (.pure (.extract 0)) [tt 44], gI 48 (.pure (.extract 1)) [tt 44], gI 12 .mov [tt 47], gI 13 .mov [tt 48]])
(.seq
(RR [0, 1, 4, 7, 12, 13] [gI 49 (.pure (.faddr 1)) [tt 7], gI 50 (.load 1 false true) [.t 49 true], gI 51 .mov [tt 12], gI 52 (.bslice 1 false 1) [tt 51], gI 53 (.append 1 8 false) [.t 50 true, tt 52], gI 54 (.pure (.faddr 1)) [tt 7], gS (.store 1) [tt 54, .t 53 true]])
(.seq
(.seq
(RR [0, 1, 4, 7, 13, 61] [gI 55 .mov [tt 12], gI 56 (.pure (.bin .lss)) [tt 55, ti 0], gI 57 .mov [tt 56], .sub [(⟨some 58, .mov, [tt 13], some (57, false)⟩, .any),
    (⟨some 59, .call 52, [tt 58, .c (AV.str [46])], some (57, false)⟩, .any),
    (⟨some 60, .pure (.un .not), [tt 59], some (57, false)⟩, .any),
    (⟨some 61, .pure .pick, [tt 57, .c (AV.bool true), tt 60], none⟩, .any)] 61])
(.cond (.t 61 false)
(.seq
(RR [0, 1, 4, 7, 8] [gI 62 .mov [tt 13], gI 8 .mov [tt 62]])
(.exit 0 [0, 1, 4, 7, 8]))
.skip))
(RR [0, 1, 4, 7, 8] [gI 63 .mov [tt 13], gI 64 (.pure (.sliceStr true false)) [tt 63, ti 1], gI 8 .mov [tt 64]])))))
def k19_10 : RCode :=
(.seq
(.block 0
(.loop 10 [0, 1, 4, 7, 8] l19_10))
(.seq
(.seq
(RR [0, 1, 4, 7, 8, 76] [gI 65 .mov [tt 8], gI 66 (.pure (.bin .neq)) [tt 65, .c (AV.str [])], gI 67 .mov [tt 66], .sub [(⟨some 68, .mov, [tt 8], some (67, true)⟩, .any),
    (⟨some 69, .pure .idxStr, [tt 68, ti 0], some (67, true)⟩, .any),
    (⟨some 70, .pure (.bin .geq), [tt 69, .c (AV.int .u8 97)], some (67, true)⟩, .any),
    (⟨some 71, .pure .pick, [tt 67, tt 70, .c (AV.bool false)], none⟩, .any)] 71, gI 72 .mov [tt 71], .sub [(⟨some 73, .mov, [tt 8], some (72, true)⟩, .any),
    (⟨some 74, .pure .idxStr, [tt 73, ti 0], some (72, true)⟩, .any),
    (⟨some 75, .pure (.bin .leq), [tt 74, .c (AV.int .u8 122)], some (72, true)⟩, .any),
    (⟨some 76, .pure .pick, [tt 72, tt 75, .c (AV.bool false)], none⟩, .any)] 76])
(.cond (.t 76 false)
(.region (some ([5], [])) [0, 1, 4, 7, 8] [gI 77 .mov [tt 8], gI 78 (.pure (.sliceStr false true)) [tt 77, ti 1], gI 79 .mov [tt 8], gI 80 (.pure (.sliceStr true false)) [tt 79, ti 1], gI 81 (.pure (.faddr 2)) [tt 7], gS (.store 1) [tt 81, tt 78], gI 8 .mov [tt 80]])
.skip))
(.cut 100017 [0, 1, 4, 7, 8] [4, 5] k19_17)))
def r19 : RFunc := ⟨142,
(.seq
(RR [0, 1, 4] [gI 4 (.new 6) [.c (AV.agg [AV.int .i64 0, AV.sl false 1 [], AV.str [], AV.str [], AV.int .i64 0, AV.int .i64 0])], gI 5 .mov [ti 0]])
(.seq
(.seq
(RR [0, 1, 4, 6] [gI 22 .mov [tt 0], gI 23 .mov [tt 1], gI 24 (.call 13) [tt 22, tt 23], gI 6 .mov [tt 24]])
(.seq
(RR [0, 1, 4, 6, 26] [gI 25 .mov [tt 6], gI 26 (.pure (.bin .neq)) [tt 25, ti 0]])
(.cond (.t 26 false)
(.seq
(RR [4, 5] [gI 27 (.build [AV.int .i64 0, AV.sl false 1 [], AV.str [], AV.str [], AV.int .i64 0, AV.int .i64 0] []) [], gI 28 .mov [tt 6], gS (.store 6) [tt 4, tt 27], gI 5 .mov [tt 28]])
(.ret [4, 5]))
.skip)))
(.seq
(RR [0, 1, 4, 7] [gI 7 (.new 6) [.c (AV.agg [AV.int .i64 0, AV.sl true 1 [], AV.str [], AV.str [], AV.int .i64 0, AV.int .i64 0])]])
(.seq
(RR [0, 1, 4, 7, 8] [gI 29 .mov [tt 1], gI 8 .mov [tt 29]])
(.seq
(.seq
(RR [0, 1, 4, 7, 8, 9, 10, 11] [gI 31 .mov [tt 1], gI 32 (.call 50) [tt 31, .c (AV.str [58])], gI 30 .mov [tt 32], gI 33 (.pure (.extract 0)) [tt 30], gI 34 (.pure (.extract 1)) [tt 30], gI 35 (.pure (.extract 2)) [tt 30], gI 9 .mov [tt 33], gI 10 .mov [tt 34], gI 11 .mov [tt 35]])
(.seq
(RR [0, 1, 4, 7, 8, 9, 10, 36] [gI 36 .mov [tt 11]])
(.cond (.t 36 false)
(.seq
(RR [0, 1, 4, 7, 10] [gI 38 .mov [tt 9], gI 39 (.call 51) [tt 38], gI 37 .mov [tt 39], gI 40 (.pure (.extract 0)) [tt 37], gI 41 (.pure (.extract 1)) [tt 37], gI 42 (.pure (.faddr 0)) [tt 7], gS (.store 1) [tt 42, tt 40]])
(RR [0, 1, 4, 7, 8] [gI 43 .mov [tt 10], gI 8 .mov [tt 43]]))
.skip)))
(.cut 100010 [0, 1, 4, 7, 8] [4, 5] k19_10)))))),
 [.cell 4 6 true, .tmp 5 false], false⟩
def a19 : Ann := mkAnn [(11, 1, [true]), (11, 4, [true]), (11, 6, [false, true])] [(10, [0, 1, 4, 7, 8]), (18, [0, 1, 4, 7, 8, 82, 83, 84]), (21, [0, 1, 4, 7, 8, 15, 82, 83, 84, 88, 89, 90])] false [(16, [5])] [] [(0, [0, 1, 4]), (1, [0, 1, 4, 6]), (2, [0, 1, 4, 6, 26]), (3, [4, 5]), (4, [0, 1, 4, 7]), (5, [0, 1, 4, 7, 8]), (6, [0, 1, 4, 7, 8, 9, 10, 11]), (7, [0, 1, 4, 7, 8, 9, 10, 36]), (8, [0, 1, 4, 7, 10]), (9, [0, 1, 4, 7, 8]), (10, [0, 1, 4, 7, 12, 13]), (11, [0, 1, 4, 7, 12, 13]), (12, [0, 1, 4, 7, 13, 61]), (13, [0, 1, 4, 7, 8]), (14, [0, 1, 4, 7, 8]), (15, [0, 1, 4, 7, 8, 76]), (16, [0, 1, 4, 7, 8]), (17, [0, 1, 4, 7, 8, 82, 83, 84]), (18, [0, 1, 4, 7, 8, 82, 83, 84, 85]), (19, [0, 1, 4, 7, 8, 15, 82, 83, 84]), (20, [0, 1, 4, 7, 8, 15, 82, 83, 84, 88, 89, 90]), (21, [0, 1, 4, 7, 8, 15, 82, 83, 84, 88, 89, 90, 91]), (22, [0, 1, 4, 7, 8, 15, 17, 82, 83, 84, 88, 89, 90]), (23, [0, 1, 4, 7, 8, 15, 18, 19, 82, 83, 84, 88, 89, 90]), (24, [0, 1, 4, 7, 8, 15, 18, 82, 83, 84, 88, 89, 90, 107]), (25, [0, 1, 4, 7, 15, 18, 82, 83, 84, 88, 89, 90]), (26, [0, 1, 4, 7, 8, 15, 82, 83, 84, 88, 89, 90]), (27, [0, 1, 4, 7, 8, 15, 82, 83, 84, 88, 89, 90]), (28, [0, 1, 4, 7, 8, 82, 83, 84]), (29, [0, 1, 4, 7, 8]), (30, [0, 1, 4, 7]), (31, [1, 4, 7, 20, 21]), (32, [4, 7, 139]), (33, [4, 5]), (34, [4, 5])] [] [(0, 0, [0, 2]), (3, 0, [0, 2]), (4, 0, [0, 3]), (33, 0, [0, 2])] [(10, [0, 1, 4, 7, 8], [4, 5]), (17, [0, 1, 4, 7, 8], [4, 5])] [(0, [0, 1, 4, 7, 8]), (1, [0, 1, 4, 7, 8]), (2, [0, 1, 4, 7, 8]), (3, [0, 1, 4, 7, 8, 82, 83, 84]), (4, [0, 1, 4, 7, 8, 82, 83, 84]), (5, [0, 1, 4, 7, 8, 15, 82, 83, 84, 88, 89, 90])] [4, 5] [false, false] [(12, [(3, none), (4, some 61)]), (15, [(3, none), (4, some 71), (1, none), (4, some 76)]), (24, [(2, none), (4, some 107)]), (32, [(3, none), (4, some 139)])] [(19, 0, .str), (22, 0, .str)] []
set_option maxRecDepth 100000 in
theorem c19 : convFn Tryd.prog a19 19 = some r19 := by kernel_rfl

/-- drayage/drayageref13.Parse -/
def l20_30 : RCode :=
 (.frame
(.seq
(.seq
(RR [0, 1, 4, 7, 8, 12, 13, 14, 92] [gI 91 .mov [tt 14], gI 92 (.pure (.bin .lss)) [tt 91, ti 4]])
(.cond (.t 92 false)
.skip
(.exit 4 [0, 1, 4, 7, 8, 13])))
(.seq
(.block 5
(.seq
(RR [0, 1, 4, 7, 8, 12, 13, 14, 105] [gI 95 (.pure (.faddr 3)) [tt 7], gI 96 (.load 1 false false) [tt 95], gI 97 (.pure (.bin .eql)) [tt 96, .c (AV.str [])], gI 98 .mov [tt 97], .sub [(⟨some 99, .mov, [tt 8], some (98, true)⟩, .any),
    (⟨some 100, .mov, [tt 12], some (98, true)⟩, .any),
    (⟨some 101, .mov, [tt 14], some (98, true)⟩, .any),
    (⟨some 102, .call 59, [tt 101], some (98, true)⟩, .any),
    (⟨some 103, .pure (.bin .add), [tt 100, tt 102], some (98, true)⟩, .any),
    (⟨some 104, .call 58, [tt 99, tt 103], some (98, true)⟩, .any),
    (⟨some 105, .pure .pick, [tt 98, tt 104, .c (AV.bool false)], none⟩, .any)] 105])
(.frame (.cond (.t 105 false)
(.seq
(RR [0, 1, 4, 7, 8, 12, 13, 14] [gI 106 .mov [tt 14], gI 107 (.call 59) [tt 106], gI 108 (.pure (.faddr 3)) [tt 7], gS (.store 1) [tt 108, tt 107]])
(.seq
(RR [0, 1, 4, 7, 12, 13, 14, 15] [gI 109 .mov [tt 8], gI 110 .mov [tt 12], gI 111 (.pure .lenS) [tt 110], gI 112 (.pure (.faddr 3)) [tt 7], gI 113 (.load 1 false false) [tt 112], gI 114 (.pure .lenS) [tt 113], gI 115 (.pure (.bin .add)) [tt 111, tt 114], gI 116 (.pure (.sliceStr true false)) [tt 109, tt 115], gI 117 (.call 57) [tt 116], gI 15 (.new 3) [.c (AV.agg [AV.int .i64 0, AV.str [], AV.bool false])], gS (.store 3) [tt 15, tt 117]])
(.seq
(.seq
(RR [0, 1, 4, 7, 12, 13, 14, 15, 120] [gI 118 (.pure (.faddr 2)) [tt 15], gI 119 (.load 1 false false) [tt 118], gI 120 (.pure (.un .not)) [tt 119]])
(.cond (.t 120 false)
(.seq
(RR [4, 5] [gI 121 (.build [AV.int .i64 0, AV.sl false 1 [], AV.str [], AV.str [], AV.int .i64 0, AV.int .i64 0] []) [], gS (.store 6) [tt 4, tt 121], gI 5 .mov [ti 11]])
(.ret [4, 5]))
.skip))
(.seq
(RR [0, 1, 4, 7, 12, 13, 14, 15] [gI 122 (.pure (.faddr 0)) [tt 15], gI 123 (.load 1 false false) [tt 122], gI 124 (.pure (.faddr 4)) [tt 7], gS (.store 1) [tt 124, tt 123]])
(RR [0, 1, 4, 7, 8, 12, 13, 14] [gI 125 (.pure (.faddr 1)) [tt 15], gI 126 (.load 1 false false) [tt 125], gI 8 .mov [tt 126]])))))
.skip))))
(RR [0, 1, 4, 7, 8, 12, 13, 14] [gI 93 .mov [tt 14], gI 94 (.pure (.bin .add)) [tt 93, ti 1], gI 14 .mov [tt 94]]))))
def k20_29 : RCode :=
(.frame
(.seq
(.seq
(RR [0, 1, 4, 7, 8, 12, 13, 14] [gI 14 .mov [ti 0]])
(.block 4
(.loop 30 [0, 1, 4, 7, 8, 12, 13, 14] l20_30)))
(.seq
(.seq
(RR [0, 1, 4, 7, 8, 13, 130] [gI 127 .mov [tt 8], gI 128 .mov [tt 13], gI 129 (.call 58) [tt 127, tt 128], gI 130 (.pure (.un .not)) [tt 129]])
(.cond (.t 130 false)
(.seq
(RR [4, 5] [gI 131 (.build [AV.int .i64 0, AV.sl false 1 [], AV.str [], AV.str [], AV.int .i64 0, AV.int .i64 0] []) [], gS (.store 6) [tt 4, tt 131], gI 5 .mov [ti 11]])
(.ret [4, 5]))
.skip))
(.seq
(RR [0, 1, 4, 7, 16] [gI 132 .mov [tt 8], gI 133 .mov [tt 13], gI 134 (.pure .lenS) [tt 133], gI 135 (.pure (.sliceStr true false)) [tt 132, tt 134], gI 136 (.call 57) [tt 135], gI 16 (.new 3) [.c (AV.agg [AV.int .i64 0, AV.str [], AV.bool false])], gS (.store 3) [tt 16, tt 136]])
(.seq
(.seq
(RR [0, 1, 4, 7, 16, 144] [gI 137 (.pure (.faddr 2)) [tt 16], gI 138 (.load 1 false false) [tt 137], gI 139 (.pure (.un .not)) [tt 138], gI 140 .mov [tt 139], .sub [(⟨some 141, .pure (.faddr 1), [tt 16], some (140, false)⟩, .any),
    (⟨some 142, .load 1 false false, [tt 141], some (140, false)⟩, .any),
    (⟨some 143, .pure (.bin .neq), [tt 142, .c (AV.str [])], some (140, false)⟩, .any),
    (⟨some 144, .pure .pick, [tt 140, .c (AV.bool true), tt 143], none⟩, .any)] 144])
(.cond (.t 144 false)
(.seq
(RR [4, 5] [gI 145 (.build [AV.int .i64 0, AV.sl false 1 [], AV.str [], AV.str [], AV.int .i64 0, AV.int .i64 0] []) [], gS (.store 6) [tt 4, tt 145], gI 5 .mov [ti 11]])
(.ret [4, 5]))
.skip))
(.seq
(RR [0, 1, 4, 7] [gI 146 (.pure (.faddr 0)) [tt 16], gI 147 (.load 1 false false) [tt 146], gI 148 (.pure (.faddr 5)) [tt 7], gS (.store 1) [tt 148, tt 147]])
(.seq
(RR [1, 4, 7, 17, 18] [gI 150 .mov [tt 0], gI 151 (.load 6 true false) [tt 7], gI 152 (.call 18) [tt 150, tt 151], gI 149 .mov [tt 152], gI 153 (.pure (.extract 0)) [tt 149], gI 154 (.pure (.extract 1)) [tt 149], gI 17 .mov [tt 153], gI 18 .mov [tt 154]])
(.seq
(.seq
(RR [4, 7, 161] [gI 155 .mov [tt 18], gI 156 (.pure (.bin .neq)) [tt 155, ti 0], gI 157 .mov [tt 156], .sub [(⟨some 158, .mov, [tt 17], some (157, false)⟩, .any),
    (⟨some 159, .mov, [tt 1], some (157, false)⟩, .any),
    (⟨some 160, .pure (.bin .neq), [tt 158, tt 159], some (157, false)⟩, .any),
    (⟨some 161, .pure .pick, [tt 157, .c (AV.bool true), tt 160], none⟩, .any)] 161])
(.cond (.t 161 false)
(.seq
(RR [4, 5] [gI 162 (.build [AV.int .i64 0, AV.sl false 1 [], AV.str [], AV.str [], AV.int .i64 0, AV.int .i64 0] []) [], gS (.store 6) [tt 4, tt 162], gI 5 .mov [ti 11]])
(.ret [4, 5]))
.skip))
(.seq
(RR [4, 5] [gI 163 (.load 6 true false) [tt 7], gS (.store 6) [tt 4, tt 163], gI 5 .mov [ti 0]])
(.ret [4, 5]))))))))))
def k20_25 : RCode :=
(.seq
(RR [0, 1, 4, 7, 8, 12, 13] [gI 12 .mov [.c (AV.str [126])], gI 13 .mov [.c (AV.str [45])]])
(.seq
(.seq
(RR [0, 1, 4, 7, 8, 12, 13, 90] [gI 89 .mov [tt 0], gI 90 (.pure (.bin .eql)) [tt 89, ti 3]])
(.cond (.t 90 false)
(.seq
(RR [0, 1, 4, 7, 8, 12] [gI 12 .mov [.c (AV.str [95])]])
(RR [0, 1, 4, 7, 8, 12, 13] [gI 13 .mov [.c (AV.str [45, 114])]]))
.skip))
(.cut 100029 [0, 1, 4, 7, 8, 12, 13] [4, 5] k20_29)))
def l20_15 : RCode :=
 (.frame
(.block 3
(.seq
(RR [0, 1, 4, 7, 11] [gI 51 .mov [tt 8], gI 52 (.call 57) [tt 51], gI 11 (.new 3) [.c (AV.agg [AV.int .i64 0, AV.str [], AV.bool false])], gS (.store 3) [tt 11, tt 52]])
(.seq
(.seq
(RR [0, 1, 4, 7, 11, 55] [gI 53 (.pure (.faddr 2)) [tt 11], gI 54 (.load 1 false false) [tt 53], gI 55 (.pure (.un .not)) [tt 54]])
(.cond (.t 55 false)
(.seq
(RR [4, 5] [gI 56 (.build [AV.int .i64 0, AV.sl false 1 [], AV.str [], AV.str [], AV.int .i64 0, AV.int .i64 0] []) [], gS (.store 6) [tt 4, tt 56], gI 5 .mov [ti 11]])
(.ret [4, 5]))
.skip))
(.seq
(RR [0, 1, 4, 7, 11] [gI 57 (.pure (.faddr 1)) [tt 7], gI 58 (.load 1 false true) [.t 57 true], gI 59 (.pure (.faddr 0)) [tt 11], gI 60 (.load 1 false false) [tt 59], gI 61 (.bslice 1 false 1) [tt 60], gI 62 (.append 1 8 false) [.t 58 true, tt 61], gI 63 (.pure (.faddr 1)) [tt 7], gS (.store 1) [tt 63, .t 62 true]])
(.seq
(RR [0, 1, 4, 7, 8] [gI 64 (.pure (.faddr 1)) [tt 11], gI 65 (.load 1 false false) [tt 64], gI 8 .mov [tt 65]])
(.seq
(.seq
(RR [0, 1, 4, 7, 8, 68] [gI 66 .mov [tt 8], gI 67 (.call 58) [tt 66, .c (AV.str [46])], gI 68 (.pure (.un .not)) [tt 67]])
(.cond (.t 68 false)
(.exit 2 [0, 1, 4, 7, 8])
.skip))
(RR [0, 1, 4, 7, 8] [gI 69 .mov [tt 8], gI 70 (.pure (.sliceStr true false)) [tt 69, ti 1], gI 8 .mov [tt 70]]))))))))
def l20_7 : RCode :=
 (.frame
(.seq
(.seq
(RR [0, 1, 4, 7, 8, 9, 31] [gI 28 .mov [tt 9], gI 29 .mov [tt 1], gI 30 (.pure .lenS) [tt 29], gI 31 (.pure (.bin .lss)) [tt 28, tt 30]])
(.cond (.t 31 false)
.skip
(.exit 0 [0, 1, 4, 7, 8])))
(.seq
(.block 1
(.seq
(RR [0, 1, 4, 7, 8, 9, 37] [gI 34 .mov [tt 1], gI 35 .mov [tt 9], gI 36 (.pure .idxStr) [tt 34, tt 35], gI 37 (.pure (.bin .eql)) [tt 36, .c (AV.int .u8 58)]])
(.frame (.cond (.t 37 false)
(.seq
(RR [0, 1, 4, 7, 9, 10] [gI 38 .mov [tt 1], gI 39 (.call 57) [tt 38], gI 10 (.new 3) [.c (AV.agg [AV.int .i64 0, AV.str [], AV.bool false])], gS (.store 3) [tt 10, tt 39]])
(.seq
(.seq
(RR [0, 1, 4, 7, 9, 10, 42] [gI 40 (.pure (.faddr 2)) [tt 10], gI 41 (.load 1 false false) [tt 40], gI 42 (.pure (.un .not)) [tt 41]])
(.cond (.t 42 false)
(.seq
(RR [4, 5] [gI 43 (.build [AV.int .i64 0, AV.sl false 1 [], AV.str [], AV.str [], AV.int .i64 0, AV.int .i64 0] []) [], gS (.store 6) [tt 4, tt 43], gI 5 .mov [ti 11]])
(.ret [4, 5]))
.skip))
(.seq
(RR [0, 1, 4, 7, 9] [gI 44 (.pure (.faddr 0)) [tt 10], gI 45 (.load 1 false false) [tt 44], gI 46 (.pure (.faddr 0)) [tt 7], gS (.store 1) [tt 46, tt 45]])
(RR [0, 1, 4, 7, 8, 9] [gI 47 .mov [tt 1], gI 48 .mov [tt 9], gI 49 (.pure (.bin .add)) [tt 48, ti 1], gI 50 (.pure (.sliceStr true false)) [tt 47, tt 49], gI 8 .mov [tt 50]]))))
.skip))))
(RR [0, 1, 4, 7, 8, 9] [gI 32 .mov [tt 9], gI 33 (.pure (.bin .add)) [tt 32, ti 1], gI 9 .mov [tt 33]]))))
def r20 : RFunc := ⟨164,
(.seq
(RR [0, 1, 4] [gI 4 (.new 6) [.c (AV.agg [AV.int .i64 0, AV.sl false 1 [], AV.str [], AV.str [], AV.int .i64 0, AV.int .i64 0])], gI 5 .mov [ti 0]])
(.seq
(.seq
(RR [0, 1, 4, 6] [gI 19 .mov [tt 0], gI 20 .mov [tt 1], gI 21 (.call 56) [tt 19, tt 20], gI 6 .mov [tt 21]])
(.seq
(RR [0, 1, 4, 6, 23] [gI 22 .mov [tt 6], gI 23 (.pure (.bin .neq)) [tt 22, ti 0]])
(.cond (.t 23 false)
(.seq
(RR [4, 5] [gI 24 (.build [AV.int .i64 0, AV.sl false 1 [], AV.str [], AV.str [], AV.int .i64 0, AV.int .i64 0] []) [], gI 25 .mov [tt 6], gS (.store 6) [tt 4, tt 24], gI 5 .mov [tt 25]])
(.ret [4, 5]))
.skip)))
(.seq
(RR [0, 1, 4, 7] [gI 26 (.build [AV.int .i64 0, AV.sl true 1 [], AV.str [], AV.str [], AV.int .i64 0, AV.int .i64 0] []) [], gI 7 (.new 6) [.c (AV.agg [AV.int .i64 0, AV.sl true 1 [], AV.str [], AV.str [], AV.int .i64 0, AV.int .i64 0])], gS (.store 6) [tt 7, .t 26 true]])
(.seq
(RR [0, 1, 4, 7, 8] [gI 27 .mov [tt 1], gI 8 .mov [tt 27]])
(.seq
(.seq
(RR [0, 1, 4, 7, 8, 9] [gI 9 .mov [ti 0]])
(.block 0
(.loop 7 [0, 1, 4, 7, 8, 9] l20_7)))
(.seq
(.block 2
(.loop 15 [0, 1, 4, 7, 8] l20_15))
(.seq
(.seq
(RR [0, 1, 4, 7, 8, 83] [gI 71 .mov [tt 8], gI 72 (.pure .lenS) [tt 71], gI 73 (.pure (.bin .gtr)) [tt 72, ti 0], gI 74 .mov [tt 73], .sub [(⟨some 75, .mov, [tt 8], some (74, true)⟩, .any),
    (⟨some 76, .pure .idxStr, [tt 75, ti 0], some (74, true)⟩, .any),
    (⟨some 77, .pure (.bin .geq), [tt 76, .c (AV.int .u8 97)], some (74, true)⟩, .any),
    (⟨some 78, .pure .pick, [tt 74, tt 77, .c (AV.bool false)], none⟩, .any)] 78, gI 79 .mov [tt 78], .sub [(⟨some 80, .mov, [tt 8], some (79, true)⟩, .any),
    (⟨some 81, .pure .idxStr, [tt 80, ti 0], some (79, true)⟩, .any),
    (⟨some 82, .pure (.bin .leq), [tt 81, .c (AV.int .u8 122)], some (79, true)⟩, .any),
    (⟨some 83, .pure .pick, [tt 79, tt 82, .c (AV.bool false)], none⟩, .any)] 83])
(.cond (.t 83 false)
(.seq
(RR [0, 1, 4, 7, 8] [gI 84 .mov [tt 8], gI 85 (.pure (.sliceStr false true)) [tt 84, ti 1], gI 86 (.pure (.faddr 2)) [tt 7], gS (.store 1) [tt 86, tt 85]])
(RR [0, 1, 4, 7, 8] [gI 87 .mov [tt 8], gI 88 (.pure (.sliceStr true false)) [tt 87, ti 1], gI 8 .mov [tt 88]]))
.skip))
(.cut 100025 [0, 1, 4, 7, 8] [4, 5] k20_25)))))))),
 [.cell 4 6 true, .tmp 5 false], false⟩
def a20 : Ann := mkAnn [(4, 2, [false, true]), (18, 1, [true]), (18, 5, [true]), (18, 7, [false, true])] [(7, [0, 1, 4, 7, 8, 9]), (15, [0, 1, 4, 7, 8]), (30, [0, 1, 4, 7, 8, 12, 13, 14])] false [] [] [(0, [0, 1, 4]), (1, [0, 1, 4, 6]), (2, [0, 1, 4, 6, 23]), (3, [4, 5]), (4, [0, 1, 4, 7]), (5, [0, 1, 4, 7, 8]), (6, [0, 1, 4, 7, 8, 9]), (7, [0, 1, 4, 7, 8, 9, 31]), (8, [0, 1, 4, 7, 8, 9]), (9, [0, 1, 4, 7, 8, 9, 37]), (10, [0, 1, 4, 7, 9, 10]), (11, [0, 1, 4, 7, 9, 10, 42]), (12, [4, 5]), (13, [0, 1, 4, 7, 9]), (14, [0, 1, 4, 7, 8, 9]), (15, [0, 1, 4, 7, 11]), (16, [0, 1, 4, 7, 11, 55]), (17, [4, 5]), (18, [0, 1, 4, 7, 11]), (19, [0, 1, 4, 7, 8]), (20, [0, 1, 4, 7, 8, 68]), (21, [0, 1, 4, 7, 8]), (22, [0, 1, 4, 7, 8, 83]), (23, [0, 1, 4, 7, 8]), (24, [0, 1, 4, 7, 8]), (25, [0, 1, 4, 7, 8, 12, 13]), (26, [0, 1, 4, 7, 8, 12, 13, 90]), (27, [0, 1, 4, 7, 8, 12]), (28, [0, 1, 4, 7, 8, 12, 13]), (29, [0, 1, 4, 7, 8, 12, 13, 14]), (30, [0, 1, 4, 7, 8, 12, 13, 14, 92]), (31, [0, 1, 4, 7, 8, 12, 13, 14]), (32, [0, 1, 4, 7, 8, 12, 13, 14, 105]), (33, [0, 1, 4, 7, 8, 12, 13, 14]), (34, [0, 1, 4, 7, 12, 13, 14, 15]), (35, [0, 1, 4, 7, 12, 13, 14, 15, 120]), (36, [4, 5]), (37, [0, 1, 4, 7, 12, 13, 14, 15]), (38, [0, 1, 4, 7, 8, 12, 13, 14]), (39, [0, 1, 4, 7, 8, 13, 130]), (40, [4, 5]), (41, [0, 1, 4, 7, 16]), (42, [0, 1, 4, 7, 16, 144]), (43, [4, 5]), (44, [0, 1, 4, 7]), (45, [1, 4, 7, 17, 18]), (46, [4, 7, 161]), (47, [4, 5]), (48, [4, 5])] [] [(0, 0, [0, 2]), (3, 0, [0, 2]), (4, 0, [0, 3]), (4, 1, [0, 3]), (12, 0, [0, 2]), (17, 0, [0, 2]), (36, 0, [0, 2]), (40, 0, [0, 2]), (43, 0, [0, 2]), (47, 0, [0, 2])] [(25, [0, 1, 4, 7, 8], [4, 5]), (29, [0, 1, 4, 7, 8, 12, 13], [4, 5])] [(0, [0, 1, 4, 7, 8]), (1, [0, 1, 4, 7, 8, 9]), (2, [0, 1, 4, 7, 8]), (3, [0, 1, 4, 7, 8]), (4, [0, 1, 4, 7, 8, 13]), (5, [0, 1, 4, 7, 8, 12, 13, 14])] [4, 5] [false, false] [(22, [(4, none), (4, some 78), (1, none), (4, some 83)]), (32, [(4, none), (7, some 105)]), (42, [(4, none), (4, some 144)]), (46, [(3, none), (4, some 161)])] [] [7, 15, 30, 100029, 200010, 200033]
set_option maxRecDepth 100000 in
theorem c20 : convFn Tryd.prog a20 20 = some r20 := by kernel_rfl

/-- drayage/vmap.Check -/
def r22 : RFunc := ⟨77,
(.seq
(RR [1] [gI 1 (.new 6) [tt 0], gI 2 .mov [ti 0]])
(.seq
(RR [1, 3] [gI 6 (.pure (.faddr 0)) [tt 1], gI 7 (.load 1 false false) [tt 6], gI 8 (.pure (.faddr 4)) [tt 1], gI 9 (.load 1 false false) [tt 8], gI 10 (.pure (.faddr 5)) [tt 1], gI 11 (.load 1 false false) [tt 10], gI 12 (.bslice 1 false 3) [tt 7, tt 9, tt 11], gI 13 (.pure (.faddr 1)) [tt 1], gI 14 (.load 1 false false) [tt 13], gI 15 (.append 1 8 false) [.t 12 true, tt 14], gI 3 .mov [tt 15]])
(.seq
(RR [1, 3, 4] [gI 16 (.pure (.faddr 2)) [tt 1], gI 17 (.load 1 false false) [tt 16], gI 18 (.pure (.bin .eql)) [tt 17, .c (AV.str [])], gI 19 .mov [tt 18], .sub [(⟨some 20, .pure (.faddr 2), [tt 1], some (19, false)⟩, .any),
    (⟨some 21, .load 1 false false, [tt 20], some (19, false)⟩, .any),
    (⟨some 22, .pure .lenS, [tt 21], some (19, false)⟩, .any),
    (⟨some 23, .pure (.bin .eql), [tt 22, ti 1], some (19, false)⟩, .any),
    (⟨some 24, .mov, [tt 23], some (19, false)⟩, .any),
    (⟨some 25, .pure (.faddr 2), [tt 1], some (24, true)⟩, .any),
    (⟨some 26, .load 1 false false, [tt 25], some (24, true)⟩, .any),
    (⟨some 27, .pure (.bin .geq), [tt 26, .c (AV.str [97])], some (24, true)⟩, .any),
    (⟨some 28, .pure .pick, [tt 24, tt 27, .c (AV.bool false)], some (19, false)⟩, .any),
    (⟨some 29, .mov, [tt 28], some (19, false)⟩, .any),
    (⟨some 30, .pure (.faddr 2), [tt 1], some (29, true)⟩, .any),
    (⟨some 31, .load 1 false false, [tt 30], some (29, true)⟩, .any),
    (⟨some 32, .pure (.bin .leq), [tt 31, .c (AV.str [122])], some (29, true)⟩, .any),
    (⟨some 33, .pure .pick, [tt 29, tt 32, .c (AV.bool false)], some (19, false)⟩, .any),
    (⟨some 34, .pure .pick, [tt 19, .c (AV.bool true), tt 33], none⟩, .any)] 34, gI 4 .mov [tt 34]])
(.seq
(.region (some ([], [])) [1, 3, 4, 5] [gI 35 (.pure (.faddr 3)) [tt 1], gI 36 (.load 1 false false) [tt 35], gI 37 (.pure (.bin .eql)) [tt 36, .c (AV.str [])], gI 38 .mov [tt 37], .sub [(⟨some 39, .pure (.faddr 4), [tt 1], some (38, true)⟩, .any),
    (⟨some 40, .load 1 false false, [tt 39], some (38, true)⟩, .any),
    (⟨some 41, .pure (.bin .eql), [tt 40, ti 0], some (38, true)⟩, .any),
    (⟨some 42, .pure .pick, [tt 38, tt 41, .c (AV.bool false)], none⟩, .any)] 42, gI 43 .mov [tt 42], .sub [(⟨some 44, .call 53, [], some (43, false)⟩, .any),
    (⟨some 45, .pure (.faddr 3), [tt 1], some (43, false)⟩, .any),
    (⟨some 46, .load 1 false false, [tt 45], some (43, false)⟩, .any),
    (⟨some 47, .call 60, [tt 44, tt 46], some (43, false)⟩, .any),
    (⟨some 48, .pure .pick, [tt 43, .c (AV.bool true), tt 47], none⟩, .any)] 48, gI 5 .mov [tt 48]])
(.seq
(.seq
(RR [76] [gI 49 (.pure (.faddr 1)) [tt 1], gI 50 (.load 1 false false) [tt 49], gI 51 (.pure .lenSl) [tt 50], gI 52 (.pure (.bin .eql)) [tt 51, ti 0], gI 53 .mov [tt 52], .sub [(⟨some 54, .pure (.faddr 1), [tt 1], some (53, false)⟩, .any),
    (⟨some 55, .load 1 false false, [tt 54], some (53, false)⟩, .any),
    (⟨some 56, .pure .lenSl, [tt 55], some (53, false)⟩, .any),
    (⟨some 57, .pure (.bin .gtr), [tt 56, ti 64], some (53, false)⟩, .any),
    (⟨some 58, .pure .pick, [tt 53, .c (AV.bool true), tt 57], none⟩, .any)] 58, gI 59 .mov [tt 58], .sub [(⟨some 60, .mov, [tt 4], some (59, false)⟩, .any),
    (⟨some 61, .pure (.un .not), [tt 60], some (59, false)⟩, .any),
    (⟨some 62, .pure .pick, [tt 59, .c (AV.bool true), tt 61], none⟩, .any)] 62, gI 63 .mov [tt 62], .sub [(⟨some 64, .mov, [tt 5], some (63, false)⟩, .any),
    (⟨some 65, .pure (.un .not), [tt 64], some (63, false)⟩, .any),
    (⟨some 66, .pure .pick, [tt 63, .c (AV.bool true), tt 65], none⟩, .any)] 66, gI 67 .mov [tt 66], .sub [(⟨some 68, .mov, [tt 3], some (67, false)⟩, .any),
    (⟨some 69, .call 61, [tt 68, .c (.fn 62 [])], some (67, false)⟩, .any),
    (⟨some 70, .pure .pick, [tt 67, .c (AV.bool true), tt 69], none⟩, .any)] 70, gI 71 .mov [tt 70], .sub [(⟨some 72, .load 6 true false, [tt 1], some (71, false)⟩, .any),
    (⟨some 73, .call 48, [ti 1, tt 72], some (71, false)⟩, .any),
    (⟨some 74, .pure .lenS, [tt 73], some (71, false)⟩, .any),
    (⟨some 75, .pure (.bin .gtr), [tt 74, ti 64], some (71, false)⟩, .any),
    (⟨some 76, .pure .pick, [tt 71, .c (AV.bool true), tt 75], none⟩, .any)] 76])
(.cond (.t 76 false)
(.seq
(RR [2] [gI 2 .mov [ti 11]])
(.ret [2]))
.skip))
(.seq
(RR [2] [gI 2 .mov [ti 0]])
(.ret [2]))))))),
 [.tmp 2 false], false⟩
def a22 : Ann := mkAnn [(1, 9, [true])] [] false [(3, [])] [] [(0, [1]), (1, [1, 3]), (2, [1, 3, 4]), (3, [1, 3, 4, 5]), (4, [76]), (5, [2]), (6, [2])] [] [] [] [] [2] [false] [(2, [(4, none), (15, some 34)]), (3, [(4, none), (4, some 42), (1, none), (5, some 48)]), (4, [(5, none), (5, some 58), (1, none), (3, some 62), (1, none), (3, some 66), (1, none), (3, some 70), (1, none), (5, some 76)])] [] []
set_option maxRecDepth 100000 in
theorem c22 : convFn Tryd.prog a22 22 = some r22 := by kernel_rfl

/-- drayage/drayageref13.Check -/
def l23_4 : RCode :=
(.seq
(.seq
(RR [1, 3, 52] [gI 48 .mov [tt 3], gI 49 (.pure (.faddr 1)) [tt 1], gI 50 (.load 1 false false) [tt 49], gI 51 (.pure .lenSl) [tt 50], gI 52 (.pure (.bin .lss)) [tt 48, tt 51]])
(.cond (.t 52 false)
.skip
(.exit 0 [1])))
(.seq
(.block 1
(.seq
(RR [1, 3, 61] [gI 55 (.pure (.faddr 1)) [tt 1], gI 56 (.load 1 false false) [tt 55], gI 57 .mov [tt 3], .one ⟨some 58, .pure (.iaddr 1), [tt 56, tt 57], none⟩ (.int .i64), gI 59 (.load 1 false false) [tt 58], gI 60 (.call 64) [tt 59], gI 61 (.pure (.un .not)) [tt 60]])
(.cond (.t 61 false)
(.seq
(RR [2] [gI 2 .mov [ti 11]])
(.ret [2]))
.skip)))
(RR [1, 3] [gI 53 .mov [tt 3], gI 54 (.pure (.bin .add)) [tt 53, ti 1], gI 3 .mov [tt 54]])))
def r23 : RFunc := ⟨90,
(.seq
(RR [1] [gI 1 (.new 6) [tt 0], gI 2 .mov [ti 0]])
(.seq
(.seq
(RR [1, 47] [gI 4 (.pure (.faddr 1)) [tt 1], gI 5 (.load 1 false false) [tt 4], gI 6 (.pure .lenSl) [tt 5], gI 7 (.pure (.bin .lss)) [tt 6, ti 1], gI 8 .mov [tt 7], .sub [(⟨some 9, .pure (.faddr 1), [tt 1], some (8, false)⟩, .any),
    (⟨some 10, .load 1 false false, [tt 9], some (8, false)⟩, .any),
    (⟨some 11, .pure .lenSl, [tt 10], some (8, false)⟩, .any),
    (⟨some 12, .pure (.bin .gtr), [tt 11, ti 64], some (8, false)⟩, .any),
    (⟨some 13, .pure .pick, [tt 8, .c (AV.bool true), tt 12], none⟩, .any)] 13, gI 14 .mov [tt 13], .sub [(⟨some 15, .pure (.faddr 0), [tt 1], some (14, false)⟩, .any),
    (⟨some 16, .load 1 false false, [tt 15], some (14, false)⟩, .any),
    (⟨some 17, .call 64, [tt 16], some (14, false)⟩, .any),
    (⟨some 18, .pure (.un .not), [tt 17], some (14, false)⟩, .any),
    (⟨some 19, .pure .pick, [tt 14, .c (AV.bool true), tt 18], none⟩, .any)] 19, gI 20 .mov [tt 19], .sub [(⟨some 21, .pure (.faddr 4), [tt 1], some (20, false)⟩, .any),
    (⟨some 22, .load 1 false false, [tt 21], some (20, false)⟩, .any),
    (⟨some 23, .call 64, [tt 22], some (20, false)⟩, .any),
    (⟨some 24, .pure (.un .not), [tt 23], some (20, false)⟩, .any),
    (⟨some 25, .pure .pick, [tt 20, .c (AV.bool true), tt 24], none⟩, .any)] 25, gI 26 .mov [tt 25], .sub [(⟨some 27, .pure (.faddr 5), [tt 1], some (26, false)⟩, .any),
    (⟨some 28, .load 1 false false, [tt 27], some (26, false)⟩, .any),
    (⟨some 29, .call 64, [tt 28], some (26, false)⟩, .any),
    (⟨some 30, .pure (.un .not), [tt 29], some (26, false)⟩, .any),
    (⟨some 31, .pure .pick, [tt 26, .c (AV.bool true), tt 30], none⟩, .any)] 31, gI 32 .mov [tt 31], .sub [(⟨some 33, .pure (.faddr 3), [tt 1], some (32, false)⟩, .any),
    (⟨some 34, .load 1 false false, [tt 33], some (32, false)⟩, .any),
    (⟨some 35, .call 65, [tt 34], some (32, false)⟩, .any),
    (⟨some 36, .pure (.bin .lss), [tt 35, ti 0], some (32, false)⟩, .any),
    (⟨some 37, .pure .pick, [tt 32, .c (AV.bool true), tt 36], none⟩, .any)] 37, gI 38 .mov [tt 37], .sub [(⟨some 39, .pure (.faddr 3), [tt 1], some (38, false)⟩, .any),
    (⟨some 40, .load 1 false false, [tt 39], some (38, false)⟩, .any),
    (⟨some 41, .pure (.bin .eql), [tt 40, .c (AV.str [])], some (38, false)⟩, .any),
    (⟨some 42, .mov, [tt 41], some (38, false)⟩, .any),
    (⟨some 43, .pure (.faddr 4), [tt 1], some (42, true)⟩, .any),
    (⟨some 44, .load 1 false false, [tt 43], some (42, true)⟩, .any),
    (⟨some 45, .pure (.bin .neq), [tt 44, ti 0], some (42, true)⟩, .any),
    (⟨some 46, .pure .pick, [tt 42, tt 45, .c (AV.bool false)], some (38, false)⟩, .any),
    (⟨some 47, .pure .pick, [tt 38, .c (AV.bool true), tt 46], none⟩, .any)] 47])
(.cond (.t 47 false)
(.seq
(RR [2] [gI 2 .mov [ti 11]])
(.ret [2]))
.skip))
(.seq
(.seq
(RR [1, 3] [gI 3 .mov [ti 0]])
(.block 0
(.loop 4 [1, 3] l23_4)))
(.seq
(.seq
(RR [89] [gI 62 (.pure (.faddr 2)) [tt 1], gI 63 (.load 1 false false) [tt 62], gI 64 (.pure .lenS) [tt 63], gI 65 (.pure (.bin .gtr)) [tt 64, ti 1], gI 66 .mov [tt 65], .sub [(⟨some 67, .pure (.faddr 2), [tt 1], some (66, false)⟩, .any),
    (⟨some 68, .load 1 false false, [tt 67], some (66, false)⟩, .any),
    (⟨some 69, .pure .lenS, [tt 68], some (66, false)⟩, .any),
    (⟨some 70, .pure (.bin .eql), [tt 69, ti 1], some (66, false)⟩, .any),
    (⟨some 71, .mov, [tt 70], some (66, false)⟩, .any),
    (⟨some 72, .pure (.faddr 2), [tt 1], some (71, true)⟩, .any),
    (⟨some 73, .load 1 false false, [tt 72], some (71, true)⟩, .any),
    (⟨some 74, .pure .idxStr, [tt 73, ti 0], some (71, true)⟩, .any),
    (⟨some 75, .pure (.bin .lss), [tt 74, .c (AV.int .u8 97)], some (71, true)⟩, .any),
    (⟨some 76, .mov, [tt 75], some (71, true)⟩, .any),
    (⟨some 77, .pure (.faddr 2), [tt 1], some (76, false)⟩, .any),
    (⟨some 78, .load 1 false false, [tt 77], some (76, false)⟩, .any),
    (⟨some 79, .pure .idxStr, [tt 78, ti 0], some (76, false)⟩, .any),
    (⟨some 80, .pure (.bin .gtr), [tt 79, .c (AV.int .u8 122)], some (76, false)⟩, .any),
    (⟨some 81, .pure .pick, [tt 76, .c (AV.bool true), tt 80], some (71, true)⟩, .any),
    (⟨some 82, .pure .pick, [tt 71, tt 81, .c (AV.bool false)], some (66, false)⟩, .any),
    (⟨some 83, .pure .pick, [tt 66, .c (AV.bool true), tt 82], none⟩, .any)] 83, gI 84 .mov [tt 83], .sub [(⟨some 85, .load 6 true false, [tt 1], some (84, false)⟩, .any),
    (⟨some 86, .call 49, [ti 1, tt 85], some (84, false)⟩, .any),
    (⟨some 87, .pure .lenS, [tt 86], some (84, false)⟩, .any),
    (⟨some 88, .pure (.bin .gtr), [tt 87, ti 64], some (84, false)⟩, .any),
    (⟨some 89, .pure .pick, [tt 84, .c (AV.bool true), tt 88], none⟩, .any)] 89])
(.cond (.t 89 false)
(.seq
(RR [2] [gI 2 .mov [ti 11]])
(.ret [2]))
.skip))
(.seq
(RR [2] [gI 2 .mov [ti 0]])
(.ret [2])))))),
 [.tmp 2 false], false⟩
def a23 : Ann := mkAnn [] [(4, [1, 3])] false [] [] [(0, [1]), (1, [1, 47]), (2, [2]), (3, [1, 3]), (4, [1, 3, 52]), (5, [1, 3]), (6, [1, 3, 61]), (7, [2]), (8, [89]), (9, [2]), (10, [2])] [] [] [] [(0, [1]), (1, [1, 3])] [2] [false] [(1, [(5, none), (5, some 13), (1, none), (5, some 19), (1, none), (5, some 25), (1, none), (5, some 31), (1, none), (5, some 37), (1, none), (9, some 47)]), (8, [(5, none), (17, some 83), (1, none), (5, some 89)])] [(6, 3, (.int .i64))] []
set_option maxRecDepth 100000 in
theorem c23 : convFn Tryd.prog a23 23 = some r23 := by kernel_rfl

/-- drayage/vmap.Translate -/
def r24 : RFunc := ⟨32,
(.seq
(RR [0, 1, 2] [gI 6 .mov [.c (AV.str [])], gI 7 .mov [ti 0]])
(.seq
(.seq
(RR [0, 1, 2, 17] [gI 10 .mov [tt 0], gI 11 (.call 47) [tt 10], gI 12 (.pure (.un .not)) [tt 11], gI 13 .mov [tt 12], .sub [(⟨some 14, .mov, [tt 1], some (13, false)⟩, .any),
    (⟨some 15, .call 47, [tt 14], some (13, false)⟩, .any),
    (⟨some 16, .pure (.un .not), [tt 15], some (13, false)⟩, .any),
    (⟨some 17, .pure .pick, [tt 13, .c (AV.bool true), tt 16], none⟩, .any)] 17])
(.cond (.t 17 false)
(.seq
(RR [6, 7] [gI 6 .mov [.c (AV.str [])], gI 7 .mov [ti 9]])
(.ret [6, 7]))
.skip))
(.seq
(RR [1, 8, 9] [gI 19 .mov [tt 0], gI 20 .mov [tt 2], gI 21 (.call 19) [tt 19, tt 20], gI 18 .mov [tt 21], gI 22 (.pure (.extract 0)) [tt 18], gI 23 (.pure (.extract 1)) [tt 18], gI 8 (.new 6) [.c (AV.agg [AV.int .i64 0, AV.sl false 1 [], AV.str [], AV.str [], AV.int .i64 0, AV.int .i64 0])], gS (.store 6) [tt 8, tt 22], gI 9 .mov [tt 23]])
(.seq
(.seq
(RR [1, 8, 9, 25] [gI 24 .mov [tt 9], gI 25 (.pure (.bin .neq)) [tt 24, ti 0]])
(.cond (.t 25 false)
(.seq
(RR [6, 7] [gI 26 .mov [tt 9], gI 6 .mov [.c (AV.str [])], gI 7 .mov [tt 26]])
(.ret [6, 7]))
.skip))
(.seq
(RR [6, 7] [gI 27 .mov [tt 1], gI 28 (.load 6 true false) [tt 8], gI 29 (.call 17) [tt 27, tt 28], gI 30 (.pure (.extract 0)) [tt 29], gI 31 (.pure (.extract 1)) [tt 29], gI 6 .mov [tt 30], gI 7 .mov [tt 31]])
(.ret [6, 7])))))),
 [.tmp 6 false, .tmp 7 false], false⟩
def a24 : Ann := mkAnn [] [] false [] [] [(0, [0, 1, 2]), (1, [0, 1, 2, 17]), (2, [6, 7]), (3, [1, 8, 9]), (4, [1, 8, 9, 25]), (5, [6, 7]), (6, [6, 7])] [] [(3, 6, [0, 2])] [] [] [6, 7] [false, false] [(1, [(4, none), (4, some 17)])] [] []
set_option maxRecDepth 100000 in
theorem c24 : convFn Tryd.prog a24 24 = some r24 := by kernel_rfl

/-- drayage/drayageref13.Translate -/
def r25 : RFunc := ⟨38,
(.seq
(RR [0, 1, 2] [gI 6 .mov [.c (AV.str [])], gI 7 .mov [ti 0]])
(.seq
(.seq
(RR [0, 1, 2, 23] [gI 10 .mov [tt 0], gI 11 (.pure (.bin .lss)) [tt 10, ti 1], gI 12 .mov [tt 11], .sub [(⟨some 13, .mov, [tt 0], some (12, false)⟩, .any),
    (⟨some 14, .pure (.bin .gtr), [tt 13, ti 3], some (12, false)⟩, .any),
    (⟨some 15, .pure .pick, [tt 12, .c (AV.bool true), tt 14], none⟩, .any)] 15, gI 16 .mov [tt 15], .sub [(⟨some 17, .mov, [tt 1], some (16, false)⟩, .any),
    (⟨some 18, .pure (.bin .lss), [tt 17, ti 1], some (16, false)⟩, .any),
    (⟨some 19, .pure .pick, [tt 16, .c (AV.bool true), tt 18], none⟩, .any)] 19, gI 20 .mov [tt 19], .sub [(⟨some 21, .mov, [tt 1], some (20, false)⟩, .any),
    (⟨some 22, .pure (.bin .gtr), [tt 21, ti 3], some (20, false)⟩, .any),
    (⟨some 23, .pure .pick, [tt 20, .c (AV.bool true), tt 22], none⟩, .any)] 23])
(.cond (.t 23 false)
(.seq
(RR [6, 7] [gI 6 .mov [.c (AV.str [])], gI 7 .mov [ti 9]])
(.ret [6, 7]))
.skip))
(.seq
(RR [1, 8, 9] [gI 25 .mov [tt 0], gI 26 .mov [tt 2], gI 27 (.call 20) [tt 25, tt 26], gI 24 .mov [tt 27], gI 28 (.pure (.extract 0)) [tt 24], gI 29 (.pure (.extract 1)) [tt 24], gI 8 (.new 6) [.c (AV.agg [AV.int .i64 0, AV.sl false 1 [], AV.str [], AV.str [], AV.int .i64 0, AV.int .i64 0])], gS (.store 6) [tt 8, tt 28], gI 9 .mov [tt 29]])
(.seq
(.seq
(RR [1, 8, 9, 31] [gI 30 .mov [tt 9], gI 31 (.pure (.bin .neq)) [tt 30, ti 0]])
(.cond (.t 31 false)
(.seq
(RR [6, 7] [gI 32 .mov [tt 9], gI 6 .mov [.c (AV.str [])], gI 7 .mov [tt 32]])
(.ret [6, 7]))
.skip))
(.seq
(RR [6, 7] [gI 33 .mov [tt 1], gI 34 (.load 6 true false) [tt 8], gI 35 (.call 18) [tt 33, tt 34], gI 36 (.pure (.extract 0)) [tt 35], gI 37 (.pure (.extract 1)) [tt 35], gI 6 .mov [tt 36], gI 7 .mov [tt 37]])
(.ret [6, 7])))))),
 [.tmp 6 false, .tmp 7 false], false⟩
def a25 : Ann := mkAnn [] [] false [] [] [(0, [0, 1, 2]), (1, [0, 1, 2, 23]), (2, [6, 7]), (3, [1, 8, 9]), (4, [1, 8, 9, 31]), (5, [6, 7]), (6, [6, 7])] [] [(3, 6, [0, 2])] [] [] [6, 7] [false, false] [(1, [(3, none), (3, some 15), (1, none), (3, some 19), (1, none), (3, some 23)])] [] []
set_option maxRecDepth 100000 in
theorem c25 : convFn Tryd.prog a25 25 = some r25 := by kernel_rfl

/-- drayage/version.part -/
def k39_17 : RCode :=
(.seq
(.region (some ([24], [])) [4, 5] [gI 90 (.load 4 true false) [tt 4], gI 91 .mov [tt 5], gI 92 .mov [tt 91], .sub [(⟨some 93, .pure (.faddr 1), [tt 4], some (92, true)⟩, .any),
    (⟨some 94, .load 1 false false, [tt 93], some (92, true)⟩, .any),
    (⟨some 95, .mov, [tt 8], some (92, true)⟩, .any),
    (⟨some 96, .call 80, [tt 94, tt 95], some (92, true)⟩, .any),
    (⟨some 97, .pure .pick, [tt 92, tt 96, .c (AV.bool false)], none⟩, .any)] 97, gI 98 .mov [tt 97], .sub [(⟨some 99, .pure (.faddr 1), [tt 4], some (98, true)⟩, .any),
    (⟨some 100, .load 1 false false, [tt 99], some (98, true)⟩, .any),
    (⟨some 101, .pure .idxStr, [tt 100, ti 0], some (98, true)⟩, .any),
    (⟨some 102, .call 81, [tt 101], some (98, true)⟩, .any),
    (⟨some 103, .pure .pick, [tt 98, tt 102, .c (AV.bool false)], none⟩, .any)] 103, gI 104 .mov [tt 103], .sub [(⟨some 105, .pure (.faddr 3), [tt 4], some (104, true)⟩, .any),
    (⟨some 106, .load 1 false false, [tt 105], some (104, true)⟩, .any),
    (⟨some 107, .pure (.un .not), [tt 106], some (104, true)⟩, .any),
    (⟨some 108, .mov, [tt 107], some (104, true)⟩, .any),
    (⟨some 109, .pure (.faddr 2), [tt 4], some (108, false)⟩, .any),
    (⟨some 110, .load 1 false false, [tt 109], some (108, false)⟩, .any),
    (⟨some 111, .call 80, [tt 110, .c (AV.str [46, 43, 126])], some (108, false)⟩, .any),
    (⟨some 112, .pure .pick, [tt 108, .c (AV.bool true), tt 111], some (104, true)⟩, .any),
    (⟨some 113, .pure .pick, [tt 104, tt 112, .c (AV.bool false)], none⟩, .any)] 113, gS (.store 4) [tt 4, tt 90], gI 5 .mov [tt 113]])
(.ret [4, 5]))
def k39_11 : RCode :=
(.seq
(.seq
(RR [4, 5, 58] [gI 57 .mov [tt 0], gI 58 (.pure (.bin .eql)) [tt 57, ti 2]])
(.cond (.t 58 false)
(.seq
(RR [4, 5] [gI 59 .mov [tt 5], gI 60 .mov [tt 59], .sub [(⟨some 61, .pure (.faddr 0), [tt 4], some (60, true)⟩, .any),
    (⟨some 62, .load 1 false false, [tt 61], some (60, true)⟩, .any),
    (⟨some 63, .pure .lenS, [tt 62], some (60, true)⟩, .any),
    (⟨some 64, .pure (.bin .lss), [tt 63, ti 2], some (60, true)⟩, .any),
    (⟨some 65, .mov, [tt 64], some (60, true)⟩, .any),
    (⟨some 66, .pure (.faddr 0), [tt 4], some (65, false)⟩, .any),
    (⟨some 67, .load 1 false false, [tt 66], some (65, false)⟩, .any),
    (⟨some 68, .pure .idxStr, [tt 67, ti 0], some (65, false)⟩, .any),
    (⟨some 69, .pure (.bin .neq), [tt 68, .c (AV.int .u8 48)], some (65, false)⟩, .any),
    (⟨some 70, .pure .pick, [tt 65, .c (AV.bool true), tt 69], some (60, true)⟩, .any),
    (⟨some 71, .pure .pick, [tt 60, tt 70, .c (AV.bool false)], none⟩, .any)] 71, gI 5 .mov [tt 71]])
(.seq
(.region (some ([16], [])) [4, 5] [gI 72 (.load 4 true false) [tt 4], gI 73 .mov [tt 5], gI 74 .mov [tt 73], .sub [(⟨some 75, .pure (.faddr 3), [tt 4], some (74, true)⟩, .any),
    (⟨some 76, .load 1 false false, [tt 75], some (74, true)⟩, .any),
    (⟨some 77, .pure .pick, [tt 74, tt 76, .c (AV.bool false)], none⟩, .any)] 77, gI 78 .mov [tt 77], .sub [(⟨some 79, .pure (.faddr 1), [tt 4], some (78, true)⟩, .any),
    (⟨some 80, .load 1 false false, [tt 79], some (78, true)⟩, .any),
    (⟨some 81, .call 80, [tt 80, .c (AV.str [46, 95, 43, 126, 94])], some (78, true)⟩, .any),
    (⟨some 82, .pure .pick, [tt 78, tt 81, .c (AV.bool false)], none⟩, .any)] 82, gI 83 .mov [tt 82], .sub [(⟨some 84, .pure (.faddr 2), [tt 4], some (83, true)⟩, .any),
    (⟨some 85, .load 1 false false, [tt 84], some (83, true)⟩, .any),
    (⟨some 86, .call 80, [tt 85, .c (AV.str [46, 95, 43, 126, 94])], some (83, true)⟩, .any),
    (⟨some 87, .pure .pick, [tt 83, tt 86, .c (AV.bool false)], none⟩, .any)] 87, gS (.store 4) [tt 4, tt 72], gI 5 .mov [tt 87]])
(.ret [4, 5])))
.skip))
(.seq
(RR [4, 5, 8] [gI 8 .mov [.c (AV.str [46, 43, 126])]])
(.seq
(.seq
(RR [4, 5, 8, 89] [gI 88 (.pure (.faddr 3)) [tt 4], gI 89 (.load 1 false false) [tt 88]])
(.cond (.t 89 false)
(RR [4, 5, 8] [gI 8 .mov [.c (AV.str [46, 43, 126, 45])]])
.skip))
(.cut 100017 [4, 5, 8] [4, 5] k39_17))))
def r39 : RFunc := ⟨114,
(.seq
(RR [0, 1, 4] [gI 4 (.new 4) [.c (AV.agg [AV.str [], AV.str [], AV.str [], AV.bool false])], gI 5 .mov [.c (AV.bool false)]])
(.seq
(.seq
(RR [0, 1, 4, 10] [gI 9 .mov [tt 0], gI 10 (.pure (.bin .eql)) [tt 9, ti 3]])
(.cond (.t 10 false)
(.seq
(RR [1, 4, 5] [gI 12 .mov [tt 1], gI 13 (.call 40) [tt 12], gI 11 .mov [tt 13], gI 14 (.pure (.extract 0)) [tt 11], gI 15 (.pure (.extract 1)) [tt 11], gI 5 .mov [tt 15]])
(.seq
(RR [1, 4, 5, 6] [gI 16 .mov [tt 1], gI 17 (.call 77) [tt 16, .c (AV.str [45, 114])], gI 6 .mov [tt 17]])
(.seq
(.seq
(RR [1, 4, 5, 6, 19] [gI 18 .mov [tt 6], gI 19 (.pure (.bin .lss)) [tt 18, ti 0]])
(.cond (.t 19 false)
(.seq
(RR [4, 5] [gI 20 .mov [tt 1], gI 21 (.build [AV.str [], AV.str [], AV.str [], AV.bool false] [(1, 1)]) [tt 20], gI 22 .mov [tt 5], gS (.store 4) [tt 4, tt 21], gI 5 .mov [tt 22]])
(.ret [4, 5]))
.skip))
(.seq
(.region (some ([9], [])) [4, 5] [gI 23 .mov [tt 1], gI 24 .mov [tt 6], gI 25 (.pure (.sliceStr false true)) [tt 23, tt 24], gI 26 .mov [tt 1], gI 27 .mov [tt 6], gI 28 (.pure (.bin .add)) [tt 27, ti 2], gI 29 (.pure (.sliceStr true false)) [tt 26, tt 28], gI 30 (.build [AV.str [], AV.str [], AV.str [], AV.bool false] [(1, 1), (2, 1), (3, 1)]) [tt 25, tt 29, .c (AV.bool true)], gI 31 .mov [tt 5], gS (.store 4) [tt 4, tt 30], gI 5 .mov [tt 31]])
(.ret [4, 5])))))
.skip))
(.seq
(RR [0, 4, 5] [gI 33 .mov [tt 1], gI 34 (.call 78) [tt 33], gI 32 .mov [tt 34], gI 35 (.pure (.extract 0)) [tt 32], gI 36 (.pure (.extract 1)) [tt 32], gI 37 (.pure (.extract 2)) [tt 32], gI 38 (.pure (.faddr 0)) [tt 4], gS (.store 1) [tt 38, tt 35], gI 39 (.pure (.faddr 1)) [tt 4], gS (.store 1) [tt 39, tt 36], gI 5 .mov [tt 37]])
(.seq
(.seq
(RR [0, 4, 5, 7] [gI 40 (.pure (.faddr 1)) [tt 4], gI 41 (.load 1 false false) [tt 40], gI 42 (.call 79) [tt 41, .c (AV.int .u8 45)], gI 7 .mov [tt 42]])
(.seq
(RR [0, 4, 5, 7, 44] [gI 43 .mov [tt 7], gI 44 (.pure (.bin .geq)) [tt 43, ti 0]])
(.cond (.t 44 false)
(.region (some ([10, 12, 14], [])) [0, 4, 5] [gI 45 (.pure (.faddr 1)) [tt 4], gI 46 (.load 1 false false) [tt 45], gI 47 .mov [tt 7], gI 48 (.pure (.sliceStr false true)) [tt 46, tt 47], gI 49 (.pure (.faddr 1)) [tt 4], gI 50 (.load 1 false false) [tt 49], gI 51 .mov [tt 7], gI 52 (.pure (.bin .add)) [tt 51, ti 1], gI 53 (.pure (.sliceStr true false)) [tt 50, tt 52], gI 54 (.pure (.faddr 1)) [tt 4], gS (.store 1) [tt 54, tt 48], gI 55 (.pure (.faddr 2)) [tt 4], gS (.store 1) [tt 55, tt 53], gI 56 (.pure (.faddr 3)) [tt 4], gS (.store 1) [tt 56, .c (AV.bool true)]])
.skip)))
(.cut 100011 [0, 4, 5] [4, 5] k39_11))))),
 [.cell 4 4 true, .tmp 5 false], false⟩
def a39 : Ann := mkAnn [] [] false [(6, [9]), (10, [10, 12, 14]), (13, [16]), (17, [24])] [] [(0, [0, 1, 4]), (1, [0, 1, 4, 10]), (2, [1, 4, 5]), (3, [1, 4, 5, 6]), (4, [1, 4, 5, 6, 19]), (5, [4, 5]), (6, [4, 5]), (7, [0, 4, 5]), (8, [0, 4, 5, 7]), (9, [0, 4, 5, 7, 44]), (10, [0, 4, 5]), (11, [4, 5, 58]), (12, [4, 5]), (13, [4, 5]), (14, [4, 5, 8]), (15, [4, 5, 8, 89]), (16, [4, 5, 8]), (17, [4, 5])] [] [] [(11, [0, 4, 5], [4, 5]), (17, [4, 5, 8], [4, 5])] [] [4, 5] [false, false] [(12, [(2, none), (11, some 71)]), (13, [(3, none), (3, some 77), (1, none), (4, some 82), (1, none), (4, some 87)]), (17, [(3, none), (5, some 97), (1, none), (5, some 103), (1, none), (9, some 113)])] [] []
set_option maxRecDepth 100000 in
theorem c39 : convFn Tryd.prog a39 39 = some r39 := by kernel_rfl

/-- drayage/version.pieces -/
def k40_20 : RCode :=
(.seq
(RR [4, 8] [gI 72 .mov [.t 4 true], gI 73 .mov [tt 10], gI 74 .mov [tt 9], gI 75 (.build [AV.int .i64 0, AV.str [], AV.int .i64 0, AV.bool false] [(0, 1), (2, 1)]) [tt 73, tt 74], gI 76 (.bslice 4 true 1) [tt 75], gI 77 (.append 4 40 false) [.t 72 true, tt 76], gI 4 .mov [.t 77 true]])
(.seq
(RR [4, 8, 11] [gI 79 .mov [tt 8], gI 80 (.call 82) [tt 79], gI 78 .mov [tt 80], gI 81 (.pure (.extract 0)) [tt 78], gI 82 (.pure (.extract 1)) [tt 78], gI 11 .mov [tt 81], gI 8 .mov [tt 82]])
(.seq
(.seq
(RR [4, 8, 11, 84] [gI 83 .mov [tt 11], gI 84 (.pure (.bin .neq)) [tt 83, .c (AV.str [])]])
(.cond (.t 84 false)
(RR [4, 8] [gI 85 .mov [.t 4 true], gI 86 .mov [tt 11], gI 87 (.build [AV.int .i64 0, AV.str [], AV.int .i64 0, AV.bool false] [(0, 1), (1, 1)]) [ti 3, tt 86], gI 88 (.bslice 4 true 1) [tt 87], gI 89 (.append 4 40 false) [.t 85 true, tt 88], gI 4 .mov [.t 89 true]])
.skip))
(RR [0, 4] [gI 90 .mov [tt 8], gI 0 .mov [tt 90]]))))
def l40_12 : RCode :=
(.seq
(.seq
(RR [0, 4, 56] [gI 55 .mov [tt 0], gI 56 (.call 83) [tt 55, .c (AV.int .u8 95)]])
(.cond (.t 56 false)
.skip
(.exit 2 [0, 4])))
(.block 3
(.seq
(RR [4, 7, 8] [gI 58 .mov [tt 0], gI 59 (.pure (.sliceStr true false)) [tt 58, ti 1], gI 60 (.call 84) [tt 59], gI 57 .mov [tt 60], gI 61 (.pure (.extract 0)) [tt 57], gI 62 (.pure (.extract 1)) [tt 57], gI 7 .mov [tt 61], gI 8 .mov [tt 62]])
(.seq
(RR [4, 8, 9] [gI 63 (.bslice 1 false 9) [.c (AV.str [97, 108, 112, 104, 97]), .c (AV.str [98, 101, 116, 97]), .c (AV.str [112, 114, 101]), .c (AV.str [114, 99]), .c (AV.str [99, 118, 115]), .c (AV.str [115, 118, 110]), .c (AV.str [103, 105, 116]), .c (AV.str [104, 103]), .c (AV.str [112])], gI 64 .mov [tt 7], gI 65 (.call 75) [tt 63, tt 64], gI 9 .mov [tt 65]])
(.seq
(RR [4, 8, 9, 10] [gI 10 .mov [ti 4]])
(.seq
(.block 4
(.seq
(RR [4, 8, 9, 10, 66] [gI 67 .mov [tt 9], gI 68 (.pure (.bin .lss)) [tt 67, ti 0], gI 66 .mov [tt 68]])
(.cond (.t 66 false)
(.seq
(RR [2, 3] [gI 2 .mov [.c (AV.sl false 4 [])], gI 3 .mov [.c (AV.bool false)]])
(.ret [2, 3]))
(.seq
(RR [4, 8, 9, 10, 69] [gI 70 .mov [tt 9], gI 71 (.pure (.bin .lss)) [tt 70, ti 4], gI 69 .mov [tt 71]])
(.cond (.t 69 false)
(RR [4, 8, 9, 10] [gI 10 .mov [ti 0]])
.skip)))))
(.cut 100020 [4, 8, 9, 10] [0, 4] k40_20)))))))
def k40_12 : RCode :=
(.seq
(.block 2
(.loop 12 [0, 4] l40_12))
(.seq
(.seq
(RR [0, 4, 92] [gI 91 .mov [tt 0], gI 92 (.call 52) [tt 91, .c (AV.str [45, 114])]])
(.cond (.t 92 false)
(.seq
(RR [4, 12, 13] [gI 94 .mov [tt 0], gI 95 (.pure (.sliceStr true false)) [tt 94, ti 2], gI 96 (.call 82) [tt 95], gI 93 .mov [tt 96], gI 97 (.pure (.extract 0)) [tt 93], gI 98 (.pure (.extract 1)) [tt 93], gI 12 .mov [tt 97], gI 13 .mov [tt 98]])
(.seq
(.seq
(RR [4, 12, 13, 100] [gI 99 .mov [tt 12], gI 100 (.pure (.bin .eql)) [tt 99, .c (AV.str [])]])
(.cond (.t 100 false)
(.seq
(RR [2, 3] [gI 2 .mov [.c (AV.sl false 4 [])], gI 3 .mov [.c (AV.bool false)]])
(.ret [2, 3]))
.skip))
(.seq
(RR [4, 13] [gI 101 .mov [.t 4 true], gI 102 .mov [tt 12], gI 103 (.build [AV.int .i64 0, AV.str [], AV.int .i64 0, AV.bool false] [(0, 1), (1, 1)]) [ti 2, tt 102], gI 104 (.bslice 4 true 1) [tt 103], gI 105 (.append 4 40 false) [.t 101 true, tt 104], gI 4 .mov [.t 105 true]])
(RR [0, 4] [gI 106 .mov [tt 13], gI 0 .mov [tt 106]]))))
.skip))
(.seq
(RR [2, 3] [gI 107 .mov [tt 4], gI 108 .mov [tt 0], gI 109 (.pure (.bin .eql)) [tt 108, .c (AV.str [])], gI 2 .mov [tt 107], gI 3 .mov [tt 109]])
(.ret [2, 3]))))
def l40_2 : RCode :=
(.block 1
(.seq
(RR [4, 5, 6] [gI 15 .mov [tt 0], gI 16 (.call 82) [tt 15], gI 14 .mov [tt 16], gI 17 (.pure (.extract 0)) [tt 14], gI 18 (.pure (.extract 1)) [tt 14], gI 5 .mov [tt 17], gI 6 .mov [tt 18]])
(.seq
(.seq
(RR [4, 5, 6, 20] [gI 19 .mov [tt 5], gI 20 (.pure (.bin .eql)) [tt 19, .c (AV.str [])]])
(.cond (.t 20 false)
(.seq
(RR [2, 3] [gI 2 .mov [.c (AV.sl false 4 [])], gI 3 .mov [.c (AV.bool false)]])
(.ret [2, 3]))
.skip))
(.seq
(RR [4, 6] [gI 21 .mov [.t 4 true], gI 22 .mov [tt 5], gI 23 .mov [tt 4], gI 24 (.pure .lenSl) [tt 23], gI 25 (.pure (.bin .eql)) [tt 24, ti 0], gI 26 (.build [AV.int .i64 0, AV.str [], AV.int .i64 0, AV.bool false] [(0, 1), (1, 1), (3, 1)]) [ti 6, tt 22, tt 25], gI 27 (.bslice 4 true 1) [tt 26], gI 28 (.append 4 40 false) [.t 21 true, tt 27], gI 4 .mov [.t 28 true]])
(.seq
(RR [0, 4] [gI 29 .mov [tt 6], gI 0 .mov [tt 29]])
(.seq
(.seq
(RR [0, 4, 32] [gI 30 .mov [tt 0], gI 31 (.call 83) [tt 30, .c (AV.int .u8 46)], gI 32 (.pure (.un .not)) [tt 31]])
(.cond (.t 32 false)
(.exit 0 [0, 4])
.skip))
(RR [0, 4] [gI 33 .mov [tt 0], gI 34 (.pure (.sliceStr true false)) [tt 33, ti 1], gI 0 .mov [tt 34]])))))))
def r40 : RFunc := ⟨110,
(.seq
(RR [0] [gI 2 .mov [.c (AV.sl false 4 [])], gI 3 .mov [.c (AV.bool false)]])
(.seq
(RR [0, 4] [gI 4 .mov [.c (AV.sl true 4 [])]])
(.seq
(.block 0
(.loop 2 [0, 4] l40_2))
(.seq
(.seq
(RR [0, 4, 46] [gI 35 .mov [tt 0], gI 36 (.pure (.bin .neq)) [tt 35, .c (AV.str [])], gI 37 .mov [tt 36], .sub [(⟨some 38, .mov, [tt 0], some (37, true)⟩, .any),
    (⟨some 39, .pure .idxStr, [tt 38, ti 0], some (37, true)⟩, .any),
    (⟨some 40, .pure (.bin .geq), [tt 39, .c (AV.int .u8 97)], some (37, true)⟩, .any),
    (⟨some 41, .pure .pick, [tt 37, tt 40, .c (AV.bool false)], none⟩, .any)] 41, gI 42 .mov [tt 41], .sub [(⟨some 43, .mov, [tt 0], some (42, true)⟩, .any),
    (⟨some 44, .pure .idxStr, [tt 43, ti 0], some (42, true)⟩, .any),
    (⟨some 45, .pure (.bin .leq), [tt 44, .c (AV.int .u8 122)], some (42, true)⟩, .any),
    (⟨some 46, .pure .pick, [tt 42, tt 45, .c (AV.bool false)], none⟩, .any)] 46])
(.cond (.t 46 false)
(.seq
(RR [0, 4] [gI 47 .mov [.t 4 true], gI 48 .mov [tt 0], gI 49 (.pure (.sliceStr false true)) [tt 48, ti 1], gI 50 (.build [AV.int .i64 0, AV.str [], AV.int .i64 0, AV.bool false] [(0, 1), (1, 1)]) [ti 5, tt 49], gI 51 (.bslice 4 true 1) [tt 50], gI 52 (.append 4 40 false) [.t 47 true, tt 51], gI 4 .mov [.t 52 true]])
(RR [0, 4] [gI 53 .mov [tt 0], gI 54 (.pure (.sliceStr true false)) [tt 53, ti 1], gI 0 .mov [tt 54]]))
.skip))
(.cut 100012 [0, 4] [2, 3] k40_12))))),
 [.tmp 2 false, .tmp 3 false], false⟩
def a40 : Ann := mkAnn [(1, 0, [true]), (5, 0, [true]), (5, 7, [true]), (5, 8, [true]), (10, 0, [true]), (10, 5, [true]), (10, 6, [true]), (20, 0, [true]), (20, 5, [true]), (20, 6, [true]), (23, 0, [true]), (23, 4, [true]), (23, 5, [true]), (29, 0, [true]), (29, 4, [true]), (29, 5, [true])] [(2, [0, 4]), (12, [0, 4])] false [] [] [(0, [0]), (1, [0, 4]), (2, [4, 5, 6]), (3, [4, 5, 6, 20]), (4, [2, 3]), (5, [4, 6]), (6, [0, 4]), (7, [0, 4, 32]), (8, [0, 4]), (9, [0, 4, 46]), (10, [0, 4]), (11, [0, 4]), (12, [0, 4, 56]), (13, [4, 7, 8]), (14, [4, 8, 9]), (15, [4, 8, 9, 10]), (16, [4, 8, 9, 10, 66]), (17, [2, 3]), (18, [4, 8, 9, 10, 69]), (19, [4, 8, 9, 10]), (20, [4, 8]), (21, [4, 8, 11]), (22, [4, 8, 11, 84]), (23, [4, 8]), (24, [0, 4]), (25, [0, 4, 92]), (26, [4, 12, 13]), (27, [4, 12, 13, 100]), (28, [2, 3]), (29, [4, 13]), (30, [0, 4]), (31, [2, 3])] [] [(0, 0, [8]), (1, 0, [9]), (4, 0, [8]), (17, 0, [8]), (28, 0, [8])] [(12, [0, 4], [2, 3]), (20, [4, 8, 9, 10], [0, 4])] [(0, [0, 4]), (1, [0, 4]), (2, [0, 4]), (3, [0, 4]), (4, [4, 8, 9, 10])] [2, 3] [false, false] [(9, [(3, none), (4, some 41), (1, none), (4, some 46)])] [] []
set_option maxRecDepth 100000 in
theorem c40 : convFn Tryd.prog a40 40 = some r40 := by kernel_rfl

/-- drayage/vmap.known -/
def r47 : RFunc := ⟨9,
(.seq
(RR [0] [gI 2 .mov [.c (AV.bool false)]])
(.seq
(RR [2] [gI 3 .mov [tt 0], gI 4 (.pure (.bin .geq)) [tt 3, ti 1], gI 5 .mov [tt 4], .sub [(⟨some 6, .mov, [tt 0], some (5, true)⟩, .any),
    (⟨some 7, .pure (.bin .leq), [tt 6, ti 3], some (5, true)⟩, .any),
    (⟨some 8, .pure .pick, [tt 5, tt 7, .c (AV.bool false)], none⟩, .any)] 8, gI 2 .mov [tt 8]])
(.ret [2]))),
 [.tmp 2 false], false⟩
def a47 : Ann := mkAnn [] [] false [] [] [(0, [0]), (1, [2])] [] [] [] [] [2] [false] [(1, [(3, none), (3, some 8)])] [] []
set_option maxRecDepth 100000 in
theorem c47 : convFn Tryd.prog a47 47 = some r47 := by kernel_rfl

/-- drayage/vmap.text -/
def k48_17 : RCode :=
(.seq
(RR [5] [gI 50 .mov [tt 9], gI 51 (.pure (.faddr 5)) [tt 3], gI 52 (.load 1 false false) [tt 51], gI 53 (.call 92) [tt 52], gI 54 (.pure (.bin .add)) [tt 50, tt 53], gI 55 (.call 91) [tt 5, tt 54]])
(.seq
(RR [4] [gI 56 (.call 94) [tt 5], gI 4 .mov [tt 56]])
(.ret [4])))
def k48_15 : RCode :=
(.seq
(.seq
(RR [3, 5, 8, 9, 40] [gI 38 (.pure (.faddr 3)) [tt 3], gI 39 (.load 1 false false) [tt 38], gI 40 (.pure (.bin .neq)) [tt 39, .c (AV.str [])]])
(.cond (.t 40 false)
(.region (some ([8], [])) [3, 5, 9] [gI 41 .mov [tt 8], gI 42 (.pure (.faddr 3)) [tt 3], gI 43 (.load 1 false false) [tt 42], gI 44 (.pure (.bin .add)) [tt 41, tt 43], gI 45 (.pure (.faddr 4)) [tt 3], gI 46 (.load 1 false false) [tt 45], gI 47 (.call 92) [tt 46], gI 48 (.pure (.bin .add)) [tt 44, tt 47], gI 49 (.call 91) [tt 5, tt 48]])
.skip))
(.cut 100017 [3, 5, 9] [4] k48_17))
def l48_5 : RCode :=
(.seq
(RR [0, 3, 5, 19, 20, 21, 22] [gI 22 (.pure (.bin .lss)) [tt 21, tt 20]])
(.seq
(.cond (.t 22 false)
.skip
(.exit 0 [0, 3, 5]))
(.seq
(.block 1
(.seq
(RR [0, 3, 5, 6, 7, 19, 20, 21] [gI 23 .mov [tt 21], .one ⟨some 24, .pure (.iaddr 1), [tt 19, tt 21], none⟩ (.int .i64), gI 25 (.load 1 false false) [tt 24], gI 6 .mov [tt 23], gI 7 .mov [tt 25]])
(.seq
(.seq
(RR [0, 3, 5, 7, 19, 20, 21, 27] [gI 26 .mov [tt 6], gI 27 (.pure (.bin .gtr)) [tt 26, ti 0]])
(.cond (.t 27 false)
(RR [0, 3, 5, 7, 19, 20, 21] [gI 28 (.call 93) [tt 5, .c (AV.int .u8 46)]])
.skip))
(RR [0, 3, 5, 19, 20, 21] [gI 29 .mov [tt 7], gI 30 (.call 92) [tt 29], gI 31 (.call 91) [tt 5, tt 30]]))))
(RR [0, 3, 5, 19, 20, 21] [gI 32 (.pure (.bin .add)) [tt 21, ti 1], gI 21 .mov [tt 32]]))))
def k48_4 : RCode :=
(.seq
(.seq
(RR [0, 3, 5, 19, 20, 21] [gI 18 (.pure (.faddr 1)) [tt 3], gI 19 (.load 1 false false) [tt 18], gI 20 (.pure .lenSl) [tt 19], gI 21 .mov [ti 0]])
(.block 0
(.loop 5 [0, 3, 5, 19, 20, 21] l48_5)))
(.seq
(RR [0, 3, 5] [gI 33 (.pure (.faddr 2)) [tt 3], gI 34 (.load 1 false false) [tt 33], gI 35 (.call 91) [tt 5, tt 34]])
(.seq
(RR [0, 3, 5, 8, 9] [gI 8 .mov [.c (AV.str [126])], gI 9 .mov [.c (AV.str [45])]])
(.seq
(.seq
(RR [3, 5, 8, 9, 37] [gI 36 .mov [tt 0], gI 37 (.pure (.bin .eql)) [tt 36, ti 3]])
(.cond (.t 37 false)
(RR [3, 5, 8, 9] [gI 8 .mov [.c (AV.str [95])], gI 9 .mov [.c (AV.str [45, 114])]])
.skip))
(.cut 100015 [3, 5, 8, 9] [4] k48_15)))))
def r48 : RFunc := ⟨57,
(.seq
(RR [0, 3] [gI 3 (.new 6) [tt 1], gI 4 .mov [.c (AV.str [])]])
(.seq
(RR [0, 3, 5] [gI 5 (.newB 117 5) [.c (AV.agg [AV.nilp, AV.sl false 0 []])]])
(.seq
(.seq
(RR [0, 3, 5, 12] [gI 10 (.pure (.faddr 0)) [tt 3], gI 11 (.load 1 false false) [tt 10], gI 12 (.pure (.bin .neq)) [tt 11, ti 0]])
(.cond (.t 12 false)
(RR [0, 3, 5] [gI 13 (.pure (.faddr 0)) [tt 3], gI 14 (.load 1 false false) [tt 13], gI 15 (.call 92) [tt 14], gI 16 (.pure (.bin .add)) [tt 15, .c (AV.str [58])], gI 17 (.call 91) [tt 5, tt 16]])
.skip))
(.cut 100004 [0, 3, 5] [4] k48_4)))),
 [.tmp 4 false], false⟩
def a48 : Ann := mkAnn [(1, 0, [true])] [(5, [0, 3, 5, 19, 20, 21])] false [(16, [8])] [] [(0, [0, 3]), (1, [0, 3, 5]), (2, [0, 3, 5, 12]), (3, [0, 3, 5]), (4, [0, 3, 5, 19, 20, 21]), (5, [0, 3, 5, 19, 20, 21, 22]), (6, [0, 3, 5, 6, 7, 19, 20, 21]), (7, [0, 3, 5, 7, 19, 20, 21, 27]), (8, [0, 3, 5, 7, 19, 20, 21]), (9, [0, 3, 5, 19, 20, 21]), (10, [0, 3, 5, 19, 20, 21]), (11, [0, 3, 5]), (12, [0, 3, 5, 8, 9]), (13, [3, 5, 8, 9, 37]), (14, [3, 5, 8, 9]), (15, [3, 5, 8, 9, 40]), (16, [3, 5, 9]), (17, [5]), (18, [4])] [] [] [(4, [0, 3, 5], [4]), (15, [3, 5, 8, 9], [4]), (17, [3, 5, 9], [4])] [(0, [0, 3, 5]), (1, [0, 3, 5, 19, 20, 21])] [4] [false] [] [(6, 1, (.int .i64))] []
set_option maxRecDepth 100000 in
theorem c48 : convFn Tryd.prog a48 48 = some r48 := by kernel_rfl

/-- drayage/drayageref13.text -/
def k49_16 : RCode :=
(.seq
(.seq
(RR [3, 5, 58] [gI 57 .mov [tt 0], gI 58 (.pure (.bin .eql)) [tt 57, ti 3]])
(.cond (.t 58 false)
(.seq
(RR [4] [gI 59 .mov [tt 5], gI 60 (.pure (.bin .add)) [tt 59, .c (AV.str [45, 114])], gI 61 (.pure (.faddr 5)) [tt 3], gI 62 (.load 1 false false) [tt 61], gI 63 (.call 95) [tt 62], gI 64 (.pure (.bin .add)) [tt 60, tt 63], gI 4 .mov [tt 64]])
(.ret [4]))
.skip))
(.seq
(RR [4] [gI 65 .mov [tt 5], gI 66 (.pure (.bin .add)) [tt 65, .c (AV.str [45])], gI 67 (.pure (.faddr 5)) [tt 3], gI 68 (.load 1 false false) [tt 67], gI 69 (.call 95) [tt 68], gI 70 (.pure (.bin .add)) [tt 66, tt 69], gI 4 .mov [tt 70]])
(.ret [4])))
def k49_15 : RCode :=
(.region (some ([], [])) [0, 3, 5] [gI 47 .mov [tt 5], gI 48 .mov [tt 7], gI 49 (.pure (.bin .add)) [tt 47, tt 48], gI 50 (.pure (.faddr 3)) [tt 3], gI 51 (.load 1 false false) [tt 50], gI 52 (.pure (.bin .add)) [tt 49, tt 51], gI 53 (.pure (.faddr 4)) [tt 3], gI 54 (.load 1 false false) [tt 53], gI 55 (.call 95) [tt 54], gI 56 (.pure (.bin .add)) [tt 52, tt 55], gI 5 .mov [tt 56]])
def k49_9 : RCode :=
(RR [0, 3, 5, 6] [gI 30 .mov [tt 5], gI 31 (.pure (.faddr 1)) [tt 3], gI 32 (.load 1 false false) [tt 31], gI 33 .mov [tt 6], .one ⟨some 34, .pure (.iaddr 1), [tt 32, tt 33], none⟩ (.int .i64), gI 35 (.load 1 false false) [tt 34], gI 36 (.call 95) [tt 35], gI 37 (.pure (.bin .add)) [tt 30, tt 36], gI 5 .mov [tt 37]])
def l49_5 : RCode :=
(.seq
(.seq
(RR [0, 3, 5, 6, 23] [gI 15 .mov [tt 6], gI 16 (.pure (.faddr 1)) [tt 3], gI 17 (.load 1 false false) [tt 16], gI 18 (.pure .lenSl) [tt 17], gI 19 (.pure (.bin .lss)) [tt 15, tt 18], gI 20 .mov [tt 19], .sub [(⟨some 21, .mov, [tt 6], some (20, true)⟩, .any),
    (⟨some 22, .pure (.bin .lss), [tt 21, ti 70], some (20, true)⟩, .any),
    (⟨some 23, .pure .pick, [tt 20, tt 22, .c (AV.bool false)], none⟩, .any)] 23])
(.cond (.t 23 false)
.skip
(.exit 0 [0, 3, 5])))
(.seq
(.block 1
(.seq
(.seq
(RR [0, 3, 5, 6, 27] [gI 26 .mov [tt 6], gI 27 (.pure (.bin .gtr)) [tt 26, ti 0]])
(.cond (.t 27 false)
(RR [0, 3, 5, 6] [gI 28 .mov [tt 5], gI 29 (.pure (.bin .add)) [tt 28, .c (AV.str [46])], gI 5 .mov [tt 29]])
.skip))
(.cut 100009 [0, 3, 5, 6] [0, 3, 5, 6] k49_9)))
(RR [0, 3, 5, 6] [gI 24 .mov [tt 6], gI 25 (.pure (.bin .add)) [tt 24, ti 1], gI 6 .mov [tt 25]])))
def k49_4 : RCode :=
(.seq
(.seq
(RR [0, 3, 5, 6] [gI 6 .mov [ti 0]])
(.block 0
(.loop 5 [0, 3, 5, 6] l49_5)))
(.seq
(RR [0, 3, 5] [gI 38 .mov [tt 5], gI 39 (.pure (.faddr 2)) [tt 3], gI 40 (.load 1 false false) [tt 39], gI 41 (.pure (.bin .add)) [tt 38, tt 40], gI 5 .mov [tt 41]])
(.seq
(.seq
(RR [0, 3, 5, 44] [gI 42 (.pure (.faddr 3)) [tt 3], gI 43 (.load 1 false false) [tt 42], gI 44 (.pure (.bin .neq)) [tt 43, .c (AV.str [])]])
(.cond (.t 44 false)
(.seq
(RR [0, 3, 5, 7] [gI 7 .mov [.c (AV.str [126])]])
(.seq
(.seq
(RR [0, 3, 5, 7, 46] [gI 45 .mov [tt 0], gI 46 (.pure (.bin .eql)) [tt 45, ti 3]])
(.cond (.t 46 false)
(RR [0, 3, 5, 7] [gI 7 .mov [.c (AV.str [95])]])
.skip))
(.cut 100015 [0, 3, 5, 7] [0, 3, 5] k49_15)))
.skip))
(.cut 100016 [0, 3, 5] [4] k49_16))))
def r49 : RFunc := ⟨71,
(.seq
(RR [0, 3] [gI 3 (.new 6) [tt 1], gI 4 .mov [.c (AV.str [])]])
(.seq
(RR [0, 3, 5] [gI 5 .mov [.c (AV.str [])]])
(.seq
(.seq
(RR [0, 3, 5, 10] [gI 8 (.pure (.faddr 0)) [tt 3], gI 9 (.load 1 false false) [tt 8], gI 10 (.pure (.bin .neq)) [tt 9, ti 0]])
(.cond (.t 10 false)
(RR [0, 3, 5] [gI 11 (.pure (.faddr 0)) [tt 3], gI 12 (.load 1 false false) [tt 11], gI 13 (.call 95) [tt 12], gI 14 (.pure (.bin .add)) [tt 13, .c (AV.str [58])], gI 5 .mov [tt 14]])
.skip))
(.cut 100004 [0, 3, 5] [4] k49_4)))),
 [.tmp 4 false], false⟩
def a49 : Ann := mkAnn [] [(5, [0, 3, 5, 6])] false [(15, [])] [] [(0, [0, 3]), (1, [0, 3, 5]), (2, [0, 3, 5, 10]), (3, [0, 3, 5]), (4, [0, 3, 5, 6]), (5, [0, 3, 5, 6, 23]), (6, [0, 3, 5, 6]), (7, [0, 3, 5, 6, 27]), (8, [0, 3, 5, 6]), (9, [0, 3, 5, 6]), (10, [0, 3, 5]), (11, [0, 3, 5, 44]), (12, [0, 3, 5, 7]), (13, [0, 3, 5, 7, 46]), (14, [0, 3, 5, 7]), (15, [0, 3, 5]), (16, [3, 5, 58]), (17, [4]), (18, [4])] [] [] [(4, [0, 3, 5], [4]), (9, [0, 3, 5, 6], [0, 3, 5, 6]), (15, [0, 3, 5, 7], [0, 3, 5]), (16, [0, 3, 5], [4])] [(0, [0, 3, 5]), (1, [0, 3, 5, 6])] [4] [false] [(5, [(6, none), (3, some 23)])] [(9, 4, (.int .i64))] []
set_option maxRecDepth 100000 in
theorem c49 : convFn Tryd.prog a49 49 = some r49 := by kernel_rfl

/-- strings.Cut -/
def r50 : RFunc := ⟨13,
(.seq
(RR [0, 1] [gI 4 .mov [.c (AV.str [])], gI 5 .mov [.c (AV.str [])], gI 6 .mov [.c (AV.bool false)]])
(.seq
(RR [4, 5, 6] [gI 7 .mov [tt 0], gI 8 .mov [tt 1], gI 9 (.call 96) [tt 7, tt 8], gI 10 (.pure (.extract 0)) [tt 9], gI 11 (.pure (.extract 1)) [tt 9], gI 12 (.pure (.extract 2)) [tt 9], gI 4 .mov [tt 10], gI 5 .mov [tt 11], gI 6 .mov [tt 12]])
(.ret [4, 5, 6]))),
 [.tmp 4 false, .tmp 5 false, .tmp 6 false], false⟩
def a50 : Ann := mkAnn [] [] false [] [] [(0, [0, 1]), (1, [4, 5, 6])] [] [] [] [] [4, 5, 6] [false, false, false] [] [] []
set_option maxRecDepth 100000 in
theorem c50 : convFn Tryd.prog a50 50 = some r50 := by kernel_rfl

/-- drayage/vmap.take -/
def r51 : RFunc := ⟨29,
(.seq
(RR [0] [gI 2 .mov [ti 0], gI 3 .mov [.c (AV.str [])]])
(.seq
(RR [0, 4] [gI 7 .mov [tt 0], gI 8 (.call 90) [tt 7, .c (AV.str [48, 49, 50, 51, 52, 53, 54, 55, 56, 57])], gI 4 .mov [tt 8]])
(.seq
(RR [0, 4, 5, 6] [gI 10 .mov [tt 0], gI 11 .mov [tt 0], gI 12 (.pure .lenS) [tt 11], gI 13 .mov [tt 4], gI 14 (.pure .lenS) [tt 13], gI 15 (.pure (.bin .sub)) [tt 12, tt 14], gI 16 (.pure (.sliceStr false true)) [tt 10, tt 15], gI 17 (.call 97) [tt 16], gI 9 .mov [tt 17], gI 18 (.pure (.extract 0)) [tt 9], gI 19 (.pure (.extract 1)) [tt 9], gI 5 .mov [tt 18], gI 6 .mov [tt 19]])
(.seq
(.seq
(RR [0, 4, 5, 25] [gI 20 .mov [tt 6], gI 21 (.pure (.bin .neq)) [tt 20, ti 0], gI 22 .mov [tt 21], .sub [(⟨some 23, .mov, [tt 5], some (22, false)⟩, .any),
    (⟨some 24, .pure (.bin .gtr), [tt 23, ti 999999999], some (22, false)⟩, .any),
    (⟨some 25, .pure .pick, [tt 22, .c (AV.bool true), tt 24], none⟩, .any)] 25])
(.cond (.t 25 false)
(.seq
(RR [2, 3] [gI 26 .mov [tt 0], gI 2 .mov [ti (-1)], gI 3 .mov [tt 26]])
(.ret [2, 3]))
.skip))
(.seq
(RR [2, 3] [gI 27 .mov [tt 5], gI 28 .mov [tt 4], gI 2 .mov [tt 27], gI 3 .mov [tt 28]])
(.ret [2, 3])))))),
 [.tmp 2 false, .tmp 3 false], false⟩
def a51 : Ann := mkAnn [] [] false [] [] [(0, [0]), (1, [0, 4]), (2, [0, 4, 5, 6]), (3, [0, 4, 5, 25]), (4, [2, 3]), (5, [2, 3])] [] [] [] [] [2, 3] [false, false] [(3, [(3, none), (3, some 25)])] [] []
set_option maxRecDepth 100000 in
theorem c51 : convFn Tryd.prog a51 51 = some r51 := by kernel_rfl

/-- strings.HasPrefix -/
def r52 : RFunc := ⟨8,
(.seq
(RR [0, 1] [gI 4 .mov [.c (AV.bool false)]])
(.seq
(RR [4] [gI 5 .mov [tt 0], gI 6 .mov [tt 1], gI 7 (.call 98) [tt 5, tt 6], gI 4 .mov [tt 7]])
(.ret [4]))),
 [.tmp 4 false], false⟩
def a52 : Ann := mkAnn [] [] false [] [] [(0, [0, 1]), (1, [4])] [] [] [] [] [4] [false] [] [] []
set_option maxRecDepth 100000 in
theorem c52 : convFn Tryd.prog a52 52 = some r52 := by kernel_rfl

/-- drayage/vmap.pres -/
def r53 : RFunc := ⟨2,
(.seq
(RR [] [gI 0 .mov [.c (AV.sl false 1 [])]])
(.seq
(RR [0] [gI 1 (.bslice 1 false 4) [.c (AV.str [97, 108, 112, 104, 97]), .c (AV.str [98, 101, 116, 97]), .c (AV.str [112, 114, 101]), .c (AV.str [114, 99])], gI 0 .mov [tt 1]])
(.ret [0]))),
 [.tmp 0 false], false⟩
def a53 : Ann := mkAnn [] [] false [] [] [(0, []), (1, [0])] [] [(0, 0, [2])] [] [] [0] [false] [] [] []
set_option maxRecDepth 100000 in
theorem c53 : convFn Tryd.prog a53 53 = some r53 := by kernel_rfl

/-- strings.CutPrefix -/
def r54 : RFunc := ⟨11,
(.seq
(RR [0, 1] [gI 4 .mov [.c (AV.str [])], gI 5 .mov [.c (AV.bool false)]])
(.seq
(RR [4, 5] [gI 6 .mov [tt 0], gI 7 .mov [tt 1], gI 8 (.call 99) [tt 6, tt 7], gI 9 (.pure (.extract 0)) [tt 8], gI 10 (.pure (.extract 1)) [tt 8], gI 4 .mov [tt 9], gI 5 .mov [tt 10]])
(.ret [4, 5]))),
 [.tmp 4 false, .tmp 5 false], false⟩
def a54 : Ann := mkAnn [] [] false [] [] [(0, [0, 1]), (1, [4, 5])] [] [] [] [] [4, 5] [false, false] [] [] []
set_option maxRecDepth 100000 in
theorem c54 : convFn Tryd.prog a54 54 = some r54 := by kernel_rfl

/-- strings.TrimPrefix -/
def r55 : RFunc := ⟨8,
(.seq
(RR [0, 1] [gI 4 .mov [.c (AV.str [])]])
(.seq
(RR [4] [gI 5 .mov [tt 0], gI 6 .mov [tt 1], gI 7 (.call 100) [tt 5, tt 6], gI 4 .mov [tt 7]])
(.ret [4]))),
 [.tmp 4 false], false⟩
def a55 : Ann := mkAnn [] [] false [] [] [(0, [0, 1]), (1, [4])] [] [] [] [] [4] [false] [] [] []
set_option maxRecDepth 100000 in
theorem c55 : convFn Tryd.prog a55 55 = some r55 := by kernel_rfl

/-- drayage/drayageref12.Check -/
def r56 : RFunc := ⟨19,
(.seq
(RR [0, 1] [gI 4 .mov [ti 0]])
(.seq
(.seq
(RR [0, 1, 10] [gI 5 .mov [tt 0], gI 6 (.pure (.bin .lss)) [tt 5, ti 1], gI 7 .mov [tt 6], .sub [(⟨some 8, .mov, [tt 0], some (7, false)⟩, .any),
    (⟨some 9, .pure (.bin .gtr), [tt 8, ti 3], some (7, false)⟩, .any),
    (⟨some 10, .pure .pick, [tt 7, .c (AV.bool true), tt 9], none⟩, .any)] 10])
(.cond (.t 10 false)
(.seq
(RR [4] [gI 4 .mov [ti 9]])
(.ret [4]))
.skip))
(.seq
(.seq
(RR [0, 1, 13] [gI 11 .mov [tt 1], gI 12 (.pure .lenS) [tt 11], gI 13 (.pure (.bin .gtr)) [tt 12, ti 64]])
(.cond (.t 13 false)
(.seq
(RR [4] [gI 4 .mov [ti 4]])
(.ret [4]))
.skip))
(.seq
(.seq
(RR [18] [gI 14 .mov [tt 0], gI 15 .mov [tt 1], gI 16 (.call 101) [tt 14, tt 15], gI 17 (.pure (.field 3 1 false)) [tt 16], gI 18 (.pure (.un .not)) [tt 17]])
(.cond (.t 18 false)
(.seq
(RR [4] [gI 4 .mov [ti 3]])
(.ret [4]))
.skip))
(.seq
(RR [4] [gI 4 .mov [ti 0]])
(.ret [4])))))),
 [.tmp 4 false], false⟩
def a56 : Ann := mkAnn [] [] false [] [] [(0, [0, 1]), (1, [0, 1, 10]), (2, [4]), (3, [0, 1, 13]), (4, [4]), (5, [18]), (6, [4]), (7, [4])] [] [] [] [] [4] [false] [(1, [(3, none), (3, some 10)])] [] []
set_option maxRecDepth 100000 in
theorem c56 : convFn Tryd.prog a56 56 = some r56 := by kernel_rfl

/-- drayage/drayageref13.take -/
def r57 : RFunc := ⟨27,
(.seq
(RR [0, 2] [gI 2 (.new 3) [.c (AV.agg [AV.int .i64 0, AV.str [], AV.bool false])]])
(.seq
(RR [0, 2, 3] [gI 5 .mov [tt 0], gI 6 (.call 102) [tt 5], gI 3 .mov [tt 6]])
(.seq
(RR [0, 2, 3, 4] [gI 7 .mov [tt 0], gI 8 .mov [tt 3], gI 9 (.pure (.sliceStr false true)) [tt 7, tt 8], gI 10 (.call 103) [tt 9], gI 4 (.new 3) [.c (AV.agg [AV.sl false 1 [], AV.int .i64 0, AV.int .i64 0])], gS (.store 3) [tt 4, tt 10]])
(.seq
(.seq
(RR [0, 2, 3, 4, 19] [gI 11 (.pure (.faddr 2)) [tt 4], gI 12 (.load 1 false false) [tt 11], gI 13 (.pure (.bin .neq)) [tt 12, ti 0], gI 14 .mov [tt 13], .sub [(⟨some 15, .pure (.faddr 1), [tt 4], some (14, false)⟩, .any),
    (⟨some 16, .load 1 false false, [tt 15], some (14, false)⟩, .any),
    (⟨some 17, .call 64, [tt 16], some (14, false)⟩, .any),
    (⟨some 18, .pure (.un .not), [tt 17], some (14, false)⟩, .any),
    (⟨some 19, .pure .pick, [tt 14, .c (AV.bool true), tt 18], none⟩, .any)] 19])
(.cond (.t 19 false)
(.seq
(RR [2] [gI 20 (.build [AV.int .i64 0, AV.str [], AV.bool false] []) [], gS (.store 3) [tt 2, tt 20]])
(.ret [2]))
.skip))
(.seq
(.region (some ([6], [])) [2] [gI 21 (.pure (.faddr 1)) [tt 4], gI 22 (.load 1 false false) [tt 21], gI 23 .mov [tt 0], gI 24 .mov [tt 3], gI 25 (.pure (.sliceStr true false)) [tt 23, tt 24], gI 26 (.build [AV.int .i64 0, AV.str [], AV.bool false] [(0, 1), (1, 1), (2, 1)]) [tt 22, tt 25, .c (AV.bool true)], gS (.store 3) [tt 2, tt 26]])
(.ret [2])))))),
 [.cell 2 3 true], false⟩
def a57 : Ann := mkAnn [] [] false [(5, [6])] [] [(0, [0, 2]), (1, [0, 2, 3]), (2, [0, 2, 3, 4]), (3, [0, 2, 3, 4, 19]), (4, [2]), (5, [2])] [] [(2, 4, [2])] [] [] [2] [false] [(3, [(4, none), (5, some 19)])] [] []
set_option maxRecDepth 100000 in
theorem c57 : convFn Tryd.prog a57 57 = some r57 := by kernel_rfl

/-- drayage/drayageref13.begins -/
def r58 : RFunc := ⟨18,
(.seq
(RR [0, 1] [gI 4 .mov [.c (AV.bool false)]])
(.seq
(RR [4] [gI 5 .mov [tt 0], gI 6 (.pure .lenS) [tt 5], gI 7 .mov [tt 1], gI 8 (.pure .lenS) [tt 7], gI 9 (.pure (.bin .geq)) [tt 6, tt 8], gI 10 .mov [tt 9], .sub [(⟨some 11, .mov, [tt 0], some (10, true)⟩, .any),
    (⟨some 12, .mov, [tt 1], some (10, true)⟩, .any),
    (⟨some 13, .pure .lenS, [tt 12], some (10, true)⟩, .any),
    (⟨some 14, .pure (.sliceStr false true), [tt 11, tt 13], some (10, true)⟩, .any),
    (⟨some 15, .mov, [tt 1], some (10, true)⟩, .any),
    (⟨some 16, .pure (.bin .eql), [tt 14, tt 15], some (10, true)⟩, .any),
    (⟨some 17, .pure .pick, [tt 10, tt 16, .c (AV.bool false)], none⟩, .any)] 17, gI 4 .mov [tt 17]])
(.ret [4]))),
 [.tmp 4 false], false⟩
def a58 : Ann := mkAnn [] [] false [] [] [(0, [0, 1]), (1, [4])] [] [] [] [] [4] [false] [(1, [(6, none), (7, some 17)])] [] []
set_option maxRecDepth 100000 in
theorem c58 : convFn Tryd.prog a58 58 = some r58 := by kernel_rfl

/-- drayage/drayageref13.word -/
def r59 : RFunc := ⟨9,
(.seq
(RR [0] [gI 2 .mov [.c (AV.str [])]])
(.seq
(RR [0, 3] [gI 4 (.bslice 1 false 4) [.c (AV.str [97, 108, 112, 104, 97]), .c (AV.str [98, 101, 116, 97]), .c (AV.str [112, 114, 101]), .c (AV.str [114, 99])], gI 3 .mov [tt 4]])
(.seq
(RR [2] [gI 5 .mov [tt 3], gI 6 .mov [tt 0], .one ⟨some 7, .pure (.iaddr 1), [tt 5, tt 6], none⟩ .str, gI 8 (.load 1 false false) [tt 7], gI 2 .mov [tt 8]])
(.ret [2])))),
 [.tmp 2 false], false⟩
def a59 : Ann := mkAnn [] [] false [] [] [(0, [0]), (1, [0, 3]), (2, [2])] [] [] [] [] [2] [false] [] [(2, 2, .str)] []
set_option maxRecDepth 100000 in
theorem c59 : convFn Tryd.prog a59 59 = some r59 := by kernel_rfl

/-- slices.Contains[[]string,string] -/
def r60 : RFunc := ⟨9,
(.seq
(RR [0, 1] [gI 4 .mov [.c (AV.bool false)]])
(.seq
(RR [4] [gI 5 .mov [tt 0], gI 6 .mov [tt 1], gI 7 (.call 75) [tt 5, tt 6], gI 8 (.pure (.bin .geq)) [tt 7, ti 0], gI 4 .mov [tt 8]])
(.ret [4]))),
 [.tmp 4 false], false⟩
def a60 : Ann := mkAnn [] [] false [] [] [(0, [0, 1]), (1, [4])] [] [] [] [] [4] [false] [] [] []
set_option maxRecDepth 100000 in
theorem c60 : convFn Tryd.prog a60 60 = some r60 := by kernel_rfl

/-- slices.ContainsFunc[[]int,int] -/
def r61 : RFunc := ⟨9,
(.seq
(RR [0, 1] [gI 4 .mov [.c (AV.bool false)]])
(.seq
(RR [4] [gI 5 .mov [tt 0], gI 6 .mov [tt 1], gI 7 (.call 104) [tt 5, tt 6], gI 8 (.pure (.bin .geq)) [tt 7, ti 0], gI 4 .mov [tt 8]])
(.ret [4]))),
 [.tmp 4 false], false⟩
def a61 : Ann := mkAnn [] [] false [] [] [(0, [0, 1]), (1, [4])] [] [] [] [] [4] [false] [] [] []
set_option maxRecDepth 100000 in
theorem c61 : convFn Tryd.prog a61 61 = some r61 := by kernel_rfl

/-- drayage/vmap.Check$1 -/
def r62 : RFunc := ⟨6,
(.seq
(RR [0] [gI 2 .mov [.c (AV.bool false)]])
(.seq
(RR [2] [gI 3 .mov [tt 0], gI 4 (.call 63) [tt 3], gI 5 (.pure (.un .not)) [tt 4], gI 2 .mov [tt 5]])
(.ret [2]))),
 [.tmp 2 false], false⟩
def a62 : Ann := mkAnn [] [] false [] [] [(0, [0]), (1, [2])] [] [] [] [] [2] [false] [] [] []
set_option maxRecDepth 100000 in
theorem c62 : convFn Tryd.prog a62 62 = some r62 := by kernel_rfl

/-- drayage/vmap.within -/
def r63 : RFunc := ⟨9,
(.seq
(RR [0] [gI 2 .mov [.c (AV.bool false)]])
(.seq
(RR [2] [gI 3 .mov [tt 0], gI 4 (.pure (.bin .geq)) [tt 3, ti 0], gI 5 .mov [tt 4], .sub [(⟨some 6, .mov, [tt 0], some (5, true)⟩, .any),
    (⟨some 7, .pure (.bin .leq), [tt 6, ti 999999999], some (5, true)⟩, .any),
    (⟨some 8, .pure .pick, [tt 5, tt 7, .c (AV.bool false)], none⟩, .any)] 8, gI 2 .mov [tt 8]])
(.ret [2]))),
 [.tmp 2 false], false⟩
def a63 : Ann := mkAnn [] [] false [] [] [(0, [0]), (1, [2])] [] [] [] [] [2] [false] [(1, [(3, none), (3, some 8)])] [] []
set_option maxRecDepth 100000 in
theorem c63 : convFn Tryd.prog a63 63 = some r63 := by kernel_rfl

/-- drayage/drayageref13.number -/
def r64 : RFunc := ⟨9,
(.seq
(RR [0] [gI 2 .mov [.c (AV.bool false)]])
(.seq
(RR [2] [gI 3 .mov [tt 0], gI 4 (.pure (.bin .geq)) [tt 3, ti 0], gI 5 .mov [tt 4], .sub [(⟨some 6, .mov, [tt 0], some (5, true)⟩, .any),
    (⟨some 7, .pure (.bin .leq), [tt 6, ti 999999999], some (5, true)⟩, .any),
    (⟨some 8, .pure .pick, [tt 5, tt 7, .c (AV.bool false)], none⟩, .any)] 8, gI 2 .mov [tt 8]])
(.ret [2]))),
 [.tmp 2 false], false⟩
def a64 : Ann := mkAnn [] [] false [] [] [(0, [0]), (1, [2])] [] [] [] [] [2] [false] [(1, [(3, none), (3, some 8)])] [] []
set_option maxRecDepth 100000 in
theorem c64 : convFn Tryd.prog a64 64 = some r64 := by kernel_rfl

/-- drayage/drayageref13.Rank -/
def l65_2 : RCode :=
(.seq
(.seq
(RR [0, 3, 5] [gI 4 .mov [tt 3], gI 5 (.pure (.bin .lss)) [tt 4, ti 4]])
(.cond (.t 5 false)
.skip
(.exit 0 [0])))
(.seq
(.block 1
(.seq
(RR [0, 3, 11] [gI 8 .mov [tt 3], gI 9 (.call 59) [tt 8], gI 10 .mov [tt 0], gI 11 (.pure (.bin .eql)) [tt 9, tt 10]])
(.cond (.t 11 false)
(.seq
(RR [2] [gI 12 .mov [tt 3], gI 2 .mov [tt 12]])
(.ret [2]))
.skip)))
(RR [0, 3] [gI 6 .mov [tt 3], gI 7 (.pure (.bin .add)) [tt 6, ti 1], gI 3 .mov [tt 7]])))
def r65 : RFunc := ⟨15,
(.seq
(RR [0] [gI 2 .mov [ti 0]])
(.seq
(.seq
(RR [0, 3] [gI 3 .mov [ti 0]])
(.block 0
(.loop 2 [0, 3] l65_2)))
(.seq
(.seq
(RR [14] [gI 13 .mov [tt 0], gI 14 (.pure (.bin .eql)) [tt 13, .c (AV.str [])]])
(.cond (.t 14 false)
(.seq
(RR [2] [gI 2 .mov [ti 4]])
(.ret [2]))
.skip))
(.seq
(RR [2] [gI 2 .mov [ti (-1)]])
(.ret [2]))))),
 [.tmp 2 false], false⟩
def a65 : Ann := mkAnn [] [(2, [0, 3])] false [] [] [(0, [0]), (1, [0, 3]), (2, [0, 3, 5]), (3, [0, 3]), (4, [0, 3, 11]), (5, [2]), (6, [14]), (7, [2]), (8, [2])] [] [] [] [(0, [0]), (1, [0, 3])] [2] [false] [] [] []
set_option maxRecDepth 100000 in
theorem c65 : convFn Tryd.prog a65 65 = some r65 := by kernel_rfl

/-- strings.IndexByte -/
def r69 : RFunc := ⟨8,
(.seq
(RR [0, 1] [gI 4 .mov [ti 0]])
(.seq
(RR [4] [gI 5 .mov [tt 0], gI 6 .mov [tt 1], gI 7 (.call 106) [tt 5, tt 6], gI 4 .mov [tt 7]])
(.ret [4]))),
 [.tmp 4 false], false⟩
def a69 : Ann := mkAnn [] [] false [] [] [(0, [0, 1]), (1, [4])] [] [] [] [] [4] [false] [] [] []
set_option maxRecDepth 100000 in
theorem c69 : convFn Tryd.prog a69 69 = some r69 := by kernel_rfl

/-- slices.Index[[]string,string] -/
def l75_2 : RCode :=
(.seq
(RR [0, 1, 7, 8, 9] [gI 9 (.pure (.bin .lss)) [tt 8, tt 7]])
(.seq
(.cond (.t 9 false)
.skip
(.exit 0 []))
(.seq
(.block 1
(.seq
(RR [0, 1, 5, 7, 8] [gI 10 .mov [tt 8], gI 5 .mov [tt 10]])
(.seq
(RR [0, 1, 5, 7, 8, 16] [gI 11 .mov [tt 1], gI 12 .mov [tt 0], gI 13 .mov [tt 5], .one ⟨some 14, .pure (.iaddr 1), [tt 12, tt 13], none⟩ .str, gI 15 (.load 1 false false) [tt 14], gI 16 (.pure (.bin .eql)) [tt 11, tt 15]])
(.cond (.t 16 false)
(.seq
(RR [4] [gI 17 .mov [tt 5], gI 4 .mov [tt 17]])
(.ret [4]))
.skip))))
(RR [0, 1, 7, 8] [gI 18 (.pure (.bin .add)) [tt 8, ti 1], gI 8 .mov [tt 18]]))))
def r75 : RFunc := ⟨19,
(.seq
(RR [0, 1] [gI 4 .mov [ti 0]])
(.seq
(.seq
(RR [0, 1, 7, 8] [gI 6 .mov [tt 0], gI 7 (.pure .lenSl) [tt 6], gI 8 .mov [ti 0]])
(.block 0
(.loop 2 [0, 1, 7, 8] l75_2)))
(.seq
(RR [4] [gI 4 .mov [ti (-1)]])
(.ret [4])))),
 [.tmp 4 false], false⟩
def a75 : Ann := mkAnn [] [(2, [0, 1, 7, 8])] false [] [] [(0, [0, 1]), (1, [0, 1, 7, 8]), (2, [0, 1, 7, 8, 9]), (3, [0, 1, 5, 7, 8]), (4, [0, 1, 5, 7, 8, 16]), (5, [4]), (6, [0, 1, 7, 8]), (7, [4])] [] [] [] [(0, []), (1, [0, 1, 7, 8])] [4] [false] [] [(4, 3, .str)] []
set_option maxRecDepth 100000 in
theorem c75 : convFn Tryd.prog a75 75 = some r75 := by kernel_rfl

/-- strings.LastIndex -/
def r77 : RFunc := ⟨36,
(.seq
(RR [0, 1] [gI 4 .mov [ti 0]])
(.seq
(RR [0, 1, 5] [gI 6 .mov [tt 1], gI 7 (.pure .lenS) [tt 6], gI 5 .mov [tt 7]])
(.seq
(.block 0
(.seq
(RR [0, 1, 5, 8] [gI 9 .mov [tt 5], gI 10 (.pure (.bin .eql)) [tt 9, ti 0], gI 8 .mov [tt 10]])
(.cond (.t 8 false)
(.seq
(RR [4] [gI 11 .mov [tt 0], gI 12 (.pure .lenS) [tt 11], gI 4 .mov [tt 12]])
(.ret [4]))
(.seq
(RR [0, 1, 5, 13] [gI 14 .mov [tt 5], gI 15 (.pure (.bin .eql)) [tt 14, ti 1], gI 13 .mov [tt 15]])
(.cond (.t 13 false)
(.seq
(RR [4] [gI 16 .mov [tt 0], gI 17 .mov [tt 1], gI 18 (.pure .idxStr) [tt 17, ti 0], gI 19 (.call 113) [tt 16, tt 18], gI 4 .mov [tt 19]])
(.ret [4]))
(.seq
(RR [0, 1, 5, 20] [gI 21 .mov [tt 5], gI 22 .mov [tt 0], gI 23 (.pure .lenS) [tt 22], gI 24 (.pure (.bin .eql)) [tt 21, tt 23], gI 20 .mov [tt 24]])
(.cond (.t 20 false)
(.seq
(.seq
(RR [27] [gI 25 .mov [tt 1], gI 26 .mov [tt 0], gI 27 (.pure (.bin .eql)) [tt 25, tt 26]])
(.cond (.t 27 false)
(.seq
(RR [4] [gI 4 .mov [ti 0]])
(.ret [4]))
.skip))
(.seq
(RR [4] [gI 4 .mov [ti (-1)]])
(.ret [4])))
(.seq
(RR [0, 1, 28] [gI 29 .mov [tt 5], gI 30 .mov [tt 0], gI 31 (.pure .lenS) [tt 30], gI 32 (.pure (.bin .gtr)) [tt 29, tt 31], gI 28 .mov [tt 32]])
(.cond (.t 28 false)
(.seq
(RR [4] [gI 4 .mov [ti (-1)]])
(.ret [4]))
.skip)))))))))
(.seq
(RR [4] [gI 33 .mov [tt 0], gI 34 .mov [tt 1], gI 35 (.call 114) [tt 33, tt 34], gI 4 .mov [tt 35]])
(.ret [4]))))),
 [.tmp 4 false], false⟩
def a77 : Ann := mkAnn [] [] false [] [] [(0, [0, 1]), (1, [0, 1, 5]), (2, [0, 1, 5, 8]), (3, [4]), (4, [0, 1, 5, 13]), (5, [4]), (6, [0, 1, 5, 20]), (7, [27]), (8, [4]), (9, [4]), (10, [0, 1, 28]), (11, [4]), (12, [4])] [] [] [] [(0, [0, 1])] [4] [false] [] [] []
set_option maxRecDepth 100000 in
theorem c77 : convFn Tryd.prog a77 77 = some r77 := by kernel_rfl

/-- drayage/version.epochs -/
def r78 : RFunc := ⟨37,
(.seq
(RR [0] [gI 2 .mov [.c (AV.str [])], gI 3 .mov [.c (AV.str [])], gI 4 .mov [.c (AV.bool false)]])
(.seq
(RR [0, 5, 6, 7] [gI 11 .mov [tt 0], gI 12 (.call 50) [tt 11, .c (AV.str [58])], gI 10 .mov [tt 12], gI 13 (.pure (.extract 0)) [tt 10], gI 14 (.pure (.extract 1)) [tt 10], gI 15 (.pure (.extract 2)) [tt 10], gI 5 .mov [tt 13], gI 6 .mov [tt 14], gI 7 .mov [tt 15]])
(.seq
(.seq
(RR [0, 5, 6, 17] [gI 16 .mov [tt 7], gI 17 (.pure (.un .not)) [tt 16]])
(.cond (.t 17 false)
(.seq
(RR [2, 3, 4] [gI 18 .mov [tt 0], gI 2 .mov [.c (AV.str [])], gI 3 .mov [tt 18], gI 4 .mov [.c (AV.bool true)]])
(.ret [2, 3, 4]))
.skip))
(.seq
(RR [5, 6, 8, 9] [gI 20 .mov [tt 5], gI 21 (.call 82) [tt 20], gI 19 .mov [tt 21], gI 22 (.pure (.extract 0)) [tt 19], gI 23 (.pure (.extract 1)) [tt 19], gI 8 .mov [tt 22], gI 9 .mov [tt 23]])
(.seq
(RR [2, 3, 4] [gI 24 .mov [tt 5], gI 25 .mov [tt 6], gI 26 .mov [tt 8], gI 27 (.pure (.bin .neq)) [tt 26, .c (AV.str [])], gI 28 .mov [tt 27], .sub [(⟨some 29, .mov, [tt 9], some (28, true)⟩, .any),
    (⟨some 30, .pure (.bin .eql), [tt 29, .c (AV.str [])], some (28, true)⟩, .any),
    (⟨some 31, .pure .pick, [tt 28, tt 30, .c (AV.bool false)], none⟩, .any)] 31, gI 32 .mov [tt 31], .sub [(⟨some 33, .mov, [tt 8], some (32, true)⟩, .any),
    (⟨some 34, .pure .lenS, [tt 33], some (32, true)⟩, .any),
    (⟨some 35, .pure (.bin .lss), [tt 34, ti 10], some (32, true)⟩, .any),
    (⟨some 36, .pure .pick, [tt 32, tt 35, .c (AV.bool false)], none⟩, .any)] 36, gI 2 .mov [tt 24], gI 3 .mov [tt 25], gI 4 .mov [tt 36]])
(.ret [2, 3, 4])))))),
 [.tmp 2 false, .tmp 3 false, .tmp 4 false], false⟩
def a78 : Ann := mkAnn [] [] false [] [] [(0, [0]), (1, [0, 5, 6, 7]), (2, [0, 5, 6, 17]), (3, [2, 3, 4]), (4, [5, 6, 8, 9]), (5, [2, 3, 4])] [] [] [] [] [2, 3, 4] [false, false, false] [(5, [(5, none), (3, some 31), (1, none), (4, some 36)])] [] []
set_option maxRecDepth 100000 in
theorem c78 : convFn Tryd.prog a78 78 = some r78 := by kernel_rfl

/-- strings.LastIndexByte -/
def r79 : RFunc := ⟨8,
(.seq
(RR [0, 1] [gI 4 .mov [ti 0]])
(.seq
(RR [4] [gI 5 .mov [tt 0], gI 6 .mov [tt 1], gI 7 (.call 113) [tt 5, tt 6], gI 4 .mov [tt 7]])
(.ret [4]))),
 [.tmp 4 false], false⟩
def a79 : Ann := mkAnn [] [] false [] [] [(0, [0, 1]), (1, [4])] [] [] [] [] [4] [false] [] [] []
set_option maxRecDepth 100000 in
theorem c79 : convFn Tryd.prog a79 79 = some r79 := by kernel_rfl

/-- drayage/version.made -/
def l80_2 : RCode :=
(.seq
(.seq
(RR [0, 1, 5, 9] [gI 6 .mov [tt 5], gI 7 .mov [tt 0], gI 8 (.pure .lenS) [tt 7], gI 9 (.pure (.bin .lss)) [tt 6, tt 8]])
(.cond (.t 9 false)
.skip
(.exit 0 [0])))
(.seq
(.block 1
(.seq
(RR [0, 1, 5, 31] [gI 12 .mov [tt 0], gI 13 .mov [tt 5], gI 14 (.pure .idxStr) [tt 12, tt 13], gI 15 (.call 81) [tt 14], gI 16 (.pure (.un .not)) [tt 15], gI 17 .mov [tt 16], .sub [(⟨some 18, .mov, [tt 0], some (17, true)⟩, .any),
    (⟨some 19, .mov, [tt 5], some (17, true)⟩, .any),
    (⟨some 20, .pure .idxStr, [tt 18, tt 19], some (17, true)⟩, .any),
    (⟨some 21, .call 115, [tt 20], some (17, true)⟩, .any),
    (⟨some 22, .pure (.un .not), [tt 21], some (17, true)⟩, .any),
    (⟨some 23, .pure .pick, [tt 17, tt 22, .c (AV.bool false)], none⟩, .any)] 23, gI 24 .mov [tt 23], .sub [(⟨some 25, .mov, [tt 1], some (24, true)⟩, .any),
    (⟨some 26, .mov, [tt 0], some (24, true)⟩, .any),
    (⟨some 27, .mov, [tt 5], some (24, true)⟩, .any),
    (⟨some 28, .pure .idxStr, [tt 26, tt 27], some (24, true)⟩, .any),
    (⟨some 29, .call 69, [tt 25, tt 28], some (24, true)⟩, .any),
    (⟨some 30, .pure (.bin .lss), [tt 29, ti 0], some (24, true)⟩, .any),
    (⟨some 31, .pure .pick, [tt 24, tt 30, .c (AV.bool false)], none⟩, .any)] 31])
(.cond (.t 31 false)
(.seq
(RR [4] [gI 4 .mov [.c (AV.bool false)]])
(.ret [4]))
.skip)))
(RR [0, 1, 5] [gI 10 .mov [tt 5], gI 11 (.pure (.bin .add)) [tt 10, ti 1], gI 5 .mov [tt 11]])))
def r80 : RFunc := ⟨34,
(.seq
(RR [0, 1] [gI 4 .mov [.c (AV.bool false)]])
(.seq
(.seq
(RR [0, 1, 5] [gI 5 .mov [ti 0]])
(.block 0
(.loop 2 [0, 1, 5] l80_2)))
(.seq
(RR [4] [gI 32 .mov [tt 0], gI 33 (.pure (.bin .neq)) [tt 32, .c (AV.str [])], gI 4 .mov [tt 33]])
(.ret [4])))),
 [.tmp 4 false], false⟩
def a80 : Ann := mkAnn [] [(2, [0, 1, 5])] false [] [] [(0, [0, 1]), (1, [0, 1, 5]), (2, [0, 1, 5, 9]), (3, [0, 1, 5]), (4, [0, 1, 5, 31]), (5, [4]), (6, [4])] [] [] [] [(0, [0]), (1, [0, 1, 5])] [4] [false] [(4, [(6, none), (6, some 23), (1, none), (7, some 31)])] [] []
set_option maxRecDepth 100000 in
theorem c80 : convFn Tryd.prog a80 80 = some r80 := by kernel_rfl

/-- drayage/version.digit -/
def r81 : RFunc := ⟨9,
(.seq
(RR [0] [gI 2 .mov [.c (AV.bool false)]])
(.seq
(RR [2] [gI 3 .mov [tt 0], gI 4 (.pure (.bin .geq)) [tt 3, .c (AV.int .u8 48)], gI 5 .mov [tt 4], .sub [(⟨some 6, .mov, [tt 0], some (5, true)⟩, .any),
    (⟨some 7, .pure (.bin .leq), [tt 6, .c (AV.int .u8 57)], some (5, true)⟩, .any),
    (⟨some 8, .pure .pick, [tt 5, tt 7, .c (AV.bool false)], none⟩, .any)] 8, gI 2 .mov [tt 8]])
(.ret [2]))),
 [.tmp 2 false], false⟩
def a81 : Ann := mkAnn [] [] false [] [] [(0, [0]), (1, [2])] [] [] [] [] [2] [false] [(1, [(3, none), (3, some 8)])] [] []
set_option maxRecDepth 100000 in
theorem c81 : convFn Tryd.prog a81 81 = some r81 := by kernel_rfl

/-- drayage/version.number -/
def l82_2 : RCode :=
(.seq
(.seq
(RR [0, 4, 14] [gI 5 .mov [tt 4], gI 6 .mov [tt 0], gI 7 (.pure .lenS) [tt 6], gI 8 (.pure (.bin .lss)) [tt 5, tt 7], gI 9 .mov [tt 8], .sub [(⟨some 10, .mov, [tt 0], some (9, true)⟩, .any),
    (⟨some 11, .mov, [tt 4], some (9, true)⟩, .any),
    (⟨some 12, .pure .idxStr, [tt 10, tt 11], some (9, true)⟩, .any),
    (⟨some 13, .call 81, [tt 12], some (9, true)⟩, .any),
    (⟨some 14, .pure .pick, [tt 9, tt 13, .c (AV.bool false)], none⟩, .any)] 14])
(.cond (.t 14 false)
.skip
(.exit 0 [0, 4])))
(.block 1
(RR [0, 4] [gI 15 .mov [tt 4], gI 16 (.pure (.bin .add)) [tt 15, ti 1], gI 4 .mov [tt 16]])))
def r82 : RFunc := ⟨23,
(.seq
(RR [0] [gI 2 .mov [.c (AV.str [])], gI 3 .mov [.c (AV.str [])]])
(.seq
(RR [0, 4] [gI 4 .mov [ti 0]])
(.seq
(.block 0
(.loop 2 [0, 4] l82_2))
(.seq
(.region (some ([], [])) [2, 3] [gI 17 .mov [tt 0], gI 18 .mov [tt 4], gI 19 (.pure (.sliceStr false true)) [tt 17, tt 18], gI 20 .mov [tt 0], gI 21 .mov [tt 4], gI 22 (.pure (.sliceStr true false)) [tt 20, tt 21], gI 2 .mov [tt 19], gI 3 .mov [tt 22]])
(.ret [2, 3]))))),
 [.tmp 2 false, .tmp 3 false], false⟩
def a82 : Ann := mkAnn [] [(2, [0, 4])] false [(4, [])] [] [(0, [0]), (1, [0, 4]), (2, [0, 4, 14]), (3, [0, 4]), (4, [2, 3])] [] [] [] [(0, [0, 4]), (1, [0, 4])] [2, 3] [false, false] [(2, [(5, none), (5, some 14)])] [] []
set_option maxRecDepth 100000 in
theorem c82 : convFn Tryd.prog a82 82 = some r82 := by kernel_rfl

/-- drayage/version.begins -/
def r83 : RFunc := ⟨13,
(.seq
(RR [0, 1] [gI 4 .mov [.c (AV.bool false)]])
(.seq
(RR [4] [gI 5 .mov [tt 0], gI 6 (.pure (.bin .neq)) [tt 5, .c (AV.str [])], gI 7 .mov [tt 6], .sub [(⟨some 8, .mov, [tt 0], some (7, true)⟩, .any),
    (⟨some 9, .pure .idxStr, [tt 8, ti 0], some (7, true)⟩, .any),
    (⟨some 10, .mov, [tt 1], some (7, true)⟩, .any),
    (⟨some 11, .pure (.bin .eql), [tt 9, tt 10], some (7, true)⟩, .any),
    (⟨some 12, .pure .pick, [tt 7, tt 11, .c (AV.bool false)], none⟩, .any)] 12, gI 4 .mov [tt 12]])
(.ret [4]))),
 [.tmp 4 false], false⟩
def a83 : Ann := mkAnn [] [] false [] [] [(0, [0, 1]), (1, [4])] [] [] [] [] [4] [false] [(1, [(3, none), (5, some 12)])] [] []
set_option maxRecDepth 100000 in
theorem c83 : convFn Tryd.prog a83 83 = some r83 := by kernel_rfl

/-- drayage/version.word -/
def l84_2 : RCode :=
(.seq
(.seq
(RR [0, 4, 14] [gI 5 .mov [tt 4], gI 6 .mov [tt 0], gI 7 (.pure .lenS) [tt 6], gI 8 (.pure (.bin .lss)) [tt 5, tt 7], gI 9 .mov [tt 8], .sub [(⟨some 10, .mov, [tt 0], some (9, true)⟩, .any),
    (⟨some 11, .mov, [tt 4], some (9, true)⟩, .any),
    (⟨some 12, .pure .idxStr, [tt 10, tt 11], some (9, true)⟩, .any),
    (⟨some 13, .call 115, [tt 12], some (9, true)⟩, .any),
    (⟨some 14, .pure .pick, [tt 9, tt 13, .c (AV.bool false)], none⟩, .any)] 14])
(.cond (.t 14 false)
.skip
(.exit 0 [0, 4])))
(.block 1
(RR [0, 4] [gI 15 .mov [tt 4], gI 16 (.pure (.bin .add)) [tt 15, ti 1], gI 4 .mov [tt 16]])))
def r84 : RFunc := ⟨23,
(.seq
(RR [0] [gI 2 .mov [.c (AV.str [])], gI 3 .mov [.c (AV.str [])]])
(.seq
(RR [0, 4] [gI 4 .mov [ti 0]])
(.seq
(.block 0
(.loop 2 [0, 4] l84_2))
(.seq
(.region (some ([], [])) [2, 3] [gI 17 .mov [tt 0], gI 18 .mov [tt 4], gI 19 (.pure (.sliceStr false true)) [tt 17, tt 18], gI 20 .mov [tt 0], gI 21 .mov [tt 4], gI 22 (.pure (.sliceStr true false)) [tt 20, tt 21], gI 2 .mov [tt 19], gI 3 .mov [tt 22]])
(.ret [2, 3]))))),
 [.tmp 2 false, .tmp 3 false], false⟩
def a84 : Ann := mkAnn [] [(2, [0, 4])] false [(4, [])] [] [(0, [0]), (1, [0, 4]), (2, [0, 4, 14]), (3, [0, 4]), (4, [2, 3])] [] [] [] [(0, [0, 4]), (1, [0, 4])] [2, 3] [false, false] [(2, [(5, none), (5, some 14)])] [] []
set_option maxRecDepth 100000 in
theorem c84 : convFn Tryd.prog a84 84 = some r84 := by kernel_rfl

/-- drayage/codec.Dec -/
def l92_4 : RCode :=
(.seq
(.seq
(RR [0, 3, 7] [gI 6 .mov [tt 0], gI 7 (.pure (.bin .gtr)) [tt 6, ti 9]])
(.cond (.t 7 false)
.skip
(.exit 0 [0, 3])))
(.seq
(.block 1
(RR [0, 3] [gI 10 .mov [tt 0], gI 11 (.pure (.bin .rem)) [tt 10, ti 10], gI 12 (.pure (.bin .add)) [ti 48, tt 11], gI 13 (.pure (.cvInt .u8)) [tt 12], gI 14 (.bslice 1 false 1) [tt 13], gI 15 .cvBS [tt 14], gI 16 .mov [tt 3], gI 17 (.pure (.bin .add)) [tt 15, tt 16], gI 3 .mov [tt 17]]))
(RR [0, 3] [gI 8 .mov [tt 0], gI 9 (.pure (.bin .quo)) [tt 8, ti 10], gI 0 .mov [tt 9]])))
def r92 : RFunc := ⟨25,
(.seq
(RR [0] [gI 2 .mov [.c (AV.str [])]])
(.seq
(.seq
(RR [0, 5] [gI 4 .mov [tt 0], gI 5 (.pure (.bin .lss)) [tt 4, ti 0]])
(.cond (.t 5 false)
(.seq
(RR [2] [gI 2 .mov [.c (AV.str [])]])
(.ret [2]))
.skip))
(.seq
(RR [0, 3] [gI 3 .mov [.c (AV.str [])]])
(.seq
(.block 0
(.loop 4 [0, 3] l92_4))
(.seq
(RR [2] [gI 18 .mov [tt 0], gI 19 (.pure (.bin .add)) [ti 48, tt 18], gI 20 (.pure (.cvInt .u8)) [tt 19], gI 21 (.bslice 1 false 1) [tt 20], gI 22 .cvBS [tt 21], gI 23 .mov [tt 3], gI 24 (.pure (.bin .add)) [tt 22, tt 23], gI 2 .mov [tt 24]])
(.ret [2])))))),
 [.tmp 2 false], false⟩
def a92 : Ann := mkAnn [] [(4, [0, 3])] false [] [] [(0, [0]), (1, [0, 5]), (2, [2]), (3, [0, 3]), (4, [0, 3, 7]), (5, [0, 3]), (6, [0, 3]), (7, [2])] [] [] [] [(0, [0, 3]), (1, [0, 3])] [2] [false] [] [] []
set_option maxRecDepth 100000 in
theorem c92 : convFn Tryd.prog a92 92 = some r92 := by kernel_rfl

/-- drayage/drayageref01.Dec -/
def l95_4 : RCode :=
(.seq
(.seq
(RR [0, 3, 7] [gI 6 .mov [tt 0], gI 7 (.pure (.bin .gtr)) [tt 6, ti 9]])
(.cond (.t 7 false)
.skip
(.exit 0 [0, 3])))
(.block 1
(.seq
(RR [0, 3] [gI 8 .mov [tt 0], gI 9 (.pure (.bin .rem)) [tt 8, ti 10], gI 10 (.pure (.bin .add)) [ti 48, tt 9], gI 11 (.pure (.cvInt .u8)) [tt 10], gI 12 (.bslice 1 false 1) [tt 11], gI 13 .mov [tt 3], gI 14 (.append 1 1 false) [.t 12 true, tt 13], gI 3 .mov [tt 14]])
(RR [0, 3] [gI 15 .mov [tt 0], gI 16 (.pure (.bin .quo)) [tt 15, ti 10], gI 0 .mov [tt 16]]))))
def r95 : RFunc := ⟨24,
(.seq
(RR [0] [gI 2 .mov [.c (AV.str [])]])
(.seq
(.seq
(RR [0, 5] [gI 4 .mov [tt 0], gI 5 (.pure (.bin .lss)) [tt 4, ti 0]])
(.cond (.t 5 false)
(.seq
(RR [2] [gI 2 .mov [.c (AV.str [])]])
(.ret [2]))
.skip))
(.seq
(RR [0, 3] [gI 3 .mov [.c (AV.sl false 1 [])]])
(.seq
(.block 0
(.loop 4 [0, 3] l95_4))
(.seq
(RR [2] [gI 17 .mov [tt 0], gI 18 (.pure (.bin .add)) [ti 48, tt 17], gI 19 (.pure (.cvInt .u8)) [tt 18], gI 20 (.bslice 1 false 1) [tt 19], gI 21 .mov [tt 3], gI 22 (.append 1 1 false) [.t 20 true, tt 21], gI 23 .cvBS [tt 22], gI 2 .mov [tt 23]])
(.ret [2])))))),
 [.tmp 2 false], false⟩
def a95 : Ann := mkAnn [(5, 6, [true]), (7, 5, [true])] [(4, [0, 3])] false [] [] [(0, [0]), (1, [0, 5]), (2, [2]), (3, [0, 3]), (4, [0, 3, 7]), (5, [0, 3]), (6, [0, 3]), (7, [2])] [] [(3, 0, [2])] [] [(0, [0, 3]), (1, [0, 3])] [2] [false] [] [] []
set_option maxRecDepth 100000 in
theorem c95 : convFn Tryd.prog a95 95 = some r95 := by kernel_rfl

/-- internal/stringslite.Cut -/
def r96 : RFunc := ⟨23,
(.seq
(RR [0, 1] [gI 4 .mov [.c (AV.str [])], gI 5 .mov [.c (AV.str [])], gI 6 .mov [.c (AV.bool false)]])
(.seq
(.seq
(RR [0, 1, 7] [gI 8 .mov [tt 0], gI 9 .mov [tt 1], gI 10 (.call 122) [tt 8, tt 9], gI 7 .mov [tt 10]])
(.seq
(RR [0, 1, 7, 12] [gI 11 .mov [tt 7], gI 12 (.pure (.bin .geq)) [tt 11, ti 0]])
(.cond (.t 12 false)
(.seq
(.region (some ([], [])) [4, 5, 6] [gI 13 .mov [tt 0], gI 14 .mov [tt 7], gI 15 (.pure (.sliceStr false true)) [tt 13, tt 14], gI 16 .mov [tt 0], gI 17 .mov [tt 7], gI 18 .mov [tt 1], gI 19 (.pure .lenS) [tt 18], gI 20 (.pure (.bin .add)) [tt 17, tt 19], gI 21 (.pure (.sliceStr true false)) [tt 16, tt 20], gI 4 .mov [tt 15], gI 5 .mov [tt 21], gI 6 .mov [.c (AV.bool true)]])
(.ret [4, 5, 6]))
.skip)))
(.seq
(RR [4, 5, 6] [gI 22 .mov [tt 0], gI 4 .mov [tt 22], gI 5 .mov [.c (AV.str [])], gI 6 .mov [.c (AV.bool false)]])
(.ret [4, 5, 6])))),
 [.tmp 4 false, .tmp 5 false, .tmp 6 false], false⟩
def a96 : Ann := mkAnn [] [] false [(3, [])] [] [(0, [0, 1]), (1, [0, 1, 7]), (2, [0, 1, 7, 12]), (3, [4, 5, 6]), (4, [4, 5, 6])] [] [] [] [] [4, 5, 6] [false, false, false] [] [] []
set_option maxRecDepth 100000 in
theorem c96 : convFn Tryd.prog a96 96 = some r96 := by kernel_rfl

/-- drayage/codec.Undec -/
def l97_2 : RCode :=
(.seq
(.seq
(RR [0, 4, 10] [gI 7 .mov [tt 4], gI 8 .mov [tt 0], gI 9 (.pure .lenS) [tt 8], gI 10 (.pure (.bin .lss)) [tt 7, tt 9]])
(.cond (.t 10 false)
.skip
(.exit 0 [0])))
(.seq
(.block 1
(.seq
(RR [0, 4, 22] [gI 13 .mov [tt 0], gI 14 .mov [tt 4], gI 15 (.pure .idxStr) [tt 13, tt 14], gI 16 (.pure (.bin .lss)) [tt 15, .c (AV.int .u8 48)], gI 17 .mov [tt 16], .sub [(⟨some 18, .mov, [tt 0], some (17, false)⟩, .any),
    (⟨some 19, .mov, [tt 4], some (17, false)⟩, .any),
    (⟨some 20, .pure .idxStr, [tt 18, tt 19], some (17, false)⟩, .any),
    (⟨some 21, .pure (.bin .gtr), [tt 20, .c (AV.int .u8 57)], some (17, false)⟩, .any),
    (⟨some 22, .pure .pick, [tt 17, .c (AV.bool true), tt 21], none⟩, .any)] 22])
(.cond (.t 22 false)
(.seq
(RR [2, 3] [gI 2 .mov [ti 0], gI 3 .mov [ti 3]])
(.ret [2, 3]))
.skip)))
(RR [0, 4] [gI 11 .mov [tt 4], gI 12 (.pure (.bin .add)) [tt 11, ti 1], gI 4 .mov [tt 12]])))
def r97 : RFunc := ⟨41,
(.seq
(RR [0] [gI 2 .mov [ti 0], gI 3 .mov [ti 0]])
(.seq
(.seq
(RR [0, 4] [gI 4 .mov [ti 0]])
(.block 0
(.loop 2 [0, 4] l97_2)))
(.seq
(.seq
(RR [0, 33] [gI 23 .mov [tt 0], gI 24 (.pure (.bin .eql)) [tt 23, .c (AV.str [])], gI 25 .mov [tt 24], .sub [(⟨some 26, .mov, [tt 0], some (25, false)⟩, .any),
    (⟨some 27, .pure .idxStr, [tt 26, ti 0], some (25, false)⟩, .any),
    (⟨some 28, .pure (.bin .eql), [tt 27, .c (AV.int .u8 48)], some (25, false)⟩, .any),
    (⟨some 29, .mov, [tt 28], some (25, false)⟩, .any),
    (⟨some 30, .mov, [tt 0], some (29, true)⟩, .any),
    (⟨some 31, .pure (.bin .neq), [tt 30, .c (AV.str [48])], some (29, true)⟩, .any),
    (⟨some 32, .pure .pick, [tt 29, tt 31, .c (AV.bool false)], some (25, false)⟩, .any),
    (⟨some 33, .pure .pick, [tt 25, .c (AV.bool true), tt 32], none⟩, .any)] 33])
(.cond (.t 33 false)
(.seq
(RR [2, 3] [gI 2 .mov [ti 0], gI 3 .mov [ti 3]])
(.ret [2, 3]))
.skip))
(.seq
(.seq
(RR [5, 6] [gI 35 .mov [tt 0], gI 36 (.call 123) [tt 35, ti 10], gI 34 .mov [tt 36], gI 37 (.pure (.extract 0)) [tt 34], gI 38 (.pure (.extract 1)) [tt 34], gI 5 .mov [tt 37], gI 6 .mov [tt 38]])
(.seq
(RR [5, 39] [gI 39 .mov [tt 6]])
(.cond (.t 39 false)
(.seq
(RR [2, 3] [gI 40 .mov [tt 5], gI 2 .mov [tt 40], gI 3 .mov [ti 0]])
(.ret [2, 3]))
.skip)))
(.seq
(RR [2, 3] [gI 2 .mov [ti 0], gI 3 .mov [ti 4]])
(.ret [2, 3])))))),
 [.tmp 2 false, .tmp 3 false], false⟩
def a97 : Ann := mkAnn [] [(2, [0, 4])] false [] [] [(0, [0]), (1, [0, 4]), (2, [0, 4, 10]), (3, [0, 4]), (4, [0, 4, 22]), (5, [2, 3]), (6, [0, 33]), (7, [2, 3]), (8, [5, 6]), (9, [5, 39]), (10, [2, 3]), (11, [2, 3])] [] [] [] [(0, [0]), (1, [0, 4])] [2, 3] [false, false] [(4, [(5, none), (5, some 22)]), (6, [(3, none), (8, some 33)])] [] []
set_option maxRecDepth 100000 in
theorem c97 : convFn Tryd.prog a97 97 = some r97 := by kernel_rfl

/-- internal/stringslite.HasPrefix -/
def r98 : RFunc := ⟨18,
(.seq
(RR [0, 1] [gI 4 .mov [.c (AV.bool false)]])
(.seq
(RR [4] [gI 5 .mov [tt 0], gI 6 (.pure .lenS) [tt 5], gI 7 .mov [tt 1], gI 8 (.pure .lenS) [tt 7], gI 9 (.pure (.bin .geq)) [tt 6, tt 8], gI 10 .mov [tt 9], .sub [(⟨some 11, .mov, [tt 0], some (10, true)⟩, .any),
    (⟨some 12, .mov, [tt 1], some (10, true)⟩, .any),
    (⟨some 13, .pure .lenS, [tt 12], some (10, true)⟩, .any),
    (⟨some 14, .pure (.sliceStr false true), [tt 11, tt 13], some (10, true)⟩, .any),
    (⟨some 15, .mov, [tt 1], some (10, true)⟩, .any),
    (⟨some 16, .pure (.bin .eql), [tt 14, tt 15], some (10, true)⟩, .any),
    (⟨some 17, .pure .pick, [tt 10, tt 16, .c (AV.bool false)], none⟩, .any)] 17, gI 4 .mov [tt 17]])
(.ret [4]))),
 [.tmp 4 false], false⟩
def a98 : Ann := mkAnn [] [] false [] [] [(0, [0, 1]), (1, [4])] [] [] [] [] [4] [false] [(1, [(6, none), (7, some 17)])] [] []
set_option maxRecDepth 100000 in
theorem c98 : convFn Tryd.prog a98 98 = some r98 := by kernel_rfl

/-- internal/stringslite.CutPrefix -/
def r99 : RFunc := ⟨15,
(.seq
(RR [0, 1] [gI 4 .mov [.c (AV.str [])], gI 5 .mov [.c (AV.bool false)]])
(.seq
(.seq
(RR [0, 1, 9] [gI 6 .mov [tt 0], gI 7 .mov [tt 1], gI 8 (.call 98) [tt 6, tt 7], gI 9 (.pure (.un .not)) [tt 8]])
(.cond (.t 9 false)
(.seq
(RR [4, 5] [gI 10 .mov [tt 0], gI 4 .mov [tt 10], gI 5 .mov [.c (AV.bool false)]])
(.ret [4, 5]))
.skip))
(.seq
(RR [4, 5] [gI 11 .mov [tt 0], gI 12 .mov [tt 1], gI 13 (.pure .lenS) [tt 12], gI 14 (.pure (.sliceStr true false)) [tt 11, tt 13], gI 4 .mov [tt 14], gI 5 .mov [.c (AV.bool true)]])
(.ret [4, 5])))),
 [.tmp 4 false, .tmp 5 false], false⟩
def a99 : Ann := mkAnn [] [] false [] [] [(0, [0, 1]), (1, [0, 1, 9]), (2, [4, 5]), (3, [4, 5])] [] [] [] [] [4, 5] [false, false] [] [] []
set_option maxRecDepth 100000 in
theorem c99 : convFn Tryd.prog a99 99 = some r99 := by kernel_rfl

/-- internal/stringslite.TrimPrefix -/
def r100 : RFunc := ⟨13,
(.seq
(RR [0, 1] [gI 4 .mov [.c (AV.str [])]])
(.seq
(.seq
(RR [0, 1, 7] [gI 5 .mov [tt 0], gI 6 .mov [tt 1], gI 7 (.call 98) [tt 5, tt 6]])
(.cond (.t 7 false)
(.seq
(RR [4] [gI 8 .mov [tt 0], gI 9 .mov [tt 1], gI 10 (.pure .lenS) [tt 9], gI 11 (.pure (.sliceStr true false)) [tt 8, tt 10], gI 4 .mov [tt 11]])
(.ret [4]))
.skip))
(.seq
(RR [4] [gI 12 .mov [tt 0], gI 4 .mov [tt 12]])
(.ret [4])))),
 [.tmp 4 false], false⟩
def a100 : Ann := mkAnn [] [] false [] [] [(0, [0, 1]), (1, [0, 1, 7]), (2, [4]), (3, [4])] [] [] [] [] [4] [false] [] [] []
set_option maxRecDepth 100000 in
theorem c100 : convFn Tryd.prog a100 100 = some r100 := by kernel_rfl

/-- drayage/drayageref12.Part -/
def k101_28 : RCode :=
(.seq
(.seq
(RR [4, 7, 150] [gI 148 (.pure (.faddr 3)) [tt 7], gI 149 (.load 1 false false) [tt 148], gI 150 (.pure (.un .not)) [tt 149]])
(.cond (.t 150 false)
(.seq
(RR [4] [gI 151 (.build [AV.str [], AV.str [], AV.str [], AV.bool false] []) [], gS (.store 4) [tt 4, tt 151]])
(.ret [4]))
.skip))
(.seq
(RR [4] [gI 152 (.load 4 true false) [tt 7], gS (.store 4) [tt 4, tt 152]])
(.ret [4])))
def k101_23 : RCode :=
(.seq
(.seq
(RR [4, 7, 9, 95] [gI 94 .mov [tt 0], gI 95 (.pure (.bin .eql)) [tt 94, ti 2]])
(.cond (.t 95 false)
(RR [4, 7] [gI 96 .mov [tt 9], gI 97 (.pure (.bin .geq)) [tt 96, ti 0], gI 98 .mov [tt 97], .sub [(⟨some 99, .pure (.faddr 1), [tt 7], some (98, true)⟩, .any),
    (⟨some 100, .load 1 false false, [tt 99], some (98, true)⟩, .any),
    (⟨some 101, .call 126, [tt 100, .c (AV.str [46, 95, 43, 126, 94])], some (98, true)⟩, .any),
    (⟨some 102, .pure .pick, [tt 98, tt 101, .c (AV.bool false)], none⟩, .any)] 102, gI 103 .mov [tt 102], .sub [(⟨some 104, .pure (.faddr 2), [tt 7], some (103, true)⟩, .any),
    (⟨some 105, .load 1 false false, [tt 104], some (103, true)⟩, .any),
    (⟨some 106, .call 126, [tt 105, .c (AV.str [46, 95, 43, 126, 94])], some (103, true)⟩, .any),
    (⟨some 107, .pure .pick, [tt 103, tt 106, .c (AV.bool false)], none⟩, .any)] 107, gI 108 .mov [tt 107], .sub [(⟨some 109, .pure (.faddr 0), [tt 7], some (108, true)⟩, .any),
    (⟨some 110, .load 1 false false, [tt 109], some (108, true)⟩, .any),
    (⟨some 111, .pure .lenS, [tt 110], some (108, true)⟩, .any),
    (⟨some 112, .pure (.bin .lss), [tt 111, ti 2], some (108, true)⟩, .any),
    (⟨some 113, .mov, [tt 112], some (108, true)⟩, .any),
    (⟨some 114, .pure (.faddr 0), [tt 7], some (113, false)⟩, .any),
    (⟨some 115, .load 1 false false, [tt 114], some (113, false)⟩, .any),
    (⟨some 116, .pure .idxStr, [tt 115, ti 0], some (113, false)⟩, .any),
    (⟨some 117, .pure (.bin .neq), [tt 116, .c (AV.int .u8 48)], some (113, false)⟩, .any),
    (⟨some 118, .pure .pick, [tt 113, .c (AV.bool true), tt 117], some (108, true)⟩, .any),
    (⟨some 119, .pure .pick, [tt 108, tt 118, .c (AV.bool false)], none⟩, .any)] 119, gI 120 (.pure (.faddr 3)) [tt 7], gS (.store 1) [tt 120, tt 119]])
(.seq
(RR [4, 7, 122] [gI 121 .mov [tt 9], gI 122 (.pure (.bin .lss)) [tt 121, ti 0]])
(.cond (.t 122 false)
(RR [4, 7] [gI 123 (.pure (.faddr 1)) [tt 7], gI 124 (.load 1 false false) [tt 123], gI 125 (.call 126) [tt 124, .c (AV.str [46, 43, 126])], gI 126 .mov [tt 125], .sub [(⟨some 127, .pure (.faddr 1), [tt 7], some (126, true)⟩, .any),
    (⟨some 128, .load 1 false false, [tt 127], some (126, true)⟩, .any),
    (⟨some 129, .pure .idxStr, [tt 128, ti 0], some (126, true)⟩, .any),
    (⟨some 130, .call 127, [tt 129], some (126, true)⟩, .any),
    (⟨some 131, .pure .pick, [tt 126, tt 130, .c (AV.bool false)], none⟩, .any)] 131, gI 132 (.pure (.faddr 3)) [tt 7], gS (.store 1) [tt 132, tt 131]])
(RR [4, 7] [gI 133 (.pure (.faddr 1)) [tt 7], gI 134 (.load 1 false false) [tt 133], gI 135 (.call 126) [tt 134, .c (AV.str [46, 43, 126, 45])], gI 136 .mov [tt 135], .sub [(⟨some 137, .pure (.faddr 1), [tt 7], some (136, true)⟩, .any),
    (⟨some 138, .load 1 false false, [tt 137], some (136, true)⟩, .any),
    (⟨some 139, .pure .idxStr, [tt 138, ti 0], some (136, true)⟩, .any),
    (⟨some 140, .call 127, [tt 139], some (136, true)⟩, .any),
    (⟨some 141, .pure .pick, [tt 136, tt 140, .c (AV.bool false)], none⟩, .any)] 141, gI 142 .mov [tt 141], .sub [(⟨some 143, .pure (.faddr 2), [tt 7], some (142, true)⟩, .any),
    (⟨some 144, .load 1 false false, [tt 143], some (142, true)⟩, .any),
    (⟨some 145, .call 126, [tt 144, .c (AV.str [46, 43, 126])], some (142, true)⟩, .any),
    (⟨some 146, .pure .pick, [tt 142, tt 145, .c (AV.bool false)], none⟩, .any)] 146, gI 147 (.pure (.faddr 3)) [tt 7], gS (.store 1) [tt 147, tt 146]])))))
(.cut 100028 [4, 7] [4] k101_28))
def l101_12 : RCode :=
(.seq
(.seq
(RR [0, 1, 4, 7, 8, 49] [gI 46 .mov [tt 8], gI 47 .mov [tt 1], gI 48 (.pure .lenS) [tt 47], gI 49 (.pure (.bin .lss)) [tt 46, tt 48]])
(.cond (.t 49 false)
.skip
(.exit 0 [0, 4, 7])))
(.seq
(.block 1
(.seq
(RR [0, 1, 4, 7, 8, 55] [gI 52 .mov [tt 1], gI 53 .mov [tt 8], gI 54 (.pure .idxStr) [tt 52, tt 53], gI 55 (.pure (.bin .eql)) [tt 54, .c (AV.int .u8 58)]])
(.cond (.t 55 false)
(.seq
(.seq
(RR [0, 1, 4, 7, 8, 67] [gI 56 .mov [tt 8], gI 57 (.pure (.bin .lss)) [tt 56, ti 1], gI 58 .mov [tt 57], .sub [(⟨some 59, .mov, [tt 8], some (58, false)⟩, .any),
    (⟨some 60, .pure (.bin .gtr), [tt 59, ti 9], some (58, false)⟩, .any),
    (⟨some 61, .pure .pick, [tt 58, .c (AV.bool true), tt 60], none⟩, .any)] 61, gI 62 .mov [tt 61], .sub [(⟨some 63, .mov, [tt 1], some (62, false)⟩, .any),
    (⟨some 64, .call 102, [tt 63], some (62, false)⟩, .any),
    (⟨some 65, .mov, [tt 8], some (62, false)⟩, .any),
    (⟨some 66, .pure (.bin .neq), [tt 64, tt 65], some (62, false)⟩, .any),
    (⟨some 67, .pure .pick, [tt 62, .c (AV.bool true), tt 66], none⟩, .any)] 67])
(.cond (.t 67 false)
(.seq
(RR [4] [gI 68 (.build [AV.str [], AV.str [], AV.str [], AV.bool false] []) [], gS (.store 4) [tt 4, tt 68]])
(.ret [4]))
.skip))
(.seq
(RR [0, 1, 4, 7, 8] [gI 69 .mov [tt 1], gI 70 .mov [tt 8], gI 71 (.pure (.sliceStr false true)) [tt 69, tt 70], gI 72 (.pure (.faddr 0)) [tt 7], gS (.store 1) [tt 72, tt 71]])
(.seq
(RR [0, 4, 7] [gI 73 .mov [tt 1], gI 74 .mov [tt 8], gI 75 (.pure (.bin .add)) [tt 74, ti 1], gI 76 (.pure (.sliceStr true false)) [tt 73, tt 75], gI 77 (.pure (.faddr 1)) [tt 7], gS (.store 1) [tt 77, tt 76]])
(.exit 0 [0, 4, 7]))))
.skip)))
(RR [0, 1, 4, 7, 8] [gI 50 .mov [tt 8], gI 51 (.pure (.bin .add)) [tt 50, ti 1], gI 8 .mov [tt 51]])))
def r101 : RFunc := ⟨153,
(.seq
(RR [0, 1, 4] [gI 4 (.new 4) [.c (AV.agg [AV.str [], AV.str [], AV.str [], AV.bool false])]])
(.seq
(.seq
(RR [0, 1, 4, 11] [gI 10 .mov [tt 0], gI 11 (.pure (.bin .eql)) [tt 10, ti 3]])
(.cond (.t 11 false)
(.seq
(RR [1, 4, 5] [gI 12 .mov [tt 1], gI 13 (.call 124) [tt 12], gI 5 .mov [tt 13]])
(.seq
(.seq
(RR [1, 4, 5, 16] [gI 14 .mov [tt 5], gI 15 (.pure .lenSl) [tt 14], gI 16 (.pure (.bin .eql)) [tt 15, ti 0]])
(.cond (.t 16 false)
(.seq
(RR [4] [gI 17 (.build [AV.str [], AV.str [], AV.str [], AV.bool false] []) [], gS (.store 4) [tt 4, tt 17]])
(.ret [4]))
.skip))
(.seq
(RR [1, 4, 5, 6] [gI 6 .mov [.c (AV.str [])]])
(.seq
(.seq
(RR [1, 4, 5, 6, 25] [gI 18 .mov [tt 5], gI 19 .mov [tt 5], gI 20 (.pure .lenSl) [tt 19], gI 21 (.pure (.bin .sub)) [tt 20, ti 1], .one ⟨some 22, .pure (.iaddr 3), [tt 18, tt 21], none⟩ (.agg [(.int .i64), (.int .i64), .str]), gI 23 (.pure (.faddr 0)) [tt 22], gI 24 (.load 1 false false) [tt 23], gI 25 (.pure (.bin .eql)) [tt 24, ti 2]])
(.cond (.t 25 false)
(.seq
(RR [1, 4, 6] [gI 26 .mov [tt 5], gI 27 .mov [tt 5], gI 28 (.pure .lenSl) [tt 27], gI 29 (.pure (.bin .sub)) [tt 28, ti 1], .one ⟨some 30, .pure (.iaddr 3), [tt 26, tt 29], none⟩ (.agg [(.int .i64), (.int .i64), .str]), gI 31 (.pure (.faddr 2)) [tt 30], gI 32 (.load 1 false false) [tt 31], gI 6 .mov [tt 32]])
(RR [1, 4, 6] [gI 33 .mov [tt 1], gI 34 .mov [tt 1], gI 35 (.pure .lenS) [tt 34], gI 36 .mov [tt 6], gI 37 (.pure .lenS) [tt 36], gI 38 (.pure (.bin .sub)) [tt 35, tt 37], gI 39 (.pure (.bin .sub)) [tt 38, ti 2], gI 40 (.pure (.sliceStr false true)) [tt 33, tt 39], gI 1 .mov [tt 40]]))
.skip))
(.seq
(RR [4] [gI 41 .mov [tt 1], gI 42 .mov [tt 6], gI 43 (.build [AV.str [], AV.str [], AV.str [], AV.bool false] [(1, 1), (2, 1), (3, 1)]) [tt 41, tt 42, .c (AV.bool true)], gS (.store 4) [tt 4, tt 43]])
(.ret [4]))))))
.skip))
(.seq
(RR [0, 1, 4, 7] [gI 44 .mov [tt 1], gI 45 (.build [AV.str [], AV.str [], AV.str [], AV.bool false] [(1, 1)]) [tt 44], gI 7 (.new 4) [.c (AV.agg [AV.str [], AV.str [], AV.str [], AV.bool false])], gS (.store 4) [tt 7, tt 45]])
(.seq
(.seq
(RR [0, 1, 4, 7, 8] [gI 8 .mov [ti 0]])
(.block 0
(.loop 12 [0, 1, 4, 7, 8] l101_12)))
(.seq
(RR [0, 4, 7, 9] [gI 78 (.pure (.faddr 1)) [tt 7], gI 79 (.load 1 false false) [tt 78], gI 80 (.call 125) [tt 79, .c (AV.int .u8 45)], gI 9 .mov [tt 80]])
(.seq
(.seq
(RR [0, 4, 7, 9, 82] [gI 81 .mov [tt 9], gI 82 (.pure (.bin .geq)) [tt 81, ti 0]])
(.cond (.t 82 false)
(.seq
(RR [0, 4, 7, 9] [gI 83 (.pure (.faddr 1)) [tt 7], gI 84 (.load 1 false false) [tt 83], gI 85 .mov [tt 9], gI 86 (.pure (.bin .add)) [tt 85, ti 1], gI 87 (.pure (.sliceStr true false)) [tt 84, tt 86], gI 88 (.pure (.faddr 2)) [tt 7], gS (.store 1) [tt 88, tt 87]])
(RR [0, 4, 7, 9] [gI 89 (.pure (.faddr 1)) [tt 7], gI 90 (.load 1 false false) [tt 89], gI 91 .mov [tt 9], gI 92 (.pure (.sliceStr false true)) [tt 90, tt 91], gI 93 (.pure (.faddr 1)) [tt 7], gS (.store 1) [tt 93, tt 92]]))
.skip))
(.cut 100023 [0, 4, 7, 9] [4] k101_23))))))),
 [.cell 4 4 true], false⟩
def a101 : Ann := mkAnn [] [(12, [0, 1, 4, 7, 8])] false [] [] [(0, [0, 1, 4]), (1, [0, 1, 4, 11]), (2, [1, 4, 5]), (3, [1, 4, 5, 16]), (4, [4]), (5, [1, 4, 5, 6]), (6, [1, 4, 5, 6, 25]), (7, [1, 4, 6]), (8, [1, 4, 6]), (9, [4]), (10, [0, 1, 4, 7]), (11, [0, 1, 4, 7, 8]), (12, [0, 1, 4, 7, 8, 49]), (13, [0, 1, 4, 7, 8]), (14, [0, 1, 4, 7, 8, 55]), (15, [0, 1, 4, 7, 8, 67]), (16, [4]), (17, [0, 1, 4, 7, 8]), (18, [0, 4, 7]), (19, [0, 4, 7, 9]), (20, [0, 4, 7, 9, 82]), (21, [0, 4, 7, 9]), (22, [0, 4, 7, 9]), (23, [4, 7, 9, 95]), (24, [4, 7]), (25, [4, 7, 122]), (26, [4, 7]), (27, [4, 7]), (28, [4, 7, 150]), (29, [4]), (30, [4])] [] [] [(23, [0, 4, 7, 9], [4]), (28, [4, 7], [4])] [(0, [0, 4, 7]), (1, [0, 1, 4, 7, 8])] [4] [false] [(15, [(3, none), (3, some 61), (1, none), (5, some 67)]), (24, [(3, none), (4, some 102), (1, none), (4, some 107), (1, none), (11, some 119)]), (26, [(4, none), (5, some 131)]), (27, [(4, none), (5, some 141), (1, none), (4, some 146)])] [(6, 4, (.agg [(.int .i64), (.int .i64), .str])), (7, 4, (.agg [(.int .i64), (.int .i64), .str]))] []
set_option maxRecDepth 100000 in
theorem c101 : convFn Tryd.prog a101 101 = some r101 := by kernel_rfl

/-- drayage/drayageref12.Digits -/
def l102_2 : RCode :=
(.seq
(.seq
(RR [0, 3, 13] [gI 4 .mov [tt 3], gI 5 .mov [tt 0], gI 6 (.pure .lenS) [tt 5], gI 7 (.pure (.bin .lss)) [tt 4, tt 6], gI 8 .mov [tt 7], .sub [(⟨some 9, .mov, [tt 0], some (8, true)⟩, .any),
    (⟨some 10, .mov, [tt 3], some (8, true)⟩, .any),
    (⟨some 11, .pure .idxStr, [tt 9, tt 10], some (8, true)⟩, .any),
    (⟨some 12, .call 127, [tt 11], some (8, true)⟩, .any),
    (⟨some 13, .pure .pick, [tt 8, tt 12, .c (AV.bool false)], none⟩, .any)] 13])
(.cond (.t 13 false)
.skip
(.exit 0 [3])))
(.block 1
(RR [0, 3] [gI 14 .mov [tt 3], gI 15 (.pure (.bin .add)) [tt 14, ti 1], gI 3 .mov [tt 15]])))
def r102 : RFunc := ⟨17,
(.seq
(RR [0] [gI 2 .mov [ti 0]])
(.seq
(RR [0, 3] [gI 3 .mov [ti 0]])
(.seq
(.block 0
(.loop 2 [0, 3] l102_2))
(.seq
(RR [2] [gI 16 .mov [tt 3], gI 2 .mov [tt 16]])
(.ret [2]))))),
 [.tmp 2 false], false⟩
def a102 : Ann := mkAnn [] [(2, [0, 3])] false [] [] [(0, [0]), (1, [0, 3]), (2, [0, 3, 13]), (3, [0, 3]), (4, [2])] [] [] [] [(0, [3]), (1, [0, 3])] [2] [false] [(2, [(5, none), (5, some 13)])] [] []
set_option maxRecDepth 100000 in
theorem c102 : convFn Tryd.prog a102 102 = some r102 := by kernel_rfl

/-- drayage/drayageref01.Undec -/
def l103_4 : RCode :=
(.seq
(.seq
(RR [0, 2, 3, 20] [gI 17 .mov [tt 3], gI 18 .mov [tt 0], gI 19 (.pure .lenS) [tt 18], gI 20 (.pure (.bin .lss)) [tt 17, tt 19]])
(.cond (.t 20 false)
.skip
(.exit 0 [0, 2])))
(.seq
(.block 1
(.seq
(RR [0, 2, 3, 32] [gI 23 .mov [tt 0], gI 24 .mov [tt 3], gI 25 (.pure .idxStr) [tt 23, tt 24], gI 26 (.pure (.bin .lss)) [tt 25, .c (AV.int .u8 48)], gI 27 .mov [tt 26], .sub [(⟨some 28, .mov, [tt 0], some (27, false)⟩, .any),
    (⟨some 29, .mov, [tt 3], some (27, false)⟩, .any),
    (⟨some 30, .pure .idxStr, [tt 28, tt 29], some (27, false)⟩, .any),
    (⟨some 31, .pure (.bin .gtr), [tt 30, .c (AV.int .u8 57)], some (27, false)⟩, .any),
    (⟨some 32, .pure .pick, [tt 27, .c (AV.bool true), tt 31], none⟩, .any)] 32])
(.cond (.t 32 false)
(.seq
(RR [2] [gI 33 (.build [AV.sl false 1 [], AV.int .i64 0, AV.int .i64 0] [(2, 1)]) [ti 3], gS (.store 3) [tt 2, tt 33]])
(.ret [2]))
.skip)))
(RR [0, 2, 3] [gI 21 .mov [tt 3], gI 22 (.pure (.bin .add)) [tt 21, ti 1], gI 3 .mov [tt 22]])))
def r103 : RFunc := ⟨36,
(.seq
(RR [0, 2] [gI 2 (.new 3) [.c (AV.agg [AV.sl false 1 [], AV.int .i64 0, AV.int .i64 0])]])
(.seq
(.seq
(RR [0, 2, 15] [gI 4 .mov [tt 0], gI 5 (.pure (.bin .eql)) [tt 4, .c (AV.str [])], gI 6 .mov [tt 5], .sub [(⟨some 7, .mov, [tt 0], some (6, false)⟩, .any),
    (⟨some 8, .pure .lenS, [tt 7], some (6, false)⟩, .any),
    (⟨some 9, .pure (.bin .gtr), [tt 8, ti 1], some (6, false)⟩, .any),
    (⟨some 10, .mov, [tt 9], some (6, false)⟩, .any),
    (⟨some 11, .mov, [tt 0], some (10, true)⟩, .any),
    (⟨some 12, .pure .idxStr, [tt 11, ti 0], some (10, true)⟩, .any),
    (⟨some 13, .pure (.bin .eql), [tt 12, .c (AV.int .u8 48)], some (10, true)⟩, .any),
    (⟨some 14, .pure .pick, [tt 10, tt 13, .c (AV.bool false)], some (6, false)⟩, .any),
    (⟨some 15, .pure .pick, [tt 6, .c (AV.bool true), tt 14], none⟩, .any)] 15])
(.cond (.t 15 false)
(.seq
(RR [2] [gI 16 (.build [AV.sl false 1 [], AV.int .i64 0, AV.int .i64 0] [(2, 1)]) [ti 3], gS (.store 3) [tt 2, tt 16]])
(.ret [2]))
.skip))
(.seq
(.seq
(RR [0, 2, 3] [gI 3 .mov [ti 0]])
(.block 0
(.loop 4 [0, 2, 3] l103_4)))
(.seq
(RR [2] [gI 34 .mov [tt 0], gI 35 (.call 128) [tt 34, ti 10], gS (.store 3) [tt 2, tt 35]])
(.ret [2]))))),
 [.cell 2 3 true], false⟩
def a103 : Ann := mkAnn [] [(4, [0, 2, 3])] false [] [] [(0, [0, 2]), (1, [0, 2, 15]), (2, [2]), (3, [0, 2, 3]), (4, [0, 2, 3, 20]), (5, [0, 2, 3]), (6, [0, 2, 3, 32]), (7, [2]), (8, [2])] [] [(0, 0, [2]), (2, 0, [2]), (7, 0, [2])] [] [(0, [0, 2]), (1, [0, 2, 3])] [2] [false] [(1, [(3, none), (9, some 15)]), (6, [(5, none), (5, some 32)])] [] []
set_option maxRecDepth 100000 in
theorem c103 : convFn Tryd.prog a103 103 = some r103 := by kernel_rfl

/-- slices.IndexFunc[[]int,int] -/
def l104_2 : RCode :=
(.seq
(RR [0, 1, 7, 8, 9] [gI 9 (.pure (.bin .lss)) [tt 8, tt 7]])
(.seq
(.cond (.t 9 false)
.skip
(.exit 0 []))
(.seq
(.block 1
(.seq
(RR [0, 1, 5, 7, 8] [gI 10 .mov [tt 8], gI 5 .mov [tt 10]])
(.seq
(RR [0, 1, 5, 7, 8, 16] [gI 11 .mov [tt 1], gI 12 .mov [tt 0], gI 13 .mov [tt 5], .one ⟨some 14, .pure (.iaddr 1), [tt 12, tt 13], none⟩ (.int .i64), gI 15 (.load 1 false false) [tt 14], gI 16 .callv [tt 11, tt 15]])
(.cond (.t 16 false)
(.seq
(RR [4] [gI 17 .mov [tt 5], gI 4 .mov [tt 17]])
(.ret [4]))
.skip))))
(RR [0, 1, 7, 8] [gI 18 (.pure (.bin .add)) [tt 8, ti 1], gI 8 .mov [tt 18]]))))
def r104 : RFunc := ⟨19,
(.seq
(RR [0, 1] [gI 4 .mov [ti 0]])
(.seq
(.seq
(RR [0, 1, 7, 8] [gI 6 .mov [tt 0], gI 7 (.pure .lenSl) [tt 6], gI 8 .mov [ti 0]])
(.block 0
(.loop 2 [0, 1, 7, 8] l104_2)))
(.seq
(RR [4] [gI 4 .mov [ti (-1)]])
(.ret [4])))),
 [.tmp 4 false], false⟩
def a104 : Ann := mkAnn [] [(2, [0, 1, 7, 8])] false [] [] [(0, [0, 1]), (1, [0, 1, 7, 8]), (2, [0, 1, 7, 8, 9]), (3, [0, 1, 5, 7, 8]), (4, [0, 1, 5, 7, 8, 16]), (5, [4]), (6, [0, 1, 7, 8]), (7, [4])] [] [] [] [(0, []), (1, [0, 1, 7, 8])] [4] [false] [] [(4, 3, (.int .i64))] []
set_option maxRecDepth 100000 in
theorem c104 : convFn Tryd.prog a104 104 = some r104 := by kernel_rfl

/-- internal/stringslite.IndexByte -/
def r106 : RFunc := ⟨8,
(.seq
(RR [0, 1] [gI 4 .mov [ti 0]])
(.seq
(RR [4] [gI 5 .mov [tt 0], gI 6 .mov [tt 1], gI 7 (.call 130) [tt 5, tt 6], gI 4 .mov [tt 7]])
(.ret [4]))),
 [.tmp 4 false], false⟩
def a106 : Ann := mkAnn [] [] false [] [] [(0, [0, 1]), (1, [4])] [] [] [] [] [4] [false] [] [] []
set_option maxRecDepth 100000 in
theorem c106 : convFn Tryd.prog a106 106 = some r106 := by kernel_rfl

/-- internal/bytealg.LastIndexByteString -/
def l113_2 : RCode :=
(.seq
(.seq
(RR [0, 1, 5, 10] [gI 9 .mov [tt 5], gI 10 (.pure (.bin .geq)) [tt 9, ti 0]])
(.cond (.t 10 false)
.skip
(.exit 0 [])))
(.seq
(.block 1
(.seq
(RR [0, 1, 5, 17] [gI 13 .mov [tt 0], gI 14 .mov [tt 5], gI 15 (.pure .idxStr) [tt 13, tt 14], gI 16 .mov [tt 1], gI 17 (.pure (.bin .eql)) [tt 15, tt 16]])
(.cond (.t 17 false)
(.seq
(RR [4] [gI 18 .mov [tt 5], gI 4 .mov [tt 18]])
(.ret [4]))
.skip)))
(RR [0, 1, 5] [gI 11 .mov [tt 5], gI 12 (.pure (.bin .sub)) [tt 11, ti 1], gI 5 .mov [tt 12]])))
def r113 : RFunc := ⟨19,
(.seq
(RR [0, 1] [gI 4 .mov [ti 0]])
(.seq
(.seq
(RR [0, 1, 5] [gI 6 .mov [tt 0], gI 7 (.pure .lenS) [tt 6], gI 8 (.pure (.bin .sub)) [tt 7, ti 1], gI 5 .mov [tt 8]])
(.block 0
(.loop 2 [0, 1, 5] l113_2)))
(.seq
(RR [4] [gI 4 .mov [ti (-1)]])
(.ret [4])))),
 [.tmp 4 false], false⟩
def a113 : Ann := mkAnn [] [(2, [0, 1, 5])] false [] [] [(0, [0, 1]), (1, [0, 1, 5]), (2, [0, 1, 5, 10]), (3, [0, 1, 5]), (4, [0, 1, 5, 17]), (5, [4]), (6, [4])] [] [] [] [(0, []), (1, [0, 1, 5])] [4] [false] [] [] []
set_option maxRecDepth 100000 in
theorem c113 : convFn Tryd.prog a113 113 = some r113 := by kernel_rfl

/-- internal/bytealg.LastIndexRabinKarp[string] -/
def l114_12 : RCode :=
(.seq
(.seq
(RR [0, 1, 5, 6, 7, 9, 11, 52] [gI 51 .mov [tt 11], gI 52 (.pure (.bin .geq)) [tt 51, ti 0]])
(.cond (.t 52 false)
.skip
(.exit 2 [])))
(.seq
(.block 3
(.seq
(RR [0, 1, 5, 6, 7, 9, 11] [gI 55 .mov [tt 9], gI 56 (.pure (.bin .mul)) [tt 55, .c (AV.int .u32 16777619)], gI 9 .mov [tt 56]])
(.seq
(RR [0, 1, 5, 6, 7, 9, 11] [gI 57 .mov [tt 9], gI 58 .mov [tt 0], gI 59 .mov [tt 11], gI 60 (.pure .idxStr) [tt 58, tt 59], gI 61 (.pure (.cvInt .u32)) [tt 60], gI 62 (.pure (.bin .add)) [tt 57, tt 61], gI 9 .mov [tt 62]])
(.seq
(RR [0, 1, 5, 6, 7, 9, 11] [gI 63 .mov [tt 9], gI 64 .mov [tt 6], gI 65 .mov [tt 0], gI 66 .mov [tt 11], gI 67 .mov [tt 7], gI 68 (.pure (.bin .add)) [tt 66, tt 67], gI 69 (.pure .idxStr) [tt 65, tt 68], gI 70 (.pure (.cvInt .u32)) [tt 69], gI 71 (.pure (.bin .mul)) [tt 64, tt 70], gI 72 (.pure (.bin .sub)) [tt 63, tt 71], gI 9 .mov [tt 72]])
(.seq
(RR [0, 1, 5, 6, 7, 9, 11, 85] [gI 73 .mov [tt 9], gI 74 .mov [tt 5], gI 75 (.pure (.bin .eql)) [tt 73, tt 74], gI 76 .mov [tt 75], .sub [(⟨some 77, .mov, [tt 0], some (76, true)⟩, .any),
    (⟨some 78, .mov, [tt 11], some (76, true)⟩, .any),
    (⟨some 79, .mov, [tt 11], some (76, true)⟩, .any),
    (⟨some 80, .mov, [tt 7], some (76, true)⟩, .any),
    (⟨some 81, .pure (.bin .add), [tt 79, tt 80], some (76, true)⟩, .any),
    (⟨some 82, .pure (.sliceStr true true), [tt 77, tt 78, tt 81], some (76, true)⟩, .any),
    (⟨some 83, .mov, [tt 1], some (76, true)⟩, .any),
    (⟨some 84, .pure (.bin .eql), [tt 82, tt 83], some (76, true)⟩, .any),
    (⟨some 85, .pure .pick, [tt 76, tt 84, .c (AV.bool false)], none⟩, .any)] 85])
(.cond (.t 85 false)
(.seq
(RR [4] [gI 86 .mov [tt 11], gI 4 .mov [tt 86]])
(.ret [4]))
.skip))))))
(RR [0, 1, 5, 6, 7, 9, 11] [gI 53 .mov [tt 11], gI 54 (.pure (.bin .sub)) [tt 53, ti 1], gI 11 .mov [tt 54]])))
def l114_6 : RCode :=
(.seq
(.seq
(RR [0, 1, 5, 6, 7, 8, 9, 10, 28] [gI 26 .mov [tt 10], gI 27 .mov [tt 8], gI 28 (.pure (.bin .geq)) [tt 26, tt 27]])
(.cond (.t 28 false)
.skip
(.exit 0 [0, 1, 5, 6, 7, 8, 9])))
(.seq
(.block 1
(RR [0, 1, 5, 6, 7, 8, 9, 10] [gI 31 .mov [tt 9], gI 32 (.pure (.bin .mul)) [tt 31, .c (AV.int .u32 16777619)], gI 33 .mov [tt 0], gI 34 .mov [tt 10], gI 35 (.pure .idxStr) [tt 33, tt 34], gI 36 (.pure (.cvInt .u32)) [tt 35], gI 37 (.pure (.bin .add)) [tt 32, tt 36], gI 9 .mov [tt 37]]))
(RR [0, 1, 5, 6, 7, 8, 9, 10] [gI 29 .mov [tt 10], gI 30 (.pure (.bin .sub)) [tt 29, ti 1], gI 10 .mov [tt 30]])))
def r114 : RFunc := ⟨87,
(.seq
(RR [0, 1] [gI 4 .mov [ti 0]])
(.seq
(RR [0, 1, 5, 6] [gI 13 .mov [tt 1], gI 14 (.call 137) [tt 13], gI 12 .mov [tt 14], gI 15 (.pure (.extract 0)) [tt 12], gI 16 (.pure (.extract 1)) [tt 12], gI 5 .mov [tt 15], gI 6 .mov [tt 16]])
(.seq
(RR [0, 1, 5, 6, 7] [gI 17 .mov [tt 1], gI 18 (.pure .lenS) [tt 17], gI 7 .mov [tt 18]])
(.seq
(RR [0, 1, 5, 6, 7, 8] [gI 19 .mov [tt 0], gI 20 (.pure .lenS) [tt 19], gI 21 .mov [tt 7], gI 22 (.pure (.bin .sub)) [tt 20, tt 21], gI 8 .mov [tt 22]])
(.seq
(RR [0, 1, 5, 6, 7, 8, 9] [gI 9 .mov [.c (AV.int .u32 0)]])
(.seq
(.seq
(RR [0, 1, 5, 6, 7, 8, 9, 10] [gI 23 .mov [tt 0], gI 24 (.pure .lenS) [tt 23], gI 25 (.pure (.bin .sub)) [tt 24, ti 1], gI 10 .mov [tt 25]])
(.block 0
(.loop 6 [0, 1, 5, 6, 7, 8, 9, 10] l114_6)))
(.seq
(.seq
(RR [0, 1, 5, 6, 7, 8, 9, 47] [gI 38 .mov [tt 9], gI 39 .mov [tt 5], gI 40 (.pure (.bin .eql)) [tt 38, tt 39], gI 41 .mov [tt 40], .sub [(⟨some 42, .mov, [tt 0], some (41, true)⟩, .any),
    (⟨some 43, .mov, [tt 8], some (41, true)⟩, .any),
    (⟨some 44, .pure (.sliceStr true false), [tt 42, tt 43], some (41, true)⟩, .any),
    (⟨some 45, .mov, [tt 1], some (41, true)⟩, .any),
    (⟨some 46, .pure (.bin .eql), [tt 44, tt 45], some (41, true)⟩, .any),
    (⟨some 47, .pure .pick, [tt 41, tt 46, .c (AV.bool false)], none⟩, .any)] 47])
(.cond (.t 47 false)
(.seq
(RR [4] [gI 48 .mov [tt 8], gI 4 .mov [tt 48]])
(.ret [4]))
.skip))
(.seq
(.seq
(RR [0, 1, 5, 6, 7, 9, 11] [gI 49 .mov [tt 8], gI 50 (.pure (.bin .sub)) [tt 49, ti 1], gI 11 .mov [tt 50]])
(.block 2
(.loop 12 [0, 1, 5, 6, 7, 9, 11] l114_12)))
(.seq
(RR [4] [gI 4 .mov [ti (-1)]])
(.ret [4])))))))))),
 [.tmp 4 false], false⟩
def a114 : Ann := mkAnn [] [(6, [0, 1, 5, 6, 7, 8, 9, 10]), (12, [0, 1, 5, 6, 7, 9, 11])] false [] [] [(0, [0, 1]), (1, [0, 1, 5, 6]), (2, [0, 1, 5, 6, 7]), (3, [0, 1, 5, 6, 7, 8]), (4, [0, 1, 5, 6, 7, 8, 9]), (5, [0, 1, 5, 6, 7, 8, 9, 10]), (6, [0, 1, 5, 6, 7, 8, 9, 10, 28]), (7, [0, 1, 5, 6, 7, 8, 9, 10]), (8, [0, 1, 5, 6, 7, 8, 9, 10]), (9, [0, 1, 5, 6, 7, 8, 9, 47]), (10, [4]), (11, [0, 1, 5, 6, 7, 9, 11]), (12, [0, 1, 5, 6, 7, 9, 11, 52]), (13, [0, 1, 5, 6, 7, 9, 11]), (14, [0, 1, 5, 6, 7, 9, 11]), (15, [0, 1, 5, 6, 7, 9, 11]), (16, [0, 1, 5, 6, 7, 9, 11]), (17, [0, 1, 5, 6, 7, 9, 11, 85]), (18, [4]), (19, [4])] [] [] [] [(0, [0, 1, 5, 6, 7, 8, 9]), (1, [0, 1, 5, 6, 7, 8, 9, 10]), (2, []), (3, [0, 1, 5, 6, 7, 9, 11])] [4] [false] [(9, [(4, none), (6, some 47)]), (17, [(4, none), (9, some 85)])] [] []
set_option maxRecDepth 100000 in
theorem c114 : convFn Tryd.prog a114 114 = some r114 := by kernel_rfl

/-- drayage/version.letter -/
def r115 : RFunc := ⟨17,
(.seq
(RR [0] [gI 2 .mov [.c (AV.bool false)]])
(.seq
(RR [2] [gI 3 .mov [tt 0], gI 4 (.pure (.bin .geq)) [tt 3, .c (AV.int .u8 97)], gI 5 .mov [tt 4], .sub [(⟨some 6, .mov, [tt 0], some (5, true)⟩, .any),
    (⟨some 7, .pure (.bin .leq), [tt 6, .c (AV.int .u8 122)], some (5, true)⟩, .any),
    (⟨some 8, .pure .pick, [tt 5, tt 7, .c (AV.bool false)], none⟩, .any)] 8, gI 9 .mov [tt 8], .sub [(⟨some 10, .mov, [tt 0], some (9, false)⟩, .any),
    (⟨some 11, .pure (.bin .geq), [tt 10, .c (AV.int .u8 65)], some (9, false)⟩, .any),
    (⟨some 12, .mov, [tt 11], some (9, false)⟩, .any),
    (⟨some 13, .mov, [tt 0], some (12, true)⟩, .any),
    (⟨some 14, .pure (.bin .leq), [tt 13, .c (AV.int .u8 90)], some (12, true)⟩, .any),
    (⟨some 15, .pure .pick, [tt 12, tt 14, .c (AV.bool false)], some (9, false)⟩, .any),
    (⟨some 16, .pure .pick, [tt 9, .c (AV.bool true), tt 15], none⟩, .any)] 16, gI 2 .mov [tt 16]])
(.ret [2]))),
 [.tmp 2 false], false⟩
def a115 : Ann := mkAnn [] [] false [] [] [(0, [0]), (1, [2])] [] [] [] [] [2] [false] [(1, [(3, none), (3, some 8), (1, none), (7, some 16)])] [] []
set_option maxRecDepth 100000 in
theorem c115 : convFn Tryd.prog a115 115 = some r115 := by kernel_rfl

/-- internal/stringslite.Index -/
def k122_21 : RCode :=
(.seq
(.seq
(RR [0, 1, 5, 6, 7, 8, 9, 10, 93] [gI 78 .mov [tt 0], gI 79 .mov [tt 8], gI 80 (.pure (.bin .add)) [tt 79, ti 1], gI 81 (.pure .idxStr) [tt 78, tt 80], gI 82 .mov [tt 7], gI 83 (.pure (.bin .eql)) [tt 81, tt 82], gI 84 .mov [tt 83], .sub [(⟨some 85, .mov, [tt 0], some (84, true)⟩, .any),
    (⟨some 86, .mov, [tt 8], some (84, true)⟩, .any),
    (⟨some 87, .mov, [tt 8], some (84, true)⟩, .any),
    (⟨some 88, .mov, [tt 5], some (84, true)⟩, .any),
    (⟨some 89, .pure (.bin .add), [tt 87, tt 88], some (84, true)⟩, .any),
    (⟨some 90, .pure (.sliceStr true true), [tt 85, tt 86, tt 89], some (84, true)⟩, .any),
    (⟨some 91, .mov, [tt 1], some (84, true)⟩, .any),
    (⟨some 92, .pure (.bin .eql), [tt 90, tt 91], some (84, true)⟩, .any),
    (⟨some 93, .pure .pick, [tt 84, tt 92, .c (AV.bool false)], none⟩, .any)] 93])
(.cond (.t 93 false)
(.seq
(RR [4] [gI 94 .mov [tt 8], gI 4 .mov [tt 94]])
(.ret [4]))
.skip))
(.seq
(RR [0, 1, 5, 6, 7, 8, 9, 10] [gI 95 .mov [tt 8], gI 96 (.pure (.bin .add)) [tt 95, ti 1], gI 8 .mov [tt 96]])
(.seq
(RR [0, 1, 5, 6, 7, 8, 9, 10] [gI 97 .mov [tt 10], gI 98 (.pure (.bin .add)) [tt 97, ti 1], gI 10 .mov [tt 98]])
(.seq
(RR [0, 1, 5, 6, 7, 8, 9, 10, 107] [gI 99 .mov [tt 5], gI 100 .bad [], gI 101 (.pure (.bin .leq)) [tt 99, tt 100], gI 102 .mov [tt 101], .sub [(⟨some 103, .mov, [tt 10], some (102, true)⟩, .any),
    (⟨some 104, .mov, [tt 8], some (102, true)⟩, .any),
    (⟨some 105, .call 142, [tt 104], some (102, true)⟩, .any),
    (⟨some 106, .pure (.bin .gtr), [tt 103, tt 105], some (102, true)⟩, .any),
    (⟨some 107, .pure .pick, [tt 102, tt 106, .c (AV.bool false)], none⟩, .any)] 107])
(.cond (.t 107 false)
(.seq
(RR [8, 12] [gI 108 .mov [tt 0], gI 109 .mov [tt 8], gI 110 (.pure (.sliceStr true false)) [tt 108, tt 109], gI 111 .mov [tt 1], gI 112 (.call 141) [tt 110, tt 111], gI 12 .mov [tt 112]])
(.seq
(.seq
(RR [8, 12, 114] [gI 113 .mov [tt 12], gI 114 (.pure (.bin .geq)) [tt 113, ti 0]])
(.cond (.t 114 false)
(.seq
(RR [4] [gI 115 .mov [tt 12], gI 116 .mov [tt 8], gI 117 (.pure (.bin .add)) [tt 115, tt 116], gI 4 .mov [tt 117]])
(.ret [4]))
.skip))
(.seq
(RR [4] [gI 4 .mov [ti (-1)]])
(.ret [4]))))
(.seq
(RR [0, 1, 5, 6, 7, 8, 9, 10, 132] [gI 118 .mov [tt 5], gI 119 .bad [], gI 120 (.pure (.bin .gtr)) [tt 118, tt 119], gI 121 .mov [tt 120], .sub [(⟨some 122, .mov, [tt 10], some (121, true)⟩, .any),
    (⟨some 123, .mov, [tt 8], some (121, true)⟩, .any),
    (⟨some 124, .pure (.bin .shr), [tt 123, .c (AV.int .u64 4)], some (121, true)⟩, .any),
    (⟨some 125, .pure (.bin .add), [ti 4, tt 124], some (121, true)⟩, .any),
    (⟨some 126, .pure (.bin .geq), [tt 122, tt 125], some (121, true)⟩, .any),
    (⟨some 127, .pure .pick, [tt 121, tt 126, .c (AV.bool false)], none⟩, .any)] 127, gI 128 .mov [tt 127], .sub [(⟨some 129, .mov, [tt 8], some (128, true)⟩, .any),
    (⟨some 130, .mov, [tt 9], some (128, true)⟩, .any),
    (⟨some 131, .pure (.bin .lss), [tt 129, tt 130], some (128, true)⟩, .any),
    (⟨some 132, .pure .pick, [tt 128, tt 131, .c (AV.bool false)], none⟩, .any)] 132])
(.cond (.t 132 false)
(.seq
(RR [8, 13] [gI 133 .mov [tt 0], gI 134 .mov [tt 8], gI 135 (.pure (.sliceStr true false)) [tt 133, tt 134], gI 136 .mov [tt 1], gI 137 (.call 143) [tt 135, tt 136], gI 13 .mov [tt 137]])
(.seq
(.seq
(RR [8, 13, 139] [gI 138 .mov [tt 13], gI 139 (.pure (.bin .lss)) [tt 138, ti 0]])
(.cond (.t 139 false)
(.seq
(RR [4] [gI 4 .mov [ti (-1)]])
(.ret [4]))
.skip))
(.seq
(RR [4] [gI 140 .mov [tt 8], gI 141 .mov [tt 13], gI 142 (.pure (.bin .add)) [tt 140, tt 141], gI 4 .mov [tt 142]])
(.ret [4]))))
.skip)))))))
def l122_15 : RCode :=
(.seq
(.seq
(RR [0, 1, 5, 6, 7, 8, 9, 10, 59] [gI 57 .mov [tt 8], gI 58 .mov [tt 9], gI 59 (.pure (.bin .lss)) [tt 57, tt 58]])
(.cond (.t 59 false)
.skip
(.exit 1 [])))
(.block 2
(.seq
(.seq
(RR [0, 1, 5, 6, 7, 8, 9, 10, 64] [gI 60 .mov [tt 0], gI 61 .mov [tt 8], gI 62 (.pure .idxStr) [tt 60, tt 61], gI 63 .mov [tt 6], gI 64 (.pure (.bin .neq)) [tt 62, tt 63]])
(.cond (.t 64 false)
(.seq
(RR [0, 1, 5, 6, 7, 8, 9, 10, 11] [gI 65 .mov [tt 0], gI 66 .mov [tt 8], gI 67 (.pure (.bin .add)) [tt 66, ti 1], gI 68 .mov [tt 9], gI 69 (.pure (.sliceStr true true)) [tt 65, tt 67, tt 68], gI 70 .mov [tt 6], gI 71 (.call 106) [tt 69, tt 70], gI 11 .mov [tt 71]])
(.seq
(.seq
(RR [0, 1, 5, 6, 7, 8, 9, 10, 11, 73] [gI 72 .mov [tt 11], gI 73 (.pure (.bin .lss)) [tt 72, ti 0]])
(.cond (.t 73 false)
(.seq
(RR [4] [gI 4 .mov [ti (-1)]])
(.ret [4]))
.skip))
(RR [0, 1, 5, 6, 7, 8, 9, 10] [gI 74 .mov [tt 8], gI 75 .mov [tt 11], gI 76 (.pure (.bin .add)) [tt 75, ti 1], gI 77 (.pure (.bin .add)) [tt 74, tt 76], gI 8 .mov [tt 77]])))
.skip))
(.cut 100021 [0, 1, 5, 6, 7, 8, 9, 10] [0, 1, 5, 6, 7, 8, 9, 10] k122_21))))
def r122 : RFunc := ⟨143,
(.seq
(RR [0, 1] [gI 4 .mov [ti 0]])
(.seq
(RR [0, 1, 5] [gI 14 .mov [tt 1], gI 15 (.pure .lenS) [tt 14], gI 5 .mov [tt 15]])
(.seq
(.block 0
(.seq
(RR [0, 1, 5, 16] [gI 17 .mov [tt 5], gI 18 (.pure (.bin .eql)) [tt 17, ti 0], gI 19 .mov [tt 18], .sub [(⟨some 20, .mov, [tt 1], some (19, false)⟩, .any),
    (⟨some 21, .mov, [tt 0], some (19, false)⟩, .any),
    (⟨some 22, .pure (.bin .eql), [tt 20, tt 21], some (19, false)⟩, .any),
    (⟨some 23, .pure .pick, [tt 19, .c (AV.bool true), tt 22], none⟩, .any)] 23, gI 16 .mov [tt 23]])
(.cond (.t 16 false)
(.seq
(RR [4] [gI 4 .mov [ti 0]])
(.ret [4]))
(.seq
(RR [0, 1, 5, 24] [gI 25 .mov [tt 5], gI 26 (.pure (.bin .eql)) [tt 25, ti 1], gI 24 .mov [tt 26]])
(.cond (.t 24 false)
(.seq
(RR [4] [gI 27 .mov [tt 0], gI 28 .mov [tt 1], gI 29 (.pure .idxStr) [tt 28, ti 0], gI 30 (.call 106) [tt 27, tt 29], gI 4 .mov [tt 30]])
(.ret [4]))
(.seq
(RR [0, 1, 5, 31] [gI 32 .mov [tt 5], gI 33 .mov [tt 0], gI 34 (.pure .lenS) [tt 33], gI 35 (.pure (.bin .geq)) [tt 32, tt 34], gI 31 .mov [tt 35]])
(.cond (.t 31 false)
(.seq
(RR [4] [gI 4 .mov [ti (-1)]])
(.ret [4]))
(.seq
(RR [0, 1, 5, 36] [gI 37 .mov [tt 5], gI 38 .bad [], gI 39 (.pure (.bin .leq)) [tt 37, tt 38], gI 40 .mov [tt 39], .sub [(⟨some 41, .mov, [tt 0], some (40, true)⟩, .any),
    (⟨some 42, .pure .lenS, [tt 41], some (40, true)⟩, .any),
    (⟨some 43, .pure (.bin .leq), [tt 42, ti 64], some (40, true)⟩, .any),
    (⟨some 44, .pure .pick, [tt 40, tt 43, .c (AV.bool false)], none⟩, .any)] 44, gI 36 .mov [tt 44]])
(.cond (.t 36 false)
(.seq
(RR [4] [gI 45 .mov [tt 0], gI 46 .mov [tt 1], gI 47 (.call 141) [tt 45, tt 46], gI 4 .mov [tt 47]])
(.ret [4]))
.skip)))))))))
(.seq
(RR [0, 1, 5, 6] [gI 48 .mov [tt 1], gI 49 (.pure .idxStr) [tt 48, ti 0], gI 6 .mov [tt 49]])
(.seq
(RR [0, 1, 5, 6, 7] [gI 50 .mov [tt 1], gI 51 (.pure .idxStr) [tt 50, ti 1], gI 7 .mov [tt 51]])
(.seq
(RR [0, 1, 5, 6, 7, 8] [gI 8 .mov [ti 0]])
(.seq
(RR [0, 1, 5, 6, 7, 8, 9] [gI 52 .mov [tt 0], gI 53 (.pure .lenS) [tt 52], gI 54 .mov [tt 5], gI 55 (.pure (.bin .sub)) [tt 53, tt 54], gI 56 (.pure (.bin .add)) [tt 55, ti 1], gI 9 .mov [tt 56]])
(.seq
(RR [0, 1, 5, 6, 7, 8, 9, 10] [gI 10 .mov [ti 0]])
(.seq
(.block 1
(.loop 15 [0, 1, 5, 6, 7, 8, 9, 10] l122_15))
(.seq
(RR [4] [gI 4 .mov [ti (-1)]])
(.ret [4]))))))))))),
 [.tmp 4 false], false⟩
def a122 : Ann := mkAnn [] [(15, [0, 1, 5, 6, 7, 8, 9, 10])] false [] [] [(0, [0, 1]), (1, [0, 1, 5]), (2, [0, 1, 5, 16]), (3, [4]), (4, [0, 1, 5, 24]), (5, [4]), (6, [0, 1, 5, 31]), (7, [4]), (8, [0, 1, 5, 36]), (9, [4]), (10, [0, 1, 5, 6]), (11, [0, 1, 5, 6, 7]), (12, [0, 1, 5, 6, 7, 8]), (13, [0, 1, 5, 6, 7, 8, 9]), (14, [0, 1, 5, 6, 7, 8, 9, 10]), (15, [0, 1, 5, 6, 7, 8, 9, 10, 59]), (16, [0, 1, 5, 6, 7, 8, 9, 10, 64]), (17, [0, 1, 5, 6, 7, 8, 9, 10, 11]), (18, [0, 1, 5, 6, 7, 8, 9, 10, 11, 73]), (19, [4]), (20, [0, 1, 5, 6, 7, 8, 9, 10]), (21, [0, 1, 5, 6, 7, 8, 9, 10, 93]), (22, [4]), (23, [0, 1, 5, 6, 7, 8, 9, 10]), (24, [0, 1, 5, 6, 7, 8, 9, 10]), (25, [0, 1, 5, 6, 7, 8, 9, 10, 107]), (26, [8, 12]), (27, [8, 12, 114]), (28, [4]), (29, [4]), (30, [0, 1, 5, 6, 7, 8, 9, 10, 132]), (31, [8, 13]), (32, [8, 13, 139]), (33, [4]), (34, [4]), (35, [4])] [] [] [(21, [0, 1, 5, 6, 7, 8, 9, 10], [0, 1, 5, 6, 7, 8, 9, 10])] [(0, [0, 1, 5]), (1, []), (2, [0, 1, 5, 6, 7, 8, 9, 10])] [4] [false] [(2, [(3, none), (4, some 23)]), (8, [(4, none), (4, some 44)]), (21, [(7, none), (9, some 93)]), (25, [(4, none), (5, some 107)]), (30, [(4, none), (6, some 127), (1, none), (4, some 132)])] [] []
set_option maxRecDepth 100000 in
theorem c122 : convFn Tryd.prog a122 122 = some r122 := by kernel_rfl

/-- drayage/codec.number -/
def l123_3 : RCode :=
(.seq
(RR [1, 6, 10, 11, 12, 13] [gI 13 (.pure (.bin .lss)) [tt 12, tt 11]])
(.seq
(.cond (.t 13 false)
.skip
(.exit 0 [6]))
(.seq
(.block 1
(.seq
(RR [1, 6, 8, 10, 11, 12] [.one ⟨some 14, .pure (.iaddr 1), [tt 10, tt 12], none⟩ (.int .u8), gI 15 (.load 1 false false) [tt 14], gI 8 .mov [tt 15]])
(.seq
(.seq
(RR [1, 6, 8, 10, 11, 12, 23] [gI 16 .mov [tt 6], gI 17 .mov [tt 8], gI 18 (.pure (.bin .sub)) [tt 17, .c (AV.int .u8 48)], gI 19 (.pure (.cvInt .i64)) [tt 18], gI 20 (.pure (.bin .sub)) [ti 4611686018427387903, tt 19], gI 21 .mov [tt 1], gI 22 (.pure (.bin .quo)) [tt 20, tt 21], gI 23 (.pure (.bin .gtr)) [tt 16, tt 22]])
(.cond (.t 23 false)
(.seq
(RR [4, 5] [gI 4 .mov [ti 0], gI 5 .mov [.c (AV.bool false)]])
(.ret [4, 5]))
.skip))
(RR [1, 6, 10, 11, 12] [gI 24 .mov [tt 6], gI 25 .mov [tt 1], gI 26 (.pure (.bin .mul)) [tt 24, tt 25], gI 27 .mov [tt 8], gI 28 (.pure (.bin .sub)) [tt 27, .c (AV.int .u8 48)], gI 29 (.pure (.cvInt .i64)) [tt 28], gI 30 (.pure (.bin .add)) [tt 26, tt 29], gI 6 .mov [tt 30]]))))
(RR [1, 6, 10, 11, 12] [gI 31 (.pure (.bin .add)) [tt 12, ti 1], gI 12 .mov [tt 31]]))))
def r123 : RFunc := ⟨33,
(.seq
(RR [0, 1] [gI 4 .mov [ti 0], gI 5 .mov [.c (AV.bool false)]])
(.seq
(RR [0, 1, 6] [gI 6 .mov [ti 0]])
(.seq
(.seq
(RR [1, 6, 10, 11, 12] [gI 9 .mov [tt 0], gI 10 .cvSB [tt 9], gI 11 (.pure .lenSl) [tt 10], gI 12 .mov [ti 0]])
(.block 0
(.loop 3 [1, 6, 10, 11, 12] l123_3)))
(.seq
(RR [4, 5] [gI 32 .mov [tt 6], gI 4 .mov [tt 32], gI 5 .mov [.c (AV.bool true)]])
(.ret [4, 5]))))),
 [.tmp 4 false, .tmp 5 false], false⟩
def a123 : Ann := mkAnn [] [(3, [1, 6, 10, 11, 12])] false [] [] [(0, [0, 1]), (1, [0, 1, 6]), (2, [1, 6, 10, 11, 12]), (3, [1, 6, 10, 11, 12, 13]), (4, [1, 6, 8, 10, 11, 12]), (5, [1, 6, 8, 10, 11, 12, 23]), (6, [4, 5]), (7, [1, 6, 10, 11, 12]), (8, [1, 6, 10, 11, 12]), (9, [4, 5])] [] [] [] [(0, [6]), (1, [1, 6, 10, 11, 12])] [4, 5] [false, false] [] [(4, 0, (.int .u8))] []
set_option maxRecDepth 100000 in
theorem c123 : convFn Tryd.prog a123 123 = some r123 := by kernel_rfl

/-- drayage/drayageref12.pieces -/
def k124_26 : RCode :=
(.seq
(RR [0, 3, 5] [gI 78 .mov [.t 3 true], gI 79 .mov [tt 9], gI 80 .mov [tt 6], gI 81 (.build [AV.int .i64 0, AV.int .i64 0, AV.str []] [(0, 1), (1, 1)]) [tt 79, tt 80], gI 82 (.bslice 3 true 1) [tt 81], gI 83 (.append 3 32 false) [.t 78 true, tt 82], gI 3 .mov [.t 83 true]])
(.seq
(RR [0, 3] [gI 84 .mov [tt 0], gI 85 .mov [tt 5], gI 86 (.pure (.sliceStr true false)) [tt 84, tt 85], gI 0 .mov [tt 86]])
(.seq
(RR [0, 3, 10] [gI 87 .mov [tt 0], gI 88 (.call 102) [tt 87], gI 10 .mov [tt 88]])
(.seq
(RR [0, 3, 10, 90] [gI 89 .mov [tt 10], gI 90 (.pure (.bin .gtr)) [tt 89, ti 0]])
(.cond (.t 90 false)
(.seq
(RR [0, 3, 10] [gI 91 .mov [.t 3 true], gI 92 .mov [tt 0], gI 93 .mov [tt 10], gI 94 (.pure (.sliceStr false true)) [tt 92, tt 93], gI 95 (.build [AV.int .i64 0, AV.int .i64 0, AV.str []] [(0, 1), (2, 1)]) [ti 3, tt 94], gI 96 (.bslice 3 true 1) [tt 95], gI 97 (.append 3 32 false) [.t 91 true, tt 96], gI 3 .mov [.t 97 true]])
(RR [0, 3] [gI 98 .mov [tt 0], gI 99 .mov [tt 10], gI 100 (.pure (.sliceStr true false)) [tt 98, tt 99], gI 0 .mov [tt 100]]))
.skip)))))
def l124_17 : RCode :=
(.seq
(.seq
(RR [0, 3, 5, 6, 7, 8, 62] [gI 59 .mov [tt 8], gI 60 .mov [tt 7], gI 61 (.pure .lenSl) [tt 60], gI 62 (.pure (.bin .lss)) [tt 59, tt 61]])
(.cond (.t 62 false)
.skip
(.exit 4 [0, 3, 5, 6])))
(.seq
(.block 5
(.seq
(.region (some ([], [])) [0, 3, 5, 6, 7, 8, 72] [gI 65 .mov [tt 7], gI 66 .mov [tt 8], .one ⟨some 67, .pure (.iaddr 1), [tt 65, tt 66], none⟩ .str, gI 68 (.load 1 false false) [tt 67], gI 69 .mov [tt 0], gI 70 .mov [tt 5], gI 71 (.pure (.sliceStr true true)) [tt 69, ti 1, tt 70], gI 72 (.pure (.bin .eql)) [tt 68, tt 71]])
(.cond (.t 72 false)
(RR [0, 3, 5, 6, 7, 8] [gI 73 .mov [tt 8], gI 6 .mov [tt 73]])
.skip)))
(RR [0, 3, 5, 6, 7, 8] [gI 63 .mov [tt 8], gI 64 (.pure (.bin .add)) [tt 63, ti 1], gI 8 .mov [tt 64]])))
def l124_12 : RCode :=
(.seq
(.seq
(RR [0, 3, 53] [gI 52 .mov [tt 0], gI 53 (.call 144) [tt 52, .c (AV.int .u8 95)]])
(.cond (.t 53 false)
.skip
(.exit 2 [0, 3])))
(.block 3
(.seq
(RR [0, 3, 5] [gI 54 .mov [tt 0], gI 55 (.pure (.sliceStr true false)) [tt 54, ti 1], gI 56 (.call 145) [tt 55], gI 57 (.pure (.bin .add)) [ti 1, tt 56], gI 5 .mov [tt 57]])
(.seq
(RR [0, 3, 5, 6] [gI 6 .mov [ti (-1)]])
(.seq
(RR [0, 3, 5, 6, 7] [gI 58 (.call 146) [], gI 7 .mov [tt 58]])
(.seq
(.seq
(RR [0, 3, 5, 6, 7, 8] [gI 8 .mov [ti 0]])
(.block 4
(.loop 17 [0, 3, 5, 6, 7, 8] l124_17)))
(.seq
(.seq
(RR [0, 3, 5, 6, 75] [gI 74 .mov [tt 6], gI 75 (.pure (.bin .lss)) [tt 74, ti 0]])
(.cond (.t 75 false)
(.seq
(RR [2] [gI 2 .mov [.c (AV.sl false 3 [])]])
(.ret [2]))
.skip))
(.seq
(RR [0, 3, 5, 6, 9] [gI 9 .mov [ti 4]])
(.seq
(.seq
(RR [0, 3, 5, 6, 9, 77] [gI 76 .mov [tt 6], gI 77 (.pure (.bin .lss)) [tt 76, ti 4]])
(.cond (.t 77 false)
(RR [0, 3, 5, 6, 9] [gI 9 .mov [ti 0]])
.skip))
(.cut 100026 [0, 3, 5, 6, 9] [0, 3] k124_26))))))))))
def k124_12 : RCode :=
(.seq
(.block 2
(.loop 12 [0, 3] l124_12))
(.seq
(.seq
(RR [0, 3, 114] [gI 101 .mov [tt 0], gI 102 (.pure .lenS) [tt 101], gI 103 (.pure (.bin .gtr)) [tt 102, ti 2], gI 104 .mov [tt 103], .sub [(⟨some 105, .mov, [tt 0], some (104, true)⟩, .any),
    (⟨some 106, .pure (.sliceStr false true), [tt 105, ti 2], some (104, true)⟩, .any),
    (⟨some 107, .pure (.bin .eql), [tt 106, .c (AV.str [45, 114])], some (104, true)⟩, .any),
    (⟨some 108, .pure .pick, [tt 104, tt 107, .c (AV.bool false)], none⟩, .any)] 108, gI 109 .mov [tt 108], .sub [(⟨some 110, .mov, [tt 0], some (109, true)⟩, .any),
    (⟨some 111, .pure (.sliceStr true false), [tt 110, ti 2], some (109, true)⟩, .any),
    (⟨some 112, .call 102, [tt 111], some (109, true)⟩, .any),
    (⟨some 113, .pure (.bin .gtr), [tt 112, ti 0], some (109, true)⟩, .any),
    (⟨some 114, .pure .pick, [tt 109, tt 113, .c (AV.bool false)], none⟩, .any)] 114])
(.cond (.t 114 false)
(.seq
(RR [0, 3, 11] [gI 115 .mov [tt 0], gI 116 (.pure (.sliceStr true false)) [tt 115, ti 2], gI 117 (.call 102) [tt 116], gI 118 (.pure (.bin .add)) [ti 2, tt 117], gI 11 .mov [tt 118]])
(.seq
(RR [0, 3, 11] [gI 119 .mov [.t 3 true], gI 120 .mov [tt 0], gI 121 .mov [tt 11], gI 122 (.pure (.sliceStr true true)) [tt 120, ti 2, tt 121], gI 123 (.build [AV.int .i64 0, AV.int .i64 0, AV.str []] [(0, 1), (2, 1)]) [ti 2, tt 122], gI 124 (.bslice 3 true 1) [tt 123], gI 125 (.append 3 32 false) [.t 119 true, tt 124], gI 3 .mov [.t 125 true]])
(RR [0, 3] [gI 126 .mov [tt 0], gI 127 .mov [tt 11], gI 128 (.pure (.sliceStr true false)) [tt 126, tt 127], gI 0 .mov [tt 128]])))
.skip))
(.seq
(.seq
(RR [3, 130] [gI 129 .mov [tt 0], gI 130 (.pure (.bin .neq)) [tt 129, .c (AV.str [])]])
(.cond (.t 130 false)
(.seq
(RR [2] [gI 2 .mov [.c (AV.sl false 3 [])]])
(.ret [2]))
.skip))
(.seq
(RR [2] [gI 131 .mov [tt 3], gI 2 .mov [tt 131]])
(.ret [2])))))
def l124_2 : RCode :=
(.block 1
(.seq
(RR [0, 3, 4] [gI 12 .mov [tt 0], gI 13 (.call 102) [tt 12], gI 4 .mov [tt 13]])
(.seq
(.seq
(RR [0, 3, 4, 15] [gI 14 .mov [tt 4], gI 15 (.pure (.bin .eql)) [tt 14, ti 0]])
(.cond (.t 15 false)
(.seq
(RR [2] [gI 2 .mov [.c (AV.sl false 3 [])]])
(.ret [2]))
.skip))
(.seq
(RR [0, 3, 4] [gI 16 .mov [.t 3 true], gI 17 .mov [tt 0], gI 18 .mov [tt 4], gI 19 (.pure (.sliceStr false true)) [tt 17, tt 18], gI 20 (.build [AV.int .i64 0, AV.int .i64 0, AV.str []] [(0, 1), (2, 1)]) [ti 6, tt 19], gI 21 (.bslice 3 true 1) [tt 20], gI 22 (.append 3 32 false) [.t 16 true, tt 21], gI 3 .mov [.t 22 true]])
(.seq
(RR [0, 3] [gI 23 .mov [tt 0], gI 24 .mov [tt 4], gI 25 (.pure (.sliceStr true false)) [tt 23, tt 24], gI 0 .mov [tt 25]])
(.seq
(.seq
(RR [0, 3, 28] [gI 26 .mov [tt 0], gI 27 (.call 144) [tt 26, .c (AV.int .u8 46)], gI 28 (.pure (.un .not)) [tt 27]])
(.cond (.t 28 false)
(.exit 0 [0, 3])
.skip))
(RR [0, 3] [gI 29 .mov [tt 0], gI 30 (.pure (.sliceStr true false)) [tt 29, ti 1], gI 0 .mov [tt 30]])))))))
def r124 : RFunc := ⟨132,
(.seq
(RR [0] [gI 2 .mov [.c (AV.sl false 3 [])]])
(.seq
(RR [0, 3] [gI 3 .mov [.c (AV.sl true 3 [])]])
(.seq
(.block 0
(.loop 2 [0, 3] l124_2))
(.seq
(.seq
(RR [0, 3, 43] [gI 31 .mov [tt 0], gI 32 (.pure .lenS) [tt 31], gI 33 (.pure (.bin .gtr)) [tt 32, ti 0], gI 34 .mov [tt 33], .sub [(⟨some 35, .mov, [tt 0], some (34, true)⟩, .any),
    (⟨some 36, .pure .idxStr, [tt 35, ti 0], some (34, true)⟩, .any),
    (⟨some 37, .pure (.bin .geq), [tt 36, .c (AV.int .u8 97)], some (34, true)⟩, .any),
    (⟨some 38, .pure .pick, [tt 34, tt 37, .c (AV.bool false)], none⟩, .any)] 38, gI 39 .mov [tt 38], .sub [(⟨some 40, .mov, [tt 0], some (39, true)⟩, .any),
    (⟨some 41, .pure .idxStr, [tt 40, ti 0], some (39, true)⟩, .any),
    (⟨some 42, .pure (.bin .leq), [tt 41, .c (AV.int .u8 122)], some (39, true)⟩, .any),
    (⟨some 43, .pure .pick, [tt 39, tt 42, .c (AV.bool false)], none⟩, .any)] 43])
(.cond (.t 43 false)
(.seq
(RR [0, 3] [gI 44 .mov [.t 3 true], gI 45 .mov [tt 0], gI 46 (.pure (.sliceStr false true)) [tt 45, ti 1], gI 47 (.build [AV.int .i64 0, AV.int .i64 0, AV.str []] [(0, 1), (2, 1)]) [ti 5, tt 46], gI 48 (.bslice 3 true 1) [tt 47], gI 49 (.append 3 32 false) [.t 44 true, tt 48], gI 3 .mov [.t 49 true]])
(RR [0, 3] [gI 50 .mov [tt 0], gI 51 (.pure (.sliceStr true false)) [tt 50, ti 1], gI 0 .mov [tt 51]]))
.skip))
(.cut 100012 [0, 3] [2] k124_12))))),
 [.tmp 2 false], false⟩
def a124 : Ann := mkAnn [(1, 0, [true]), (5, 0, [true]), (5, 6, [true]), (5, 7, [true]), (10, 0, [true]), (10, 5, [true]), (10, 6, [true]), (26, 0, [true]), (26, 5, [true]), (26, 6, [true]), (30, 0, [true]), (30, 6, [true]), (30, 7, [true]), (34, 0, [true]), (34, 6, [true]), (34, 7, [true])] [(2, [0, 3]), (12, [0, 3]), (17, [0, 3, 5, 6, 7, 8])] false [(19, [])] [] [(0, [0]), (1, [0, 3]), (2, [0, 3, 4]), (3, [0, 3, 4, 15]), (4, [2]), (5, [0, 3, 4]), (6, [0, 3]), (7, [0, 3, 28]), (8, [0, 3]), (9, [0, 3, 43]), (10, [0, 3]), (11, [0, 3]), (12, [0, 3, 53]), (13, [0, 3, 5]), (14, [0, 3, 5, 6]), (15, [0, 3, 5, 6, 7]), (16, [0, 3, 5, 6, 7, 8]), (17, [0, 3, 5, 6, 7, 8, 62]), (18, [0, 3, 5, 6, 7, 8]), (19, [0, 3, 5, 6, 7, 8, 72]), (20, [0, 3, 5, 6, 7, 8]), (21, [0, 3, 5, 6, 75]), (22, [2]), (23, [0, 3, 5, 6, 9]), (24, [0, 3, 5, 6, 9, 77]), (25, [0, 3, 5, 6, 9]), (26, [0, 3, 5]), (27, [0, 3]), (28, [0, 3, 10]), (29, [0, 3, 10, 90]), (30, [0, 3, 10]), (31, [0, 3]), (32, [0, 3, 114]), (33, [0, 3, 11]), (34, [0, 3, 11]), (35, [0, 3]), (36, [3, 130]), (37, [2]), (38, [2])] [] [(0, 0, [6]), (1, 0, [7]), (4, 0, [6]), (22, 0, [6]), (37, 0, [6])] [(12, [0, 3], [2]), (26, [0, 3, 5, 6, 9], [0, 3])] [(0, [0, 3]), (1, [0, 3]), (2, [0, 3]), (3, [0, 3]), (4, [0, 3, 5, 6]), (5, [0, 3, 5, 6, 7, 8])] [2] [false] [(9, [(4, none), (4, some 38), (1, none), (4, some 43)]), (32, [(4, none), (4, some 108), (1, none), (5, some 114)])] [(19, 2, .str)] []
set_option maxRecDepth 100000 in
theorem c124 : convFn Tryd.prog a124 124 = some r124 := by kernel_rfl

/-- drayage/drayageref12.place -/
def l125_2 : RCode :=
(.seq
(.seq
(RR [0, 1, 5, 10] [gI 9 .mov [tt 5], gI 10 (.pure (.bin .geq)) [tt 9, ti 0]])
(.cond (.t 10 false)
.skip
(.exit 0 [])))
(.seq
(.block 1
(.seq
(RR [0, 1, 5, 17] [gI 13 .mov [tt 0], gI 14 .mov [tt 5], gI 15 (.pure .idxStr) [tt 13, tt 14], gI 16 .mov [tt 1], gI 17 (.pure (.bin .eql)) [tt 15, tt 16]])
(.cond (.t 17 false)
(.seq
(RR [4] [gI 18 .mov [tt 5], gI 4 .mov [tt 18]])
(.ret [4]))
.skip)))
(RR [0, 1, 5] [gI 11 .mov [tt 5], gI 12 (.pure (.bin .sub)) [tt 11, ti 1], gI 5 .mov [tt 12]])))
def r125 : RFunc := ⟨19,
(.seq
(RR [0, 1] [gI 4 .mov [ti 0]])
(.seq
(.seq
(RR [0, 1, 5] [gI 6 .mov [tt 0], gI 7 (.pure .lenS) [tt 6], gI 8 (.pure (.bin .sub)) [tt 7, ti 1], gI 5 .mov [tt 8]])
(.block 0
(.loop 2 [0, 1, 5] l125_2)))
(.seq
(RR [4] [gI 4 .mov [ti (-1)]])
(.ret [4])))),
 [.tmp 4 false], false⟩
def a125 : Ann := mkAnn [] [(2, [0, 1, 5])] false [] [] [(0, [0, 1]), (1, [0, 1, 5]), (2, [0, 1, 5, 10]), (3, [0, 1, 5]), (4, [0, 1, 5, 17]), (5, [4]), (6, [4])] [] [] [] [(0, []), (1, [0, 1, 5])] [4] [false] [] [] []
set_option maxRecDepth 100000 in
theorem c125 : convFn Tryd.prog a125 125 = some r125 := by kernel_rfl

/-- drayage/drayageref12.made -/
def l126_2 : RCode :=
(.seq
(.seq
(RR [0, 1, 5, 9] [gI 6 .mov [tt 5], gI 7 .mov [tt 0], gI 8 (.pure .lenS) [tt 7], gI 9 (.pure (.bin .lss)) [tt 6, tt 8]])
(.cond (.t 9 false)
.skip
(.exit 0 [0])))
(.seq
(.block 1
(.seq
(RR [0, 1, 5, 31] [gI 12 .mov [tt 0], gI 13 .mov [tt 5], gI 14 (.pure .idxStr) [tt 12, tt 13], gI 15 (.call 127) [tt 14], gI 16 (.pure (.un .not)) [tt 15], gI 17 .mov [tt 16], .sub [(⟨some 18, .mov, [tt 0], some (17, true)⟩, .any),
    (⟨some 19, .mov, [tt 5], some (17, true)⟩, .any),
    (⟨some 20, .pure .idxStr, [tt 18, tt 19], some (17, true)⟩, .any),
    (⟨some 21, .call 147, [tt 20], some (17, true)⟩, .any),
    (⟨some 22, .pure (.un .not), [tt 21], some (17, true)⟩, .any),
    (⟨some 23, .pure .pick, [tt 17, tt 22, .c (AV.bool false)], none⟩, .any)] 23, gI 24 .mov [tt 23], .sub [(⟨some 25, .mov, [tt 0], some (24, true)⟩, .any),
    (⟨some 26, .mov, [tt 5], some (24, true)⟩, .any),
    (⟨some 27, .pure .idxStr, [tt 25, tt 26], some (24, true)⟩, .any),
    (⟨some 28, .mov, [tt 1], some (24, true)⟩, .any),
    (⟨some 29, .call 148, [tt 27, tt 28], some (24, true)⟩, .any),
    (⟨some 30, .pure (.un .not), [tt 29], some (24, true)⟩, .any),
    (⟨some 31, .pure .pick, [tt 24, tt 30, .c (AV.bool false)], none⟩, .any)] 31])
(.cond (.t 31 false)
(.seq
(RR [4] [gI 4 .mov [.c (AV.bool false)]])
(.ret [4]))
.skip)))
(RR [0, 1, 5] [gI 10 .mov [tt 5], gI 11 (.pure (.bin .add)) [tt 10, ti 1], gI 5 .mov [tt 11]])))
def r126 : RFunc := ⟨35,
(.seq
(RR [0, 1] [gI 4 .mov [.c (AV.bool false)]])
(.seq
(.seq
(RR [0, 1, 5] [gI 5 .mov [ti 0]])
(.block 0
(.loop 2 [0, 1, 5] l126_2)))
(.seq
(RR [4] [gI 32 .mov [tt 0], gI 33 (.pure .lenS) [tt 32], gI 34 (.pure (.bin .gtr)) [tt 33, ti 0], gI 4 .mov [tt 34]])
(.ret [4])))),
 [.tmp 4 false], false⟩
def a126 : Ann := mkAnn [] [(2, [0, 1, 5])] false [] [] [(0, [0, 1]), (1, [0, 1, 5]), (2, [0, 1, 5, 9]), (3, [0, 1, 5]), (4, [0, 1, 5, 31]), (5, [4]), (6, [4])] [] [] [] [(0, [0]), (1, [0, 1, 5])] [4] [false] [(4, [(6, none), (6, some 23), (1, none), (7, some 31)])] [] []
set_option maxRecDepth 100000 in
theorem c126 : convFn Tryd.prog a126 126 = some r126 := by kernel_rfl

/-- drayage/drayageref12.digit -/
def r127 : RFunc := ⟨9,
(.seq
(RR [0] [gI 2 .mov [.c (AV.bool false)]])
(.seq
(RR [2] [gI 3 .mov [tt 0], gI 4 (.pure (.bin .geq)) [tt 3, .c (AV.int .u8 48)], gI 5 .mov [tt 4], .sub [(⟨some 6, .mov, [tt 0], some (5, true)⟩, .any),
    (⟨some 7, .pure (.bin .leq), [tt 6, .c (AV.int .u8 57)], some (5, true)⟩, .any),
    (⟨some 8, .pure .pick, [tt 5, tt 7, .c (AV.bool false)], none⟩, .any)] 8, gI 2 .mov [tt 8]])
(.ret [2]))),
 [.tmp 2 false], false⟩
def a127 : Ann := mkAnn [] [] false [] [] [(0, [0]), (1, [2])] [] [] [] [] [2] [false] [(1, [(3, none), (3, some 8)])] [] []
set_option maxRecDepth 100000 in
theorem c127 : convFn Tryd.prog a127 127 = some r127 := by kernel_rfl

/-- drayage/drayageref01.number -/
def l128_3 : RCode :=
(.seq
(.seq
(RR [0, 1, 4, 5, 6, 11] [gI 8 .mov [tt 6], gI 9 .mov [tt 0], gI 10 (.pure .lenS) [tt 9], gI 11 (.pure (.bin .lss)) [tt 8, tt 10]])
(.cond (.t 11 false)
.skip
(.exit 0 [4, 5])))
(.seq
(.block 1
(.seq
(RR [0, 1, 4, 5, 6, 7] [gI 14 .mov [tt 0], gI 15 .mov [tt 6], gI 16 (.pure .idxStr) [tt 14, tt 15], gI 17 (.pure (.cvInt .i64)) [tt 16], gI 18 (.pure (.bin .sub)) [tt 17, ti 48], gI 7 .mov [tt 18]])
(.seq
(.seq
(RR [0, 1, 4, 5, 6, 7, 30] [gI 19 .mov [tt 5], gI 20 .mov [tt 1], gI 21 (.pure (.bin .quo)) [ti 4611686018427387903, tt 20], gI 22 (.pure (.bin .gtr)) [tt 19, tt 21], gI 23 .mov [tt 22], .sub [(⟨some 24, .mov, [tt 5], some (23, false)⟩, .any),
    (⟨some 25, .mov, [tt 1], some (23, false)⟩, .any),
    (⟨some 26, .pure (.bin .mul), [tt 24, tt 25], some (23, false)⟩, .any),
    (⟨some 27, .mov, [tt 7], some (23, false)⟩, .any),
    (⟨some 28, .pure (.bin .sub), [ti 4611686018427387903, tt 27], some (23, false)⟩, .any),
    (⟨some 29, .pure (.bin .gtr), [tt 26, tt 28], some (23, false)⟩, .any),
    (⟨some 30, .pure .pick, [tt 23, .c (AV.bool true), tt 29], none⟩, .any)] 30])
(.cond (.t 30 false)
(.seq
(RR [4] [gI 31 (.build [AV.sl false 1 [], AV.int .i64 0, AV.int .i64 0] [(2, 1)]) [ti 4], gS (.store 3) [tt 4, tt 31]])
(.ret [4]))
.skip))
(RR [0, 1, 4, 5, 6] [gI 32 .mov [tt 5], gI 33 .mov [tt 1], gI 34 (.pure (.bin .mul)) [tt 32, tt 33], gI 35 .mov [tt 7], gI 36 (.pure (.bin .add)) [tt 34, tt 35], gI 5 .mov [tt 36]]))))
(RR [0, 1, 4, 5, 6] [gI 12 .mov [tt 6], gI 13 (.pure (.bin .add)) [tt 12, ti 1], gI 6 .mov [tt 13]])))
def r128 : RFunc := ⟨39,
(.seq
(RR [0, 1, 4] [gI 4 (.new 3) [.c (AV.agg [AV.sl false 1 [], AV.int .i64 0, AV.int .i64 0])]])
(.seq
(RR [0, 1, 4, 5] [gI 5 .mov [ti 0]])
(.seq
(.seq
(RR [0, 1, 4, 5, 6] [gI 6 .mov [ti 0]])
(.block 0
(.loop 3 [0, 1, 4, 5, 6] l128_3)))
(.seq
(RR [4] [gI 37 .mov [tt 5], gI 38 (.build [AV.sl false 1 [], AV.int .i64 0, AV.int .i64 0] [(1, 1)]) [tt 37], gS (.store 3) [tt 4, tt 38]])
(.ret [4]))))),
 [.cell 4 3 true], false⟩
def a128 : Ann := mkAnn [] [(3, [0, 1, 4, 5, 6])] false [] [] [(0, [0, 1, 4]), (1, [0, 1, 4, 5]), (2, [0, 1, 4, 5, 6]), (3, [0, 1, 4, 5, 6, 11]), (4, [0, 1, 4, 5, 6]), (5, [0, 1, 4, 5, 6, 7]), (6, [0, 1, 4, 5, 6, 7, 30]), (7, [4]), (8, [0, 1, 4, 5, 6]), (9, [4])] [] [(0, 0, [2]), (7, 0, [2]), (9, 1, [2])] [] [(0, [4, 5]), (1, [0, 1, 4, 5, 6])] [4] [false] [(6, [(5, none), (7, some 30)])] [] []
set_option maxRecDepth 100000 in
theorem c128 : convFn Tryd.prog a128 128 = some r128 := by kernel_rfl

/-- internal/bytealg.hashStrRev[string] -/
def l137_8 : RCode :=
(.seq
(.seq
(RR [4, 6, 7, 8, 26] [gI 25 .mov [tt 8], gI 26 (.pure (.bin .gtr)) [tt 25, ti 0]])
(.cond (.t 26 false)
.skip
(.exit 2 [4, 6])))
(.seq
(.block 3
(.seq
(.seq
(RR [4, 6, 7, 8, 31] [gI 29 .mov [tt 8], gI 30 (.pure (.bin .and)) [tt 29, ti 1], gI 31 (.pure (.bin .neq)) [tt 30, ti 0]])
(.cond (.t 31 false)
(RR [4, 6, 7, 8] [gI 32 .mov [tt 6], gI 33 .mov [tt 7], gI 34 (.pure (.bin .mul)) [tt 32, tt 33], gI 6 .mov [tt 34]])
.skip))
(RR [4, 6, 7, 8] [gI 35 .mov [tt 7], gI 36 .mov [tt 7], gI 37 (.pure (.bin .mul)) [tt 35, tt 36], gI 7 .mov [tt 37]])))
(RR [4, 6, 7, 8] [gI 27 .mov [tt 8], gI 28 (.pure (.bin .shr)) [tt 27, .c (AV.int .u64 1)], gI 8 .mov [tt 28]])))
def l137_3 : RCode :=
(.seq
(.seq
(RR [0, 4, 5, 13] [gI 12 .mov [tt 5], gI 13 (.pure (.bin .geq)) [tt 12, ti 0]])
(.cond (.t 13 false)
.skip
(.exit 0 [0, 4])))
(.seq
(.block 1
(RR [0, 4, 5] [gI 16 .mov [tt 4], gI 17 (.pure (.bin .mul)) [tt 16, .c (AV.int .u32 16777619)], gI 18 .mov [tt 0], gI 19 .mov [tt 5], gI 20 (.pure .idxStr) [tt 18, tt 19], gI 21 (.pure (.cvInt .u32)) [tt 20], gI 22 (.pure (.bin .add)) [tt 17, tt 21], gI 4 .mov [tt 22]]))
(RR [0, 4, 5] [gI 14 .mov [tt 5], gI 15 (.pure (.bin .sub)) [tt 14, ti 1], gI 5 .mov [tt 15]])))
def r137 : RFunc := ⟨40,
(.seq
(RR [0] [gI 2 .mov [.c (AV.int .u32 0)], gI 3 .mov [.c (AV.int .u32 0)]])
(.seq
(RR [0, 4] [gI 4 .mov [.c (AV.int .u32 0)]])
(.seq
(.seq
(RR [0, 4, 5] [gI 9 .mov [tt 0], gI 10 (.pure .lenS) [tt 9], gI 11 (.pure (.bin .sub)) [tt 10, ti 1], gI 5 .mov [tt 11]])
(.block 0
(.loop 3 [0, 4, 5] l137_3)))
(.seq
(RR [0, 4, 6, 7] [gI 6 .mov [.c (AV.int .u32 1)], gI 7 .mov [.c (AV.int .u32 16777619)]])
(.seq
(.seq
(RR [4, 6, 7, 8] [gI 23 .mov [tt 0], gI 24 (.pure .lenS) [tt 23], gI 8 .mov [tt 24]])
(.block 2
(.loop 8 [4, 6, 7, 8] l137_8)))
(.seq
(RR [2, 3] [gI 38 .mov [tt 4], gI 39 .mov [tt 6], gI 2 .mov [tt 38], gI 3 .mov [tt 39]])
(.ret [2, 3]))))))),
 [.tmp 2 false, .tmp 3 false], false⟩
def a137 : Ann := mkAnn [] [(3, [0, 4, 5]), (8, [4, 6, 7, 8])] false [] [] [(0, [0]), (1, [0, 4]), (2, [0, 4, 5]), (3, [0, 4, 5, 13]), (4, [0, 4, 5]), (5, [0, 4, 5]), (6, [0, 4, 6, 7]), (7, [4, 6, 7, 8]), (8, [4, 6, 7, 8, 26]), (9, [4, 6, 7, 8]), (10, [4, 6, 7, 8, 31]), (11, [4, 6, 7, 8]), (12, [4, 6, 7, 8]), (13, [2, 3])] [] [] [] [(0, [0, 4]), (1, [0, 4, 5]), (2, [4, 6]), (3, [4, 6, 7, 8])] [2, 3] [false, false] [] [] []
set_option maxRecDepth 100000 in
theorem c137 : convFn Tryd.prog a137 137 = some r137 := by kernel_rfl

/-- drayage/drayageref12.has -/
def r144 : RFunc := ⟨14,
(.seq
(RR [0, 1] [gI 4 .mov [.c (AV.bool false)]])
(.seq
(RR [4] [gI 5 .mov [tt 0], gI 6 (.pure .lenS) [tt 5], gI 7 (.pure (.bin .gtr)) [tt 6, ti 0], gI 8 .mov [tt 7], .sub [(⟨some 9, .mov, [tt 0], some (8, true)⟩, .any),
    (⟨some 10, .pure .idxStr, [tt 9, ti 0], some (8, true)⟩, .any),
    (⟨some 11, .mov, [tt 1], some (8, true)⟩, .any),
    (⟨some 12, .pure (.bin .eql), [tt 10, tt 11], some (8, true)⟩, .any),
    (⟨some 13, .pure .pick, [tt 8, tt 12, .c (AV.bool false)], none⟩, .any)] 13, gI 4 .mov [tt 13]])
(.ret [4]))),
 [.tmp 4 false], false⟩
def a144 : Ann := mkAnn [] [] false [] [] [(0, [0, 1]), (1, [4])] [] [] [] [] [4] [false] [(1, [(4, none), (5, some 13)])] [] []
set_option maxRecDepth 100000 in
theorem c144 : convFn Tryd.prog a144 144 = some r144 := by kernel_rfl

/-- drayage/drayageref12.letters -/
def l145_2 : RCode :=
(.seq
(.seq
(RR [0, 3, 13] [gI 4 .mov [tt 3], gI 5 .mov [tt 0], gI 6 (.pure .lenS) [tt 5], gI 7 (.pure (.bin .lss)) [tt 4, tt 6], gI 8 .mov [tt 7], .sub [(⟨some 9, .mov, [tt 0], some (8, true)⟩, .any),
    (⟨some 10, .mov, [tt 3], some (8, true)⟩, .any),
    (⟨some 11, .pure .idxStr, [tt 9, tt 10], some (8, true)⟩, .any),
    (⟨some 12, .call 147, [tt 11], some (8, true)⟩, .any),
    (⟨some 13, .pure .pick, [tt 8, tt 12, .c (AV.bool false)], none⟩, .any)] 13])
(.cond (.t 13 false)
.skip
(.exit 0 [3])))
(.block 1
(RR [0, 3] [gI 14 .mov [tt 3], gI 15 (.pure (.bin .add)) [tt 14, ti 1], gI 3 .mov [tt 15]])))
def r145 : RFunc := ⟨17,
(.seq
(RR [0] [gI 2 .mov [ti 0]])
(.seq
(RR [0, 3] [gI 3 .mov [ti 0]])
(.seq
(.block 0
(.loop 2 [0, 3] l145_2))
(.seq
(RR [2] [gI 16 .mov [tt 3], gI 2 .mov [tt 16]])
(.ret [2]))))),
 [.tmp 2 false], false⟩
def a145 : Ann := mkAnn [] [(2, [0, 3])] false [] [] [(0, [0]), (1, [0, 3]), (2, [0, 3, 13]), (3, [0, 3]), (4, [2])] [] [] [] [(0, [3]), (1, [0, 3])] [2] [false] [(2, [(5, none), (5, some 13)])] [] []
set_option maxRecDepth 100000 in
theorem c145 : convFn Tryd.prog a145 145 = some r145 := by kernel_rfl

/-- drayage/drayageref12.words -/
def r146 : RFunc := ⟨2,
(.seq
(RR [] [gI 0 .mov [.c (AV.sl false 1 [])]])
(.seq
(RR [0] [gI 1 (.bslice 1 false 9) [.c (AV.str [97, 108, 112, 104, 97]), .c (AV.str [98, 101, 116, 97]), .c (AV.str [112, 114, 101]), .c (AV.str [114, 99]), .c (AV.str [99, 118, 115]), .c (AV.str [115, 118, 110]), .c (AV.str [103, 105, 116]), .c (AV.str [104, 103]), .c (AV.str [112])], gI 0 .mov [tt 1]])
(.ret [0]))),
 [.tmp 0 false], false⟩
def a146 : Ann := mkAnn [] [] false [] [] [(0, []), (1, [0])] [] [(0, 0, [2])] [] [] [0] [false] [] [] []
set_option maxRecDepth 100000 in
theorem c146 : convFn Tryd.prog a146 146 = some r146 := by kernel_rfl

/-- drayage/drayageref12.letter -/
def r147 : RFunc := ⟨17,
(.seq
(RR [0] [gI 2 .mov [.c (AV.bool false)]])
(.seq
(RR [2] [gI 3 .mov [tt 0], gI 4 (.pure (.bin .geq)) [tt 3, .c (AV.int .u8 97)], gI 5 .mov [tt 4], .sub [(⟨some 6, .mov, [tt 0], some (5, true)⟩, .any),
    (⟨some 7, .pure (.bin .leq), [tt 6, .c (AV.int .u8 122)], some (5, true)⟩, .any),
    (⟨some 8, .pure .pick, [tt 5, tt 7, .c (AV.bool false)], none⟩, .any)] 8, gI 9 .mov [tt 8], .sub [(⟨some 10, .mov, [tt 0], some (9, false)⟩, .any),
    (⟨some 11, .pure (.bin .geq), [tt 10, .c (AV.int .u8 65)], some (9, false)⟩, .any),
    (⟨some 12, .mov, [tt 11], some (9, false)⟩, .any),
    (⟨some 13, .mov, [tt 0], some (12, true)⟩, .any),
    (⟨some 14, .pure (.bin .leq), [tt 13, .c (AV.int .u8 90)], some (12, true)⟩, .any),
    (⟨some 15, .pure .pick, [tt 12, tt 14, .c (AV.bool false)], some (9, false)⟩, .any),
    (⟨some 16, .pure .pick, [tt 9, .c (AV.bool true), tt 15], none⟩, .any)] 16, gI 2 .mov [tt 16]])
(.ret [2]))),
 [.tmp 2 false], false⟩
def a147 : Ann := mkAnn [] [] false [] [] [(0, [0]), (1, [2])] [] [] [] [] [2] [false] [(1, [(3, none), (3, some 8), (1, none), (7, some 16)])] [] []
set_option maxRecDepth 100000 in
theorem c147 : convFn Tryd.prog a147 147 = some r147 := by kernel_rfl

/-- drayage/drayageref12.in -/
def l148_2 : RCode :=
(.seq
(.seq
(RR [0, 1, 5, 9] [gI 6 .mov [tt 5], gI 7 .mov [tt 1], gI 8 (.pure .lenS) [tt 7], gI 9 (.pure (.bin .lss)) [tt 6, tt 8]])
(.cond (.t 9 false)
.skip
(.exit 0 [])))
(.seq
(.block 1
(.seq
(RR [0, 1, 5, 16] [gI 12 .mov [tt 1], gI 13 .mov [tt 5], gI 14 (.pure .idxStr) [tt 12, tt 13], gI 15 .mov [tt 0], gI 16 (.pure (.bin .eql)) [tt 14, tt 15]])
(.cond (.t 16 false)
(.seq
(RR [4] [gI 4 .mov [.c (AV.bool true)]])
(.ret [4]))
.skip)))
(RR [0, 1, 5] [gI 10 .mov [tt 5], gI 11 (.pure (.bin .add)) [tt 10, ti 1], gI 5 .mov [tt 11]])))
def r148 : RFunc := ⟨17,
(.seq
(RR [0, 1] [gI 4 .mov [.c (AV.bool false)]])
(.seq
(.seq
(RR [0, 1, 5] [gI 5 .mov [ti 0]])
(.block 0
(.loop 2 [0, 1, 5] l148_2)))
(.seq
(RR [4] [gI 4 .mov [.c (AV.bool false)]])
(.ret [4])))),
 [.tmp 4 false], false⟩
def a148 : Ann := mkAnn [] [(2, [0, 1, 5])] false [] [] [(0, [0, 1]), (1, [0, 1, 5]), (2, [0, 1, 5, 9]), (3, [0, 1, 5]), (4, [0, 1, 5, 16]), (5, [4]), (6, [4])] [] [] [] [(0, []), (1, [0, 1, 5])] [4] [false] [] [] []
set_option maxRecDepth 100000 in
theorem c148 : convFn Tryd.prog a148 148 = some r148 := by kernel_rfl

end Go.Proofs.YtlgpcmklpknmcaaDoor
