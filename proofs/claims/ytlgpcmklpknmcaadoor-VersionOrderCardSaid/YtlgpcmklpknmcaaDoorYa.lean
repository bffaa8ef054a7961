/- The functions' code, checked against the program's. -/
import Derived.Test.YtlgpcmklpknmcaaDoorEl
import Derived.Test.YtlgpcmklpknmcaaDoorChecked
import Derived.KernelRfl
set_option linter.unusedVariables false
set_option maxRecDepth 100000
namespace Go.Proofs.YtlgpcmklpknmcaaDoor
open Go Go.Eng Go.Proofs

/-- drayage/drayagelaw12.VersionOrder -/
def r3 : RFunc := ⟨111,
(.seq
(RR [0, 1, 2, 3] [gI 8 .mov [.c (AV.bool false)]])
(.seq
(.seq
(RR [0, 1, 2, 3, 13] [gI 12 (.call 12) [], gI 13 (.pure (.un .not)) [tt 12]])
(.cond (.t 13 false)
(.seq
(RR [8] [gI 8 .mov [.c (AV.bool false)]])
(.ret [8]))
.skip))
(.seq
(.seq
(RR [0, 1, 2, 3, 44] [gI 14 .mov [tt 1], gI 15 (.pure .lenS) [tt 14], gI 16 (.pure (.bin .gtr)) [tt 15, ti 2000], gI 17 .mov [tt 16], .sub [(⟨some 18, .mov, [tt 2], some (17, false)⟩, .any),
    (⟨some 19, .pure .lenS, [tt 18], some (17, false)⟩, .any),
    (⟨some 20, .pure (.bin .gtr), [tt 19, ti 2000], some (17, false)⟩, .any),
    (⟨some 21, .pure .pick, [tt 17, .c (AV.bool true), tt 20], none⟩, .any)] 21, gI 22 .mov [tt 21], .sub [(⟨some 23, .mov, [tt 3], some (22, false)⟩, .any),
    (⟨some 24, .pure .lenS, [tt 23], some (22, false)⟩, .any),
    (⟨some 25, .pure (.bin .gtr), [tt 24, ti 2000], some (22, false)⟩, .any),
    (⟨some 26, .pure .pick, [tt 22, .c (AV.bool true), tt 25], none⟩, .any)] 26, gI 27 .mov [tt 26], .sub [(⟨some 28, .mov, [tt 0], some (27, false)⟩, .any),
    (⟨some 29, .mov, [tt 1], some (27, false)⟩, .any),
    (⟨some 30, .call 13, [tt 28, tt 29], some (27, false)⟩, .any),
    (⟨some 31, .pure (.bin .neq), [tt 30, ti 0], some (27, false)⟩, .any),
    (⟨some 32, .pure .pick, [tt 27, .c (AV.bool true), tt 31], none⟩, .any)] 32, gI 33 .mov [tt 32], .sub [(⟨some 34, .mov, [tt 0], some (33, false)⟩, .any),
    (⟨some 35, .mov, [tt 2], some (33, false)⟩, .any),
    (⟨some 36, .call 13, [tt 34, tt 35], some (33, false)⟩, .any),
    (⟨some 37, .pure (.bin .neq), [tt 36, ti 0], some (33, false)⟩, .any),
    (⟨some 38, .pure .pick, [tt 33, .c (AV.bool true), tt 37], none⟩, .any)] 38, gI 39 .mov [tt 38], .sub [(⟨some 40, .mov, [tt 0], some (39, false)⟩, .any),
    (⟨some 41, .mov, [tt 3], some (39, false)⟩, .any),
    (⟨some 42, .call 13, [tt 40, tt 41], some (39, false)⟩, .any),
    (⟨some 43, .pure (.bin .neq), [tt 42, ti 0], some (39, false)⟩, .any),
    (⟨some 44, .pure .pick, [tt 39, .c (AV.bool true), tt 43], none⟩, .any)] 44])
(.cond (.t 44 false)
(.seq
(RR [8] [gI 8 .mov [.c (AV.bool true)]])
(.ret [8]))
.skip))
(.seq
(RR [0, 1, 2, 9, 10, 11] [gI 45 .mov [tt 0], gI 46 .mov [tt 1], gI 47 .mov [tt 2], gI 48 (.call 14) [tt 45, tt 46, tt 47], gI 49 .mov [tt 0], gI 50 .mov [tt 2], gI 51 .mov [tt 3], gI 52 (.call 14) [tt 49, tt 50, tt 51], gI 53 .mov [tt 0], gI 54 .mov [tt 1], gI 55 .mov [tt 3], gI 56 (.call 14) [tt 53, tt 54, tt 55], gI 9 .mov [tt 48], gI 10 .mov [tt 52], gI 11 .mov [tt 56]])
(.seq
(.seq
(RR [9, 10, 11, 78] [gI 57 .mov [tt 0], gI 58 .mov [tt 2], gI 59 .mov [tt 1], gI 60 (.call 14) [tt 57, tt 58, tt 59], gI 61 .mov [tt 9], gI 62 (.pure (.bin .sub)) [ti 0, tt 61], gI 63 (.pure (.bin .neq)) [tt 60, tt 62], gI 64 .mov [tt 63], .sub [(⟨some 65, .mov, [tt 0], some (64, false)⟩, .any),
    (⟨some 66, .mov, [tt 1], some (64, false)⟩, .any),
    (⟨some 67, .mov, [tt 1], some (64, false)⟩, .any),
    (⟨some 68, .call 14, [tt 65, tt 66, tt 67], some (64, false)⟩, .any),
    (⟨some 69, .pure (.bin .neq), [tt 68, ti 0], some (64, false)⟩, .any),
    (⟨some 70, .pure .pick, [tt 64, .c (AV.bool true), tt 69], none⟩, .any)] 70, gI 71 .mov [tt 70], .sub [(⟨some 72, .mov, [tt 9], some (71, false)⟩, .any),
    (⟨some 73, .pure (.bin .lss), [tt 72, ti (-1)], some (71, false)⟩, .any),
    (⟨some 74, .pure .pick, [tt 71, .c (AV.bool true), tt 73], none⟩, .any)] 74, gI 75 .mov [tt 74], .sub [(⟨some 76, .mov, [tt 9], some (75, false)⟩, .any),
    (⟨some 77, .pure (.bin .gtr), [tt 76, ti 1], some (75, false)⟩, .any),
    (⟨some 78, .pure .pick, [tt 75, .c (AV.bool true), tt 77], none⟩, .any)] 78])
(.cond (.t 78 false)
(.seq
(RR [8] [gI 8 .mov [.c (AV.bool false)]])
(.ret [8]))
.skip))
(.seq
(.seq
(RR [9, 10, 11, 100] [gI 79 .mov [tt 9], gI 80 (.pure (.bin .leq)) [tt 79, ti 0], gI 81 .mov [tt 80], .sub [(⟨some 82, .mov, [tt 10], some (81, true)⟩, .any),
    (⟨some 83, .pure (.bin .leq), [tt 82, ti 0], some (81, true)⟩, .any),
    (⟨some 84, .pure .pick, [tt 81, tt 83, .c (AV.bool false)], none⟩, .any)] 84, gI 85 .mov [tt 84], .sub [(⟨some 86, .mov, [tt 11], some (85, true)⟩, .any),
    (⟨some 87, .pure (.bin .gtr), [tt 86, ti 0], some (85, true)⟩, .any),
    (⟨some 88, .mov, [tt 87], some (85, true)⟩, .any),
    (⟨some 89, .mov, [tt 11], some (88, false)⟩, .any),
    (⟨some 90, .pure (.bin .eql), [tt 89, ti 0], some (88, false)⟩, .any),
    (⟨some 91, .mov, [tt 90], some (88, false)⟩, .any),
    (⟨some 92, .mov, [tt 9], some (91, true)⟩, .any),
    (⟨some 93, .pure (.bin .lss), [tt 92, ti 0], some (91, true)⟩, .any),
    (⟨some 94, .mov, [tt 93], some (91, true)⟩, .any),
    (⟨some 95, .mov, [tt 10], some (94, false)⟩, .any),
    (⟨some 96, .pure (.bin .lss), [tt 95, ti 0], some (94, false)⟩, .any),
    (⟨some 97, .pure .pick, [tt 94, .c (AV.bool true), tt 96], some (91, true)⟩, .any),
    (⟨some 98, .pure .pick, [tt 91, tt 97, .c (AV.bool false)], some (88, false)⟩, .any),
    (⟨some 99, .pure .pick, [tt 88, .c (AV.bool true), tt 98], some (85, true)⟩, .any),
    (⟨some 100, .pure .pick, [tt 85, tt 99, .c (AV.bool false)], none⟩, .any)] 100])
(.cond (.t 100 false)
(.seq
(RR [8] [gI 8 .mov [.c (AV.bool false)]])
(.ret [8]))
.skip))
(.seq
(RR [8] [gI 101 .mov [tt 9], gI 102 (.pure (.bin .lss)) [tt 101, ti 0], gI 103 .mov [tt 102], .sub [(⟨some 104, .mov, [tt 10], some (103, false)⟩, .any),
    (⟨some 105, .pure (.bin .lss), [tt 104, ti 0], some (103, false)⟩, .any),
    (⟨some 106, .pure .pick, [tt 103, .c (AV.bool true), tt 105], none⟩, .any)] 106, gI 107 .mov [tt 106], .sub [(⟨some 108, .mov, [tt 11], some (107, false)⟩, .any),
    (⟨some 109, .pure (.bin .geq), [tt 108, ti 0], some (107, false)⟩, .any),
    (⟨some 110, .pure .pick, [tt 107, .c (AV.bool true), tt 109], none⟩, .any)] 110, gI 8 .mov [tt 110]])
(.ret [8])))))))),
 [.tmp 8 false], false⟩
def a3 : Ann := mkAnn [] [] false [] [] [(0, [0, 1, 2, 3]), (1, [0, 1, 2, 3, 13]), (2, [8]), (3, [0, 1, 2, 3, 44]), (4, [8]), (5, [0, 1, 2, 9, 10, 11]), (6, [9, 10, 11, 78]), (7, [8]), (8, [9, 10, 11, 100]), (9, [8]), (10, [8])] [] [] [] [] [8] [false] [(3, [(4, none), (4, some 21), (1, none), (4, some 26), (1, none), (5, some 32), (1, none), (5, some 38), (1, none), (5, some 44)]), (6, [(8, none), (6, some 70), (1, none), (3, some 74), (1, none), (3, some 78)]), (8, [(3, none), (3, some 84), (1, none), (15, some 100)]), (10, [(3, none), (3, some 106), (1, none), (3, some 110)])] [] []
set_option maxRecDepth 100000 in
theorem c3 : convFn Tryd.prog a3 3 = some r3 := by kernel_rfl

/-- drayage/drayagelaw12.awake -/
def r12 : RFunc := ⟨23,
(.seq
(RR [] [gI 0 .mov [.c (AV.bool false)]])
(.seq
(RR [0] [gI 1 (.call 14) [ti 1, .c (AV.str [49, 46, 48, 126, 114, 99, 49]), .c (AV.str [49, 46, 48])], gI 2 (.pure (.bin .eql)) [tt 1, ti (-1)], gI 3 .mov [tt 2], .sub [(⟨some 4, .call 14, [ti 1, .c (AV.str [49, 46, 50]), .c (AV.str [48, 58, 49, 46, 50, 45, 48])], some (3, true)⟩, .any),
    (⟨some 5, .pure (.bin .eql), [tt 4, ti 0], some (3, true)⟩, .any),
    (⟨some 6, .pure .pick, [tt 3, tt 5, .c (AV.bool false)], none⟩, .any)] 6, gI 7 .mov [tt 6], .sub [(⟨some 8, .call 14, [ti 2, .c (AV.str [49, 46, 48, 94, 97, 45, 49]), .c (AV.str [49, 46, 48, 45, 49])], some (7, true)⟩, .any),
    (⟨some 9, .pure (.bin .eql), [tt 8, ti 1], some (7, true)⟩, .any),
    (⟨some 10, .pure .pick, [tt 7, tt 9, .c (AV.bool false)], none⟩, .any)] 10, gI 11 .mov [tt 10], .sub [(⟨some 12, .call 14, [ti 3, .c (AV.str [49, 46, 50, 95, 114, 99, 49]), .c (AV.str [49, 46, 50])], some (11, true)⟩, .any),
    (⟨some 13, .pure (.bin .eql), [tt 12, ti (-1)], some (11, true)⟩, .any),
    (⟨some 14, .pure .pick, [tt 11, tt 13, .c (AV.bool false)], none⟩, .any)] 14, gI 15 .mov [tt 14], .sub [(⟨some 16, .call 13, [ti 3, .c (AV.str [49, 46, 50, 45, 114, 48])], some (15, true)⟩, .any),
    (⟨some 17, .pure (.bin .eql), [tt 16, ti 0], some (15, true)⟩, .any),
    (⟨some 18, .pure .pick, [tt 15, tt 17, .c (AV.bool false)], none⟩, .any)] 18, gI 19 .mov [tt 18], .sub [(⟨some 20, .call 13, [ti 2, .c (AV.str [49, 46, 50])], some (19, true)⟩, .any),
    (⟨some 21, .pure (.bin .eql), [tt 20, ti 3], some (19, true)⟩, .any),
    (⟨some 22, .pure .pick, [tt 19, tt 21, .c (AV.bool false)], none⟩, .any)] 22, gI 0 .mov [tt 22]])
(.ret [0]))),
 [.tmp 0 false], false⟩
def a12 : Ann := mkAnn [] [] false [] [] [(0, []), (1, [0])] [] [] [] [] [0] [false] [(1, [(3, none), (3, some 6), (1, none), (3, some 10), (1, none), (3, some 14), (1, none), (3, some 18), (1, none), (3, some 22)])] [] []
set_option maxRecDepth 100000 in
theorem c12 : convFn Tryd.prog a12 12 = some r12 := by kernel_rfl

/-- drayage/version.Check -/
def r13 : RFunc := ⟨26,
(.seq
(RR [0, 1] [gI 4 .mov [ti 0]])
(.seq
(.block 0
(.seq
(RR [0, 1, 7] [gI 8 .mov [tt 0], gI 9 (.pure (.bin .lss)) [tt 8, ti 1], gI 10 .mov [tt 9], .sub [(⟨some 11, .mov, [tt 0], some (10, false)⟩, .any),
    (⟨some 12, .pure (.bin .gtr), [tt 11, ti 3], some (10, false)⟩, .any),
    (⟨some 13, .pure .pick, [tt 10, .c (AV.bool true), tt 12], none⟩, .any)] 13, gI 7 .mov [tt 13]])
(.cond (.t 7 false)
(.seq
(RR [4] [gI 4 .mov [ti 9]])
(.ret [4]))
(.seq
(RR [0, 1, 14] [gI 15 .mov [tt 1], gI 16 (.pure .lenS) [tt 15], gI 17 (.pure (.bin .gtr)) [tt 16, ti 64], gI 14 .mov [tt 17]])
(.cond (.t 14 false)
(.seq
(RR [4] [gI 4 .mov [ti 4]])
(.ret [4]))
.skip)))))
(.seq
(.seq
(RR [6] [gI 19 .mov [tt 0], gI 20 .mov [tt 1], gI 21 (.call 39) [tt 19, tt 20], gI 18 .mov [tt 21], gI 22 (.pure (.extract 0)) [tt 18], gI 23 (.pure (.extract 1)) [tt 18], gI 5 (.new 4) [.c (AV.agg [AV.str [], AV.str [], AV.str [], AV.bool false])], gS (.store 4) [tt 5, tt 22], gI 6 .mov [tt 23]])
(.seq
(RR [25] [gI 24 .mov [tt 6], gI 25 (.pure (.un .not)) [tt 24]])
(.cond (.t 25 false)
(.seq
(RR [4] [gI 4 .mov [ti 3]])
(.ret [4]))
.skip)))
(.seq
(RR [4] [gI 4 .mov [ti 0]])
(.ret [4]))))),
 [.tmp 4 false], false⟩
def a13 : Ann := mkAnn [] [] false [] [] [(0, [0, 1]), (1, [0, 1, 7]), (2, [4]), (3, [0, 1, 14]), (4, [4]), (5, [6]), (6, [25]), (7, [4]), (8, [4])] [] [] [] [(0, [0, 1])] [4] [false] [(1, [(3, none), (3, some 13)])] [] []
set_option maxRecDepth 100000 in
theorem c13 : convFn Tryd.prog a13 13 = some r13 := by kernel_rfl

/-- drayage/version.Compare -/
def r14 : RFunc := ⟨80,
(.seq
(RR [0, 1, 2] [gI 6 .mov [ti 0]])
(.seq
(.seq
(RR [0, 1, 2, 25] [gI 16 .mov [tt 0], gI 17 .mov [tt 1], gI 18 (.call 13) [tt 16, tt 17], gI 19 (.pure (.bin .neq)) [tt 18, ti 0], gI 20 .mov [tt 19], .sub [(⟨some 21, .mov, [tt 0], some (20, false)⟩, .any),
    (⟨some 22, .mov, [tt 2], some (20, false)⟩, .any),
    (⟨some 23, .call 13, [tt 21, tt 22], some (20, false)⟩, .any),
    (⟨some 24, .pure (.bin .neq), [tt 23, ti 0], some (20, false)⟩, .any),
    (⟨some 25, .pure .pick, [tt 20, .c (AV.bool true), tt 24], none⟩, .any)] 25])
(.cond (.t 25 false)
(.seq
(RR [6] [gI 6 .mov [ti 0]])
(.ret [6]))
.skip))
(.seq
(.seq
(RR [0, 1, 2, 27] [gI 26 .mov [tt 0], gI 27 (.pure (.bin .eql)) [tt 26, ti 3]])
(.cond (.t 27 false)
(.seq
(RR [2, 7] [gI 29 .mov [tt 1], gI 30 (.call 40) [tt 29], gI 28 .mov [.t 30 true], gI 31 (.ext 0) [.t 28 true], gI 32 (.pure (.extract 1)) [tt 28], gI 7 .mov [.t 31 true], gI 8 .mov [tt 32]])
(.seq
(RR [7, 9] [gI 34 .mov [tt 2], gI 35 (.call 40) [tt 34], gI 33 .mov [.t 35 true], gI 36 (.ext 0) [.t 33 true], gI 37 (.pure (.extract 1)) [tt 33], gI 9 .mov [.t 36 true], gI 10 .mov [tt 37]])
(.seq
(RR [6] [gI 38 .mov [.t 7 true], gI 39 (.build [AV.int .i64 0, AV.str [], AV.int .i64 0, AV.bool false] [(0, 1)]) [ti 1], gI 40 (.bslice 4 true 1) [tt 39], gI 41 (.append 4 40 false) [.t 38 true, tt 40], gI 42 .mov [.t 9 true], gI 43 (.build [AV.int .i64 0, AV.str [], AV.int .i64 0, AV.bool false] [(0, 1)]) [ti 1], gI 44 (.bslice 4 true 1) [tt 43], gI 45 (.append 4 40 false) [.t 42 true, tt 44], gI 46 (.call 41) [tt 41, tt 45, .c (.fn 42 [])], gI 6 .mov [tt 46]])
(.ret [6]))))
.skip))
(.seq
(RR [0, 2, 11] [gI 48 .mov [tt 0], gI 49 .mov [tt 1], gI 50 (.call 39) [tt 48, tt 49], gI 47 .mov [tt 50], gI 51 (.pure (.extract 0)) [tt 47], gI 52 (.pure (.extract 1)) [tt 47], gI 11 (.new 4) [.c (AV.agg [AV.str [], AV.str [], AV.str [], AV.bool false])], gS (.store 4) [tt 11, tt 51], gI 12 .mov [tt 52]])
(.seq
(RR [0, 11, 13] [gI 54 .mov [tt 0], gI 55 .mov [tt 2], gI 56 (.call 39) [tt 54, tt 55], gI 53 .mov [tt 56], gI 57 (.pure (.extract 0)) [tt 53], gI 58 (.pure (.extract 1)) [tt 53], gI 13 (.new 4) [.c (AV.agg [AV.str [], AV.str [], AV.str [], AV.bool false])], gS (.store 4) [tt 13, tt 57], gI 14 .mov [tt 58]])
(.seq
(RR [0, 11, 13, 15] [gI 15 .mov [.c (.fn 43 [])]])
(.seq
(.seq
(RR [11, 13, 15, 60] [gI 59 .mov [tt 0], gI 60 (.pure (.bin .eql)) [tt 59, ti 2]])
(.cond (.t 60 false)
(RR [11, 13, 15] [gI 15 .mov [.c (.fn 44 [])]])
.skip))
(.seq
(.region (some ([], [])) [6] [gI 61 (.pure (.faddr 0)) [tt 11], gI 62 (.load 1 false false) [tt 61], gI 63 (.pure (.faddr 0)) [tt 13], gI 64 (.load 1 false false) [tt 63], gI 65 (.call 46) [tt 62, tt 64], gI 66 .mov [tt 15], gI 67 (.pure (.faddr 1)) [tt 11], gI 68 (.load 1 false false) [tt 67], gI 69 (.pure (.faddr 1)) [tt 13], gI 70 (.load 1 false false) [tt 69], gI 71 .callv [tt 66, tt 68, tt 70], gI 72 .mov [tt 15], gI 73 (.pure (.faddr 2)) [tt 11], gI 74 (.load 1 false false) [tt 73], gI 75 (.pure (.faddr 2)) [tt 13], gI 76 (.load 1 false false) [tt 75], gI 77 .callv [tt 72, tt 74, tt 76], gI 78 (.bslice 1 false 3) [tt 65, tt 71, tt 77], gI 79 (.call 45) [tt 78], gI 6 .mov [tt 79]])
(.ret [6]))))))))),
 [.tmp 6 false], false⟩
def a14 : Ann := mkAnn [(4, 2, [true]), (4, 3, [true]), (4, 5, [true]), (5, 2, [true]), (5, 3, [true]), (5, 5, [true]), (6, 0, [true]), (6, 3, [true]), (6, 4, [true]), (6, 7, [true])] [] false [(12, [])] [] [(0, [0, 1, 2]), (1, [0, 1, 2, 25]), (2, [6]), (3, [0, 1, 2, 27]), (4, [2, 7]), (5, [7, 9]), (6, [6]), (7, [0, 2, 11]), (8, [0, 11, 13]), (9, [0, 11, 13, 15]), (10, [11, 13, 15, 60]), (11, [11, 13, 15]), (12, [6])] [] [] [] [] [6] [false] [(1, [(5, none), (5, some 25)])] [] []
set_option maxRecDepth 100000 in
theorem c14 : convFn Tryd.prog a14 14 = some r14 := by kernel_rfl

/-- drayage/version.part -/
def k39_17 : RCode :=
(.seq
(.region (some ([24], [])) [4, 5] [gI 90 (.load 4 true false) [tt 4], gI 91 .mov [tt 5], gI 92 .mov [tt 91], .sub [(⟨some 93, .pure (.faddr 1), [tt 4], some (92, true)⟩, .any),
    (⟨some 94, .load 1 false false, [tt 93], some (92, true)⟩, .any),
    (⟨some 95, .mov, [tt 8], some (92, true)⟩, .any),
    (⟨some 96, .call 80, [tt 94, tt 95], some (92, true)⟩, .any),
    (⟨some 97, .pure .pick, [tt 92, tt 96, .c (AV.bool false)], none⟩, .any)] 97, gI 98 .mov [tt 97], .sub [(⟨some 99, .pure (.faddr 1), [tt 4], some (98, true)⟩, .any),
    (⟨some 100, .load 1 false false, [tt 99], some (98, true)⟩, .any),
    (⟨some 101, .pure .idxStr, [tt 100, ti 0], some (98, true)⟩, .any),
    (⟨some 102, .call 81, [tt 101], some (98, true)⟩, .any),
    (⟨some 103, .pure .pick, [tt 98, tt 102, .c (AV.bool false)], none⟩, .any)] 103, gI 104 .mov [tt 103], .sub [(⟨some 105, .pure (.faddr 3), [tt 4], some (104, true)⟩, .any),
    (⟨some 106, .load 1 false false, [tt 105], some (104, true)⟩, .any),
    (⟨some 107, .pure (.un .not), [tt 106], some (104, true)⟩, .any),
    (⟨some 108, .mov, [tt 107], some (104, true)⟩, .any),
    (⟨some 109, .pure (.faddr 2), [tt 4], some (108, false)⟩, .any),
    (⟨some 110, .load 1 false false, [tt 109], some (108, false)⟩, .any),
    (⟨some 111, .call 80, [tt 110, .c (AV.str [46, 43, 126])], some (108, false)⟩, .any),
    (⟨some 112, .pure .pick, [tt 108, .c (AV.bool true), tt 111], some (104, true)⟩, .any),
    (⟨some 113, .pure .pick, [tt 104, tt 112, .c (AV.bool false)], none⟩, .any)] 113, gS (.store 4) [tt 4, tt 90], gI 5 .mov [tt 113]])
(.ret [4, 5]))
def k39_11 : RCode :=
(.seq
(.seq
(RR [4, 5, 58] [gI 57 .mov [tt 0], gI 58 (.pure (.bin .eql)) [tt 57, ti 2]])
(.cond (.t 58 false)
(.seq
(RR [4, 5] [gI 59 .mov [tt 5], gI 60 .mov [tt 59], .sub [(⟨some 61, .pure (.faddr 0), [tt 4], some (60, true)⟩, .any),
    (⟨some 62, .load 1 false false, [tt 61], some (60, true)⟩, .any),
    (⟨some 63, .pure .lenS, [tt 62], some (60, true)⟩, .any),
    (⟨some 64, .pure (.bin .lss), [tt 63, ti 2], some (60, true)⟩, .any),
    (⟨some 65, .mov, [tt 64], some (60, true)⟩, .any),
    (⟨some 66, .pure (.faddr 0), [tt 4], some (65, false)⟩, .any),
    (⟨some 67, .load 1 false false, [tt 66], some (65, false)⟩, .any),
    (⟨some 68, .pure .idxStr, [tt 67, ti 0], some (65, false)⟩, .any),
    (⟨some 69, .pure (.bin .neq), [tt 68, .c (AV.int .u8 48)], some (65, false)⟩, .any),
    (⟨some 70, .pure .pick, [tt 65, .c (AV.bool true), tt 69], some (60, true)⟩, .any),
    (⟨some 71, .pure .pick, [tt 60, tt 70, .c (AV.bool false)], none⟩, .any)] 71, gI 5 .mov [tt 71]])
(.seq
(.region (some ([16], [])) [4, 5] [gI 72 (.load 4 true false) [tt 4], gI 73 .mov [tt 5], gI 74 .mov [tt 73], .sub [(⟨some 75, .pure (.faddr 3), [tt 4], some (74, true)⟩, .any),
    (⟨some 76, .load 1 false false, [tt 75], some (74, true)⟩, .any),
    (⟨some 77, .pure .pick, [tt 74, tt 76, .c (AV.bool false)], none⟩, .any)] 77, gI 78 .mov [tt 77], .sub [(⟨some 79, .pure (.faddr 1), [tt 4], some (78, true)⟩, .any),
    (⟨some 80, .load 1 false false, [tt 79], some (78, true)⟩, .any),
    (⟨some 81, .call 80, [tt 80, .c (AV.str [46, 95, 43, 126, 94])], some (78, true)⟩, .any),
    (⟨some 82, .pure .pick, [tt 78, tt 81, .c (AV.bool false)], none⟩, .any)] 82, gI 83 .mov [tt 82], .sub [(⟨some 84, .pure (.faddr 2), [tt 4], some (83, true)⟩, .any),
    (⟨some 85, .load 1 false false, [tt 84], some (83, true)⟩, .any),
    (⟨some 86, .call 80, [tt 85, .c (AV.str [46, 95, 43, 126, 94])], some (83, true)⟩, .any),
    (⟨some 87, .pure .pick, [tt 83, tt 86, .c (AV.bool false)], none⟩, .any)] 87, gS (.store 4) [tt 4, tt 72], gI 5 .mov [tt 87]])
(.ret [4, 5])))
.skip))
(.seq
(RR [4, 5, 8] [gI 8 .mov [.c (AV.str [46, 43, 126])]])
(.seq
(.seq
(RR [4, 5, 8, 89] [gI 88 (.pure (.faddr 3)) [tt 4], gI 89 (.load 1 false false) [tt 88]])
(.cond (.t 89 false)
(RR [4, 5, 8] [gI 8 .mov [.c (AV.str [46, 43, 126, 45])]])
.skip))
(.cut 100017 [4, 5, 8] [4, 5] k39_17))))
def r39 : RFunc := ⟨114,
(.seq
(RR [0, 1, 4] [gI 4 (.new 4) [.c (AV.agg [AV.str [], AV.str [], AV.str [], AV.bool false])], gI 5 .mov [.c (AV.bool false)]])
(.seq
(.seq
(RR [0, 1, 4, 10] [gI 9 .mov [tt 0], gI 10 (.pure (.bin .eql)) [tt 9, ti 3]])
(.cond (.t 10 false)
(.seq
(RR [1, 4, 5] [gI 12 .mov [tt 1], gI 13 (.call 40) [tt 12], gI 11 .mov [tt 13], gI 14 (.pure (.extract 0)) [tt 11], gI 15 (.pure (.extract 1)) [tt 11], gI 5 .mov [tt 15]])
(.seq
(RR [1, 4, 5, 6] [gI 16 .mov [tt 1], gI 17 (.call 77) [tt 16, .c (AV.str [45, 114])], gI 6 .mov [tt 17]])
(.seq
(.seq
(RR [1, 4, 5, 6, 19] [gI 18 .mov [tt 6], gI 19 (.pure (.bin .lss)) [tt 18, ti 0]])
(.cond (.t 19 false)
(.seq
(RR [4, 5] [gI 20 .mov [tt 1], gI 21 (.build [AV.str [], AV.str [], AV.str [], AV.bool false] [(1, 1)]) [tt 20], gI 22 .mov [tt 5], gS (.store 4) [tt 4, tt 21], gI 5 .mov [tt 22]])
(.ret [4, 5]))
.skip))
(.seq
(.region (some ([9], [])) [4, 5] [gI 23 .mov [tt 1], gI 24 .mov [tt 6], gI 25 (.pure (.sliceStr false true)) [tt 23, tt 24], gI 26 .mov [tt 1], gI 27 .mov [tt 6], gI 28 (.pure (.bin .add)) [tt 27, ti 2], gI 29 (.pure (.sliceStr true false)) [tt 26, tt 28], gI 30 (.build [AV.str [], AV.str [], AV.str [], AV.bool false] [(1, 1), (2, 1), (3, 1)]) [tt 25, tt 29, .c (AV.bool true)], gI 31 .mov [tt 5], gS (.store 4) [tt 4, tt 30], gI 5 .mov [tt 31]])
(.ret [4, 5])))))
.skip))
(.seq
(RR [0, 4, 5] [gI 33 .mov [tt 1], gI 34 (.call 78) [tt 33], gI 32 .mov [tt 34], gI 35 (.pure (.extract 0)) [tt 32], gI 36 (.pure (.extract 1)) [tt 32], gI 37 (.pure (.extract 2)) [tt 32], gI 38 (.pure (.faddr 0)) [tt 4], gS (.store 1) [tt 38, tt 35], gI 39 (.pure (.faddr 1)) [tt 4], gS (.store 1) [tt 39, tt 36], gI 5 .mov [tt 37]])
(.seq
(.seq
(RR [0, 4, 5, 7] [gI 40 (.pure (.faddr 1)) [tt 4], gI 41 (.load 1 false false) [tt 40], gI 42 (.call 79) [tt 41, .c (AV.int .u8 45)], gI 7 .mov [tt 42]])
(.seq
(RR [0, 4, 5, 7, 44] [gI 43 .mov [tt 7], gI 44 (.pure (.bin .geq)) [tt 43, ti 0]])
(.cond (.t 44 false)
(.region (some ([10, 12, 14], [])) [0, 4, 5] [gI 45 (.pure (.faddr 1)) [tt 4], gI 46 (.load 1 false false) [tt 45], gI 47 .mov [tt 7], gI 48 (.pure (.sliceStr false true)) [tt 46, tt 47], gI 49 (.pure (.faddr 1)) [tt 4], gI 50 (.load 1 false false) [tt 49], gI 51 .mov [tt 7], gI 52 (.pure (.bin .add)) [tt 51, ti 1], gI 53 (.pure (.sliceStr true false)) [tt 50, tt 52], gI 54 (.pure (.faddr 1)) [tt 4], gS (.store 1) [tt 54, tt 48], gI 55 (.pure (.faddr 2)) [tt 4], gS (.store 1) [tt 55, tt 53], gI 56 (.pure (.faddr 3)) [tt 4], gS (.store 1) [tt 56, .c (AV.bool true)]])
.skip)))
(.cut 100011 [0, 4, 5] [4, 5] k39_11))))),
 [.cell 4 4 true, .tmp 5 false], false⟩
def a39 : Ann := mkAnn [] [] false [(6, [9]), (10, [10, 12, 14]), (13, [16]), (17, [24])] [] [(0, [0, 1, 4]), (1, [0, 1, 4, 10]), (2, [1, 4, 5]), (3, [1, 4, 5, 6]), (4, [1, 4, 5, 6, 19]), (5, [4, 5]), (6, [4, 5]), (7, [0, 4, 5]), (8, [0, 4, 5, 7]), (9, [0, 4, 5, 7, 44]), (10, [0, 4, 5]), (11, [4, 5, 58]), (12, [4, 5]), (13, [4, 5]), (14, [4, 5, 8]), (15, [4, 5, 8, 89]), (16, [4, 5, 8]), (17, [4, 5])] [] [] [(11, [0, 4, 5], [4, 5]), (17, [4, 5, 8], [4, 5])] [] [4, 5] [false, false] [(12, [(2, none), (11, some 71)]), (13, [(3, none), (3, some 77), (1, none), (4, some 82), (1, none), (4, some 87)]), (17, [(3, none), (5, some 97), (1, none), (5, some 103), (1, none), (9, some 113)])] [] []
set_option maxRecDepth 100000 in
theorem c39 : convFn Tryd.prog a39 39 = some r39 := by kernel_rfl

/-- drayage/version.pieces -/
def k40_20 : RCode :=
(.seq
(RR [4, 8] [gI 72 .mov [.t 4 true], gI 73 .mov [tt 10], gI 74 .mov [tt 9], gI 75 (.build [AV.int .i64 0, AV.str [], AV.int .i64 0, AV.bool false] [(0, 1), (2, 1)]) [tt 73, tt 74], gI 76 (.bslice 4 true 1) [tt 75], gI 77 (.append 4 40 false) [.t 72 true, tt 76], gI 4 .mov [.t 77 true]])
(.seq
(RR [4, 8, 11] [gI 79 .mov [tt 8], gI 80 (.call 82) [tt 79], gI 78 .mov [tt 80], gI 81 (.pure (.extract 0)) [tt 78], gI 82 (.pure (.extract 1)) [tt 78], gI 11 .mov [tt 81], gI 8 .mov [tt 82]])
(.seq
(.seq
(RR [4, 8, 11, 84] [gI 83 .mov [tt 11], gI 84 (.pure (.bin .neq)) [tt 83, .c (AV.str [])]])
(.cond (.t 84 false)
(RR [4, 8] [gI 85 .mov [.t 4 true], gI 86 .mov [tt 11], gI 87 (.build [AV.int .i64 0, AV.str [], AV.int .i64 0, AV.bool false] [(0, 1), (1, 1)]) [ti 3, tt 86], gI 88 (.bslice 4 true 1) [tt 87], gI 89 (.append 4 40 false) [.t 85 true, tt 88], gI 4 .mov [.t 89 true]])
.skip))
(RR [0, 4] [gI 90 .mov [tt 8], gI 0 .mov [tt 90]]))))
def l40_12 : RCode :=
(.seq
(.seq
(RR [0, 4, 56] [gI 55 .mov [tt 0], gI 56 (.call 83) [tt 55, .c (AV.int .u8 95)]])
(.cond (.t 56 false)
.skip
(.exit 2 [0, 4])))
(.block 3
(.seq
(RR [4, 7, 8] [gI 58 .mov [tt 0], gI 59 (.pure (.sliceStr true false)) [tt 58, ti 1], gI 60 (.call 84) [tt 59], gI 57 .mov [tt 60], gI 61 (.pure (.extract 0)) [tt 57], gI 62 (.pure (.extract 1)) [tt 57], gI 7 .mov [tt 61], gI 8 .mov [tt 62]])
(.seq
(RR [4, 8, 9] [gI 63 (.bslice 1 false 9) [.c (AV.str [97, 108, 112, 104, 97]), .c (AV.str [98, 101, 116, 97]), .c (AV.str [112, 114, 101]), .c (AV.str [114, 99]), .c (AV.str [99, 118, 115]), .c (AV.str [115, 118, 110]), .c (AV.str [103, 105, 116]), .c (AV.str [104, 103]), .c (AV.str [112])], gI 64 .mov [tt 7], gI 65 (.call 75) [tt 63, tt 64], gI 9 .mov [tt 65]])
(.seq
(RR [4, 8, 9, 10] [gI 10 .mov [ti 4]])
(.seq
(.block 4
(.seq
(RR [4, 8, 9, 10, 66] [gI 67 .mov [tt 9], gI 68 (.pure (.bin .lss)) [tt 67, ti 0], gI 66 .mov [tt 68]])
(.cond (.t 66 false)
(.seq
(RR [2, 3] [gI 2 .mov [.c (AV.sl true 4 [])], gI 3 .mov [.c (AV.bool false)]])
(.ret [2, 3]))
(.seq
(RR [4, 8, 9, 10, 69] [gI 70 .mov [tt 9], gI 71 (.pure (.bin .lss)) [tt 70, ti 4], gI 69 .mov [tt 71]])
(.cond (.t 69 false)
(RR [4, 8, 9, 10] [gI 10 .mov [ti 0]])
.skip)))))
(.cut 100020 [4, 8, 9, 10] [0, 4] k40_20)))))))
def k40_12 : RCode :=
(.seq
(.block 2
(.loop 12 [0, 4] l40_12))
(.seq
(.seq
(RR [0, 4, 92] [gI 91 .mov [tt 0], gI 92 (.call 52) [tt 91, .c (AV.str [45, 114])]])
(.cond (.t 92 false)
(.seq
(RR [4, 12, 13] [gI 94 .mov [tt 0], gI 95 (.pure (.sliceStr true false)) [tt 94, ti 2], gI 96 (.call 82) [tt 95], gI 93 .mov [tt 96], gI 97 (.pure (.extract 0)) [tt 93], gI 98 (.pure (.extract 1)) [tt 93], gI 12 .mov [tt 97], gI 13 .mov [tt 98]])
(.seq
(.seq
(RR [4, 12, 13, 100] [gI 99 .mov [tt 12], gI 100 (.pure (.bin .eql)) [tt 99, .c (AV.str [])]])
(.cond (.t 100 false)
(.seq
(RR [2, 3] [gI 2 .mov [.c (AV.sl true 4 [])], gI 3 .mov [.c (AV.bool false)]])
(.ret [2, 3]))
.skip))
(.seq
(RR [4, 13] [gI 101 .mov [.t 4 true], gI 102 .mov [tt 12], gI 103 (.build [AV.int .i64 0, AV.str [], AV.int .i64 0, AV.bool false] [(0, 1), (1, 1)]) [ti 2, tt 102], gI 104 (.bslice 4 true 1) [tt 103], gI 105 (.append 4 40 false) [.t 101 true, tt 104], gI 4 .mov [.t 105 true]])
(RR [0, 4] [gI 106 .mov [tt 13], gI 0 .mov [tt 106]]))))
.skip))
(.seq
(RR [2, 3] [gI 107 .mov [.t 4 true], gI 108 .mov [tt 0], gI 109 (.pure (.bin .eql)) [tt 108, .c (AV.str [])], gI 2 .mov [.t 107 true], gI 3 .mov [tt 109]])
(.ret [2, 3]))))
def l40_2 : RCode :=
(.block 1
(.seq
(RR [4, 5, 6] [gI 15 .mov [tt 0], gI 16 (.call 82) [tt 15], gI 14 .mov [tt 16], gI 17 (.pure (.extract 0)) [tt 14], gI 18 (.pure (.extract 1)) [tt 14], gI 5 .mov [tt 17], gI 6 .mov [tt 18]])
(.seq
(.seq
(RR [4, 5, 6, 20] [gI 19 .mov [tt 5], gI 20 (.pure (.bin .eql)) [tt 19, .c (AV.str [])]])
(.cond (.t 20 false)
(.seq
(RR [2, 3] [gI 2 .mov [.c (AV.sl true 4 [])], gI 3 .mov [.c (AV.bool false)]])
(.ret [2, 3]))
.skip))
(.seq
(RR [4, 6] [gI 21 .mov [.t 4 true], gI 22 .mov [tt 5], gI 23 .mov [tt 4], gI 24 (.pure .lenSl) [tt 23], gI 25 (.pure (.bin .eql)) [tt 24, ti 0], gI 26 (.build [AV.int .i64 0, AV.str [], AV.int .i64 0, AV.bool false] [(0, 1), (1, 1), (3, 1)]) [ti 6, tt 22, tt 25], gI 27 (.bslice 4 true 1) [tt 26], gI 28 (.append 4 40 false) [.t 21 true, tt 27], gI 4 .mov [.t 28 true]])
(.seq
(RR [0, 4] [gI 29 .mov [tt 6], gI 0 .mov [tt 29]])
(.seq
(.seq
(RR [0, 4, 32] [gI 30 .mov [tt 0], gI 31 (.call 83) [tt 30, .c (AV.int .u8 46)], gI 32 (.pure (.un .not)) [tt 31]])
(.cond (.t 32 false)
(.exit 0 [0, 4])
.skip))
(RR [0, 4] [gI 33 .mov [tt 0], gI 34 (.pure (.sliceStr true false)) [tt 33, ti 1], gI 0 .mov [tt 34]])))))))
def r40 : RFunc := ⟨110,
(.seq
(RR [0] [gI 2 .mov [.c (AV.sl true 4 [])], gI 3 .mov [.c (AV.bool false)]])
(.seq
(RR [0, 4] [gI 4 .mov [.c (AV.sl true 4 [])]])
(.seq
(.block 0
(.loop 2 [0, 4] l40_2))
(.seq
(.seq
(RR [0, 4, 46] [gI 35 .mov [tt 0], gI 36 (.pure (.bin .neq)) [tt 35, .c (AV.str [])], gI 37 .mov [tt 36], .sub [(⟨some 38, .mov, [tt 0], some (37, true)⟩, .any),
    (⟨some 39, .pure .idxStr, [tt 38, ti 0], some (37, true)⟩, .any),
    (⟨some 40, .pure (.bin .geq), [tt 39, .c (AV.int .u8 97)], some (37, true)⟩, .any),
    (⟨some 41, .pure .pick, [tt 37, tt 40, .c (AV.bool false)], none⟩, .any)] 41, gI 42 .mov [tt 41], .sub [(⟨some 43, .mov, [tt 0], some (42, true)⟩, .any),
    (⟨some 44, .pure .idxStr, [tt 43, ti 0], some (42, true)⟩, .any),
    (⟨some 45, .pure (.bin .leq), [tt 44, .c (AV.int .u8 122)], some (42, true)⟩, .any),
    (⟨some 46, .pure .pick, [tt 42, tt 45, .c (AV.bool false)], none⟩, .any)] 46])
(.cond (.t 46 false)
(.seq
(RR [0, 4] [gI 47 .mov [.t 4 true], gI 48 .mov [tt 0], gI 49 (.pure (.sliceStr false true)) [tt 48, ti 1], gI 50 (.build [AV.int .i64 0, AV.str [], AV.int .i64 0, AV.bool false] [(0, 1), (1, 1)]) [ti 5, tt 49], gI 51 (.bslice 4 true 1) [tt 50], gI 52 (.append 4 40 false) [.t 47 true, tt 51], gI 4 .mov [.t 52 true]])
(RR [0, 4] [gI 53 .mov [tt 0], gI 54 (.pure (.sliceStr true false)) [tt 53, ti 1], gI 0 .mov [tt 54]]))
.skip))
(.cut 100012 [0, 4] [2, 3] k40_12))))),
 [.tmp 2 true, .tmp 3 false], false⟩
def a40 : Ann := mkAnn [(0, 0, [true]), (1, 0, [true]), (4, 0, [true]), (5, 0, [true]), (5, 7, [true]), (5, 8, [true]), (10, 0, [true]), (10, 5, [true]), (10, 6, [true]), (17, 0, [true]), (20, 0, [true]), (20, 5, [true]), (20, 6, [true]), (23, 0, [true]), (23, 4, [true]), (23, 5, [true]), (28, 0, [true]), (29, 0, [true]), (29, 4, [true]), (29, 5, [true]), (31, 0, [true]), (31, 3, [true])] [(2, [0, 4]), (12, [0, 4])] false [] [] [(0, [0]), (1, [0, 4]), (2, [4, 5, 6]), (3, [4, 5, 6, 20]), (4, [2, 3]), (5, [4, 6]), (6, [0, 4]), (7, [0, 4, 32]), (8, [0, 4]), (9, [0, 4, 46]), (10, [0, 4]), (11, [0, 4]), (12, [0, 4, 56]), (13, [4, 7, 8]), (14, [4, 8, 9]), (15, [4, 8, 9, 10]), (16, [4, 8, 9, 10, 66]), (17, [2, 3]), (18, [4, 8, 9, 10, 69]), (19, [4, 8, 9, 10]), (20, [4, 8]), (21, [4, 8, 11]), (22, [4, 8, 11, 84]), (23, [4, 8]), (24, [0, 4]), (25, [0, 4, 92]), (26, [4, 12, 13]), (27, [4, 12, 13, 100]), (28, [2, 3]), (29, [4, 13]), (30, [0, 4]), (31, [2, 3])] [] [(0, 0, [9]), (1, 0, [9]), (4, 0, [9]), (17, 0, [9]), (28, 0, [9])] [(12, [0, 4], [2, 3]), (20, [4, 8, 9, 10], [0, 4])] [(0, [0, 4]), (1, [0, 4]), (2, [0, 4]), (3, [0, 4]), (4, [4, 8, 9, 10])] [2, 3] [true, false] [(9, [(3, none), (4, some 41), (1, none), (4, some 46)])] [] []
set_option maxRecDepth 100000 in
theorem c40 : convFn Tryd.prog a40 40 = some r40 := by kernel_rfl

/-- slices.CompareFunc[[]drayage/version.piece,[]drayage/version.piece,drayage/version.piece,drayage/version.piece] -/
def l41_2 : RCode :=
 (.frame
(.seq
(RR [0, 1, 2, 11, 12, 13, 14] [gI 14 (.pure (.bin .lss)) [tt 13, tt 12]])
(.seq
(.cond (.t 14 false)
.skip
(.exit 0 [0, 1]))
(.seq
(.block 1
(.seq
(RR [0, 1, 2, 7, 8, 11, 12, 13] [gI 15 .mov [tt 13], .one ⟨some 16, .pure (.iaddr 4), [tt 11, tt 13], none⟩ (.agg [(.int .i64), .str, (.int .i64), .bool]), gI 17 (.load 4 true false) [tt 16], gI 8 (.new 4) [.c (AV.agg [AV.int .i64 0, AV.str [], AV.int .i64 0, AV.bool false])], gI 7 .mov [tt 15], gS (.store 4) [tt 8, tt 17]])
(.seq
(.seq
(RR [0, 1, 2, 7, 8, 11, 12, 13, 21] [gI 18 .mov [tt 7], gI 19 .mov [tt 1], gI 20 (.pure .lenSl) [tt 19], gI 21 (.pure (.bin .geq)) [tt 18, tt 20]])
(.cond (.t 21 false)
(.seq
(RR [6] [gI 6 .mov [ti 1]])
(.ret [6]))
.skip))
(.seq
(RR [0, 1, 2, 8, 9, 11, 12, 13] [gI 22 .mov [tt 1], gI 23 .mov [tt 7], .one ⟨some 24, .pure (.iaddr 4), [tt 22, tt 23], none⟩ (.agg [(.int .i64), .str, (.int .i64), .bool]), gI 25 (.load 4 true false) [tt 24], gI 9 (.new 4) [.c (AV.agg [AV.int .i64 0, AV.str [], AV.int .i64 0, AV.bool false])], gS (.store 4) [tt 9, tt 25]])
(.seq
(RR [0, 1, 2, 10, 11, 12, 13] [gI 26 .mov [tt 2], gI 27 (.load 4 true false) [tt 8], gI 28 (.load 4 true false) [tt 9], gI 29 .callv [tt 26, tt 27, tt 28], gI 10 .mov [tt 29]])
(.seq
(RR [0, 1, 2, 10, 11, 12, 13, 31] [gI 30 .mov [tt 10], gI 31 (.pure (.bin .neq)) [tt 30, ti 0]])
(.cond (.t 31 false)
(.seq
(RR [6] [gI 32 .mov [tt 10], gI 6 .mov [tt 32]])
(.ret [6]))
.skip)))))))
(RR [0, 1, 2, 11, 12, 13] [gI 33 (.pure (.bin .add)) [tt 13, ti 1], gI 13 .mov [tt 33]])))))
def r41 : RFunc := ⟨39,
(.seq
(RR [0, 1, 2] [gI 6 .mov [ti 0]])
(.seq
(.seq
(RR [0, 1, 2, 11, 12, 13] [gI 11 .mov [tt 0], gI 12 (.pure .lenSl) [tt 11], gI 13 .mov [ti 0]])
(.block 0
(.loop 2 [0, 1, 2, 11, 12, 13] l41_2)))
(.seq
(.seq
(RR [38] [gI 34 .mov [tt 0], gI 35 (.pure .lenSl) [tt 34], gI 36 .mov [tt 1], gI 37 (.pure .lenSl) [tt 36], gI 38 (.pure (.bin .lss)) [tt 35, tt 37]])
(.cond (.t 38 false)
(.seq
(RR [6] [gI 6 .mov [ti (-1)]])
(.ret [6]))
.skip))
(.seq
(RR [6] [gI 6 .mov [ti 0]])
(.ret [6]))))),
 [.tmp 6 false], false⟩
def a41 : Ann := mkAnn [] [(2, [0, 1, 2, 11, 12, 13])] false [] [] [(0, [0, 1, 2]), (1, [0, 1, 2, 11, 12, 13]), (2, [0, 1, 2, 11, 12, 13, 14]), (3, [0, 1, 2, 7, 8, 11, 12, 13]), (4, [0, 1, 2, 7, 8, 11, 12, 13, 21]), (5, [6]), (6, [0, 1, 2, 8, 9, 11, 12, 13]), (7, [0, 1, 2, 10, 11, 12, 13]), (8, [0, 1, 2, 10, 11, 12, 13, 31]), (9, [6]), (10, [0, 1, 2, 11, 12, 13]), (11, [38]), (12, [6]), (13, [6])] [] [] [] [(0, [0, 1]), (1, [0, 1, 2, 11, 12, 13])] [6] [false] [] [(3, 1, (.agg [(.int .i64), .str, (.int .i64), .bool])), (6, 2, (.agg [(.int .i64), .str, (.int .i64), .bool]))] [2]
set_option maxRecDepth 100000 in
theorem c41 : convFn Tryd.prog a41 41 = some r41 := by kernel_rfl

/-- (drayage/version.piece).compare -/
def r42 : RFunc := ⟨72,
(.seq
(RR [2, 3] [gI 2 (.new 4) [tt 0], gI 3 (.new 4) [tt 1], gI 4 .mov [ti 0]])
(.seq
(.seq
(RR [2, 3, 5] [gI 7 (.pure (.faddr 0)) [tt 2], gI 8 (.load 1 false false) [tt 7], gI 9 (.pure (.faddr 0)) [tt 3], gI 10 (.load 1 false false) [tt 9], gI 11 (.call 72) [tt 8, tt 10], gI 5 .mov [tt 11]])
(.seq
(RR [2, 3, 5, 13] [gI 12 .mov [tt 5], gI 13 (.pure (.bin .neq)) [tt 12, ti 0]])
(.cond (.t 13 false)
(.seq
(RR [4] [gI 14 .mov [tt 5], gI 4 .mov [tt 14]])
(.ret [4]))
.skip)))
(.seq
(RR [2, 3, 6] [gI 6 .mov [.c (.fn 85 [])]])
(.seq
(.block 0
(.seq
(RR [2, 3, 15] [gI 16 (.pure (.faddr 0)) [tt 2], gI 17 (.load 1 false false) [tt 16], gI 18 (.pure (.bin .eql)) [tt 17, ti 6], gI 19 .mov [tt 18], .sub [(⟨some 20, .pure (.faddr 3), [tt 2], some (19, true)⟩, .any),
    (⟨some 21, .load 1 false false, [tt 20], some (19, true)⟩, .any),
    (⟨some 22, .pure (.un .not), [tt 21], some (19, true)⟩, .any),
    (⟨some 23, .pure .pick, [tt 19, tt 22, .c (AV.bool false)], none⟩, .any)] 23, gI 24 .mov [tt 23], .one ⟨some 25, .mov, [tt 6], some (24, true)⟩ .any, .one ⟨some 26, .pure (.faddr 1), [tt 2], some (24, true)⟩ .any, .one ⟨some 27, .load 1 false false, [tt 26], some (24, true)⟩ .any, .one ⟨some 28, .callv, [tt 25, tt 27], some (24, true)⟩ .any, .one ⟨some 29, .mov, [tt 28], some (24, true)⟩ .any, .one ⟨some 30, .mov, [tt 6], some (29, false)⟩ .any, .one ⟨some 31, .pure (.faddr 1), [tt 3], some (29, false)⟩ .any, .one ⟨some 32, .load 1 false false, [tt 31], some (29, false)⟩ .any, .one ⟨some 33, .callv, [tt 30, tt 32], some (29, false)⟩ .any, .sub [(⟨some 34, .pure .pick, [tt 29, .c (AV.bool true), tt 33], some (24, true)⟩, .any),
    (⟨some 35, .pure .pick, [tt 24, tt 34, .c (AV.bool false)], none⟩, .any)] 35, gI 15 .mov [tt 35]])
(.cond (.t 15 false)
(.seq
(RR [4] [gI 36 (.pure (.faddr 1)) [tt 2], gI 37 (.load 1 false false) [tt 36], gI 38 (.pure (.faddr 1)) [tt 3], gI 39 (.load 1 false false) [tt 38], gI 40 (.call 86) [tt 37, tt 39], gI 4 .mov [tt 40]])
(.ret [4]))
(.seq
(RR [2, 3, 41] [gI 42 (.pure (.faddr 0)) [tt 2], gI 43 (.load 1 false false) [tt 42], gI 44 (.pure (.bin .eql)) [tt 43, ti 6], gI 45 .mov [tt 44], .sub [(⟨some 46, .pure (.faddr 0), [tt 2], some (45, false)⟩, .any),
    (⟨some 47, .load 1 false false, [tt 46], some (45, false)⟩, .any),
    (⟨some 48, .pure (.bin .eql), [tt 47, ti 3], some (45, false)⟩, .any),
    (⟨some 49, .pure .pick, [tt 45, .c (AV.bool true), tt 48], none⟩, .any)] 49, gI 50 .mov [tt 49], .sub [(⟨some 51, .pure (.faddr 0), [tt 2], some (50, false)⟩, .any),
    (⟨some 52, .load 1 false false, [tt 51], some (50, false)⟩, .any),
    (⟨some 53, .pure (.bin .eql), [tt 52, ti 2], some (50, false)⟩, .any),
    (⟨some 54, .pure .pick, [tt 50, .c (AV.bool true), tt 53], none⟩, .any)] 54, gI 41 .mov [tt 54]])
(.cond (.t 41 false)
(.seq
(RR [4] [gI 55 (.pure (.faddr 1)) [tt 2], gI 56 (.load 1 false false) [tt 55], gI 57 (.pure (.faddr 1)) [tt 3], gI 58 (.load 1 false false) [tt 57], gI 59 (.call 46) [tt 56, tt 58], gI 4 .mov [tt 59]])
(.ret [4]))
.skip)))))
(.seq
(.region (some ([], [])) [4] [gI 60 (.pure (.faddr 2)) [tt 2], gI 61 (.load 1 false false) [tt 60], gI 62 (.pure (.faddr 2)) [tt 3], gI 63 (.load 1 false false) [tt 62], gI 64 (.call 72) [tt 61, tt 63], gI 65 (.pure (.faddr 1)) [tt 2], gI 66 (.load 1 false false) [tt 65], gI 67 (.pure (.faddr 1)) [tt 3], gI 68 (.load 1 false false) [tt 67], gI 69 (.call 86) [tt 66, tt 68], gI 70 (.bslice 1 false 2) [tt 64, tt 69], gI 71 (.call 45) [tt 70], gI 4 .mov [tt 71]])
(.ret [4])))))),
 [.tmp 4 false], false⟩
def a42 : Ann := mkAnn [] [] false [(9, [])] [] [(0, [2, 3]), (1, [2, 3, 5]), (2, [2, 3, 5, 13]), (3, [4]), (4, [2, 3, 6]), (5, [2, 3, 15]), (6, [4]), (7, [2, 3, 41]), (8, [4]), (9, [4])] [] [] [] [(0, [2, 3])] [4] [false] [(5, [(4, none), (4, some 23), (10, none), (2, some 35)]), (7, [(4, none), (4, some 49), (1, none), (4, some 54)])] [] []
set_option maxRecDepth 100000 in
theorem c42 : convFn Tryd.prog a42 42 = some r42 := by kernel_rfl

/-- drayage/version.dpkg -/
def l43_2 : RCode :=
(.seq
(.seq
(RR [0, 1, 22] [gI 15 .mov [tt 0], gI 16 (.call 87) [tt 15], gI 17 (.pure (.bin .neq)) [tt 16, ti 0], gI 18 .mov [tt 17], .sub [(⟨some 19, .mov, [tt 1], some (18, false)⟩, .any),
    (⟨some 20, .call 87, [tt 19], some (18, false)⟩, .any),
    (⟨some 21, .pure (.bin .neq), [tt 20, ti 0], some (18, false)⟩, .any),
    (⟨some 22, .pure .pick, [tt 18, .c (AV.bool true), tt 21], none⟩, .any)] 22])
(.cond (.t 22 false)
.skip
(.exit 2 [0, 1])))
(.block 3
(.seq
(.seq
(RR [0, 1, 5] [gI 23 .mov [tt 0], gI 24 (.call 87) [tt 23], gI 25 .mov [tt 1], gI 26 (.call 87) [tt 25], gI 27 (.call 72) [tt 24, tt 26], gI 5 .mov [tt 27]])
(.seq
(RR [0, 1, 5, 29] [gI 28 .mov [tt 5], gI 29 (.pure (.bin .neq)) [tt 28, ti 0]])
(.cond (.t 29 false)
(.seq
(RR [4] [gI 30 .mov [tt 5], gI 4 .mov [tt 30]])
(.ret [4]))
.skip)))
(.region (some ([], [])) [0, 1] [gI 31 .mov [tt 0], gI 32 (.pure (.sliceStr true false)) [tt 31, ti 1], gI 33 .mov [tt 1], gI 34 (.pure (.sliceStr true false)) [tt 33, ti 1], gI 0 .mov [tt 32], gI 1 .mov [tt 34]]))))
def l43_1 : RCode :=
(.seq
(.seq
(RR [0, 1, 14] [gI 9 .mov [tt 0], gI 10 (.pure (.bin .neq)) [tt 9, .c (AV.str [])], gI 11 .mov [tt 10], .sub [(⟨some 12, .mov, [tt 1], some (11, false)⟩, .any),
    (⟨some 13, .pure (.bin .neq), [tt 12, .c (AV.str [])], some (11, false)⟩, .any),
    (⟨some 14, .pure .pick, [tt 11, .c (AV.bool true), tt 13], none⟩, .any)] 14])
(.cond (.t 14 false)
.skip
(.exit 0 [])))
(.block 1
(.seq
(.block 2
(.loop 2 [0, 1] l43_2))
(.seq
(RR [0, 1] [gI 6 .mov [.c (AV.str [])], gI 7 .mov [.c (AV.str [])]])
(.seq
(RR [0, 1, 6] [gI 36 .mov [tt 0], gI 37 (.call 82) [tt 36], gI 35 .mov [tt 37], gI 38 (.pure (.extract 0)) [tt 35], gI 39 (.pure (.extract 1)) [tt 35], gI 6 .mov [tt 38], gI 0 .mov [tt 39]])
(.seq
(RR [0, 1, 6, 7] [gI 41 .mov [tt 1], gI 42 (.call 82) [tt 41], gI 40 .mov [tt 42], gI 43 (.pure (.extract 0)) [tt 40], gI 44 (.pure (.extract 1)) [tt 40], gI 7 .mov [tt 43], gI 1 .mov [tt 44]])
(.seq
(RR [0, 1, 8] [gI 45 .mov [tt 6], gI 46 .mov [tt 7], gI 47 (.call 46) [tt 45, tt 46], gI 8 .mov [tt 47]])
(.seq
(RR [0, 1, 8, 49] [gI 48 .mov [tt 8], gI 49 (.pure (.bin .neq)) [tt 48, ti 0]])
(.cond (.t 49 false)
(.seq
(RR [4] [gI 50 .mov [tt 8], gI 4 .mov [tt 50]])
(.ret [4]))
.skip)))))))))
def r43 : RFunc := ⟨51,
(.seq
(RR [0, 1] [gI 4 .mov [ti 0]])
(.seq
(.block 0
(.loop 1 [0, 1] l43_1))
(.seq
(RR [4] [gI 4 .mov [ti 0]])
(.ret [4])))),
 [.tmp 4 false], false⟩
def a43 : Ann := mkAnn [] [(1, [0, 1]), (2, [0, 1])] false [(6, [])] [] [(0, [0, 1]), (1, [0, 1, 14]), (2, [0, 1, 22]), (3, [0, 1, 5]), (4, [0, 1, 5, 29]), (5, [4]), (6, [0, 1]), (7, [0, 1]), (8, [0, 1, 6]), (9, [0, 1, 6, 7]), (10, [0, 1, 8]), (11, [0, 1, 8, 49]), (12, [4]), (13, [4])] [] [] [] [(0, []), (1, [0, 1]), (2, [0, 1]), (3, [0, 1])] [4] [false] [(1, [(3, none), (3, some 14)]), (2, [(4, none), (4, some 22)])] [] []
set_option maxRecDepth 100000 in
theorem c43 : convFn Tryd.prog a43 43 = some r43 := by kernel_rfl

/-- drayage/version.rpm -/
def l44_1 : RCode :=
(.block 1
(.seq
(RR [0, 1] [gI 12 .mov [tt 0], gI 13 (.call 88) [tt 12], gI 14 .mov [tt 1], gI 15 (.call 88) [tt 14], gI 0 .mov [tt 13], gI 1 .mov [tt 15]])
(.seq
(RR [0, 1, 5, 6, 7, 8] [gI 16 .mov [tt 0], gI 17 (.call 83) [tt 16, .c (AV.int .u8 126)], gI 18 .mov [tt 1], gI 19 (.call 83) [tt 18, .c (AV.int .u8 126)], gI 20 .mov [tt 0], gI 21 (.call 83) [tt 20, .c (AV.int .u8 94)], gI 22 .mov [tt 1], gI 23 (.call 83) [tt 22, .c (AV.int .u8 94)], gI 5 .mov [tt 17], gI 6 .mov [tt 19], gI 7 .mov [tt 21], gI 8 .mov [tt 23]])
(.seq
(.block 2
(.seq
(RR [0, 1, 5, 7, 8, 24] [gI 25 .mov [tt 5], gI 26 .mov [tt 6], gI 27 (.pure (.binB .neq)) [tt 25, tt 26], gI 24 .mov [tt 27]])
(.cond (.t 24 false)
(.seq
(RR [4] [gI 28 .mov [tt 5], gI 29 (.call 89) [tt 28], gI 4 .mov [tt 29]])
(.ret [4]))
(.seq
(RR [0, 1, 5, 7, 8, 30] [gI 31 .mov [tt 7], gI 32 .mov [tt 8], gI 33 (.pure (.binB .neq)) [tt 31, tt 32], gI 34 .mov [tt 33], .sub [(⟨some 35, .mov, [tt 0], some (34, true)⟩, .any),
    (⟨some 36, .pure (.bin .eql), [tt 35, .c (AV.str [])], some (34, true)⟩, .any),
    (⟨some 37, .mov, [tt 36], some (34, true)⟩, .any),
    (⟨some 38, .mov, [tt 1], some (37, false)⟩, .any),
    (⟨some 39, .pure (.bin .eql), [tt 38, .c (AV.str [])], some (37, false)⟩, .any),
    (⟨some 40, .pure .pick, [tt 37, .c (AV.bool true), tt 39], some (34, true)⟩, .any),
    (⟨some 41, .pure .pick, [tt 34, tt 40, .c (AV.bool false)], none⟩, .any)] 41, gI 30 .mov [tt 41]])
(.cond (.t 30 false)
(.seq
(RR [4] [gI 42 .mov [tt 7], gI 43 (.call 89) [tt 42], gI 44 (.pure (.un .neg)) [tt 43], gI 4 .mov [tt 44]])
(.ret [4]))
(.seq
(RR [0, 1, 5, 7, 45] [gI 46 .mov [tt 7], gI 47 .mov [tt 8], gI 48 (.pure (.binB .neq)) [tt 46, tt 47], gI 45 .mov [tt 48]])
(.cond (.t 45 false)
(.seq
(RR [4] [gI 49 .mov [tt 7], gI 50 (.call 89) [tt 49], gI 4 .mov [tt 50]])
(.ret [4]))
(.seq
(RR [0, 1, 51] [gI 52 .mov [tt 5], gI 53 .mov [tt 52], .sub [(⟨some 54, .mov, [tt 7], some (53, false)⟩, .any),
    (⟨some 55, .pure .pick, [tt 53, .c (AV.bool true), tt 54], none⟩, .any)] 55, gI 51 .mov [tt 55]])
(.cond (.t 51 false)
(.seq
(.region (some ([], [])) [0, 1] [gI 56 .mov [tt 0], gI 57 (.pure (.sliceStr true false)) [tt 56, ti 1], gI 58 .mov [tt 1], gI 59 (.pure (.sliceStr true false)) [tt 58, ti 1], gI 0 .mov [tt 57], gI 1 .mov [tt 59]])
(.exit 1 [0, 1]))
(.seq
(RR [0, 1, 60] [gI 61 .mov [tt 0], gI 62 (.pure (.bin .eql)) [tt 61, .c (AV.str [])], gI 63 .mov [tt 62], .sub [(⟨some 64, .mov, [tt 1], some (63, false)⟩, .any),
    (⟨some 65, .pure (.bin .eql), [tt 64, .c (AV.str [])], some (63, false)⟩, .any),
    (⟨some 66, .pure .pick, [tt 63, .c (AV.bool true), tt 65], none⟩, .any)] 66, gI 60 .mov [tt 66]])
(.cond (.t 60 false)
(.seq
(RR [4] [gI 67 .mov [tt 0], gI 68 (.pure .lenS) [tt 67], gI 69 (.pure .minI) [tt 68, ti 1], gI 70 .mov [tt 1], gI 71 (.pure .lenS) [tt 70], gI 72 (.pure .minI) [tt 71, ti 1], gI 73 (.call 72) [tt 69, tt 72], gI 4 .mov [tt 73]])
(.ret [4]))
.skip)))))))))))
(.seq
(RR [0, 1] [gI 9 .mov [.c (AV.str [])], gI 10 .mov [.c (AV.str [])]])
(.seq
(RR [0, 1] [gI 11 .mov [ti 0]])
(.seq
(.seq
(RR [0, 1, 76] [gI 74 .mov [tt 0], gI 75 (.pure .idxStr) [tt 74, ti 0], gI 76 (.call 81) [tt 75]])
(.cond (.t 76 false)
(.seq
(RR [0, 1, 9] [gI 78 .mov [tt 0], gI 79 (.call 82) [tt 78], gI 77 .mov [tt 79], gI 80 (.pure (.extract 0)) [tt 77], gI 81 (.pure (.extract 1)) [tt 77], gI 9 .mov [tt 80], gI 0 .mov [tt 81]])
(.seq
(RR [0, 1, 9, 10] [gI 83 .mov [tt 1], gI 84 (.call 82) [tt 83], gI 82 .mov [tt 84], gI 85 (.pure (.extract 0)) [tt 82], gI 86 (.pure (.extract 1)) [tt 82], gI 10 .mov [tt 85], gI 1 .mov [tt 86]])
(.seq
(RR [0, 1, 10, 11] [gI 87 .mov [tt 9], gI 88 .mov [tt 10], gI 89 (.call 46) [tt 87, tt 88], gI 11 .mov [tt 89]])
(.seq
(RR [0, 1, 11, 91] [gI 90 .mov [tt 10], gI 91 (.pure (.bin .eql)) [tt 90, .c (AV.str [])]])
(.cond (.t 91 false)
(RR [0, 1, 11] [gI 11 .mov [ti 1]])
.skip)))))
(.seq
(RR [0, 1, 9] [gI 93 .mov [tt 0], gI 94 (.call 84) [tt 93], gI 92 .mov [tt 94], gI 95 (.pure (.extract 0)) [tt 92], gI 96 (.pure (.extract 1)) [tt 92], gI 9 .mov [tt 95], gI 0 .mov [tt 96]])
(.seq
(RR [0, 1, 9, 10] [gI 98 .mov [tt 1], gI 99 (.call 84) [tt 98], gI 97 .mov [tt 99], gI 100 (.pure (.extract 0)) [tt 97], gI 101 (.pure (.extract 1)) [tt 97], gI 10 .mov [tt 100], gI 1 .mov [tt 101]])
(.seq
(RR [0, 1, 10, 11] [gI 102 .mov [tt 9], gI 103 .mov [tt 10], gI 104 (.call 86) [tt 102, tt 103], gI 11 .mov [tt 104]])
(.seq
(RR [0, 1, 11, 106] [gI 105 .mov [tt 10], gI 106 (.pure (.bin .eql)) [tt 105, .c (AV.str [])]])
(.cond (.t 106 false)
(RR [0, 1, 11] [gI 11 .mov [ti (-1)]])
.skip)))))))
(.seq
(RR [0, 1, 11, 108] [gI 107 .mov [tt 11], gI 108 (.pure (.bin .neq)) [tt 107, ti 0]])
(.cond (.t 108 false)
(.seq
(RR [4] [gI 109 .mov [tt 11], gI 4 .mov [tt 109]])
(.ret [4]))
.skip)))))))))
def r44 : RFunc := ⟨110,
(.seq
(RR [0, 1] [gI 4 .mov [ti 0]])
(.block 0
(.loop 1 [0, 1] l44_1))),
 [.tmp 4 false], false⟩
def a44 : Ann := mkAnn [] [(1, [0, 1])] false [(10, [])] [] [(0, [0, 1]), (1, [0, 1]), (2, [0, 1, 5, 6, 7, 8]), (3, [0, 1, 5, 7, 8, 24]), (4, [4]), (5, [0, 1, 5, 7, 8, 30]), (6, [4]), (7, [0, 1, 5, 7, 45]), (8, [4]), (9, [0, 1, 51]), (10, [0, 1]), (11, [0, 1, 60]), (12, [4]), (13, [0, 1]), (14, [0, 1]), (15, [0, 1, 76]), (16, [0, 1, 9]), (17, [0, 1, 9, 10]), (18, [0, 1, 10, 11]), (19, [0, 1, 11, 91]), (20, [0, 1, 11]), (21, [0, 1, 9]), (22, [0, 1, 9, 10]), (23, [0, 1, 10, 11]), (24, [0, 1, 11, 106]), (25, [0, 1, 11]), (26, [0, 1, 11, 108]), (27, [4])] [] [] [] [(0, [4]), (1, [0, 1]), (2, [0, 1])] [4] [false] [(5, [(4, none), (7, some 41)]), (9, [(2, none), (2, some 55)]), (11, [(3, none), (3, some 66)])] [] []
set_option maxRecDepth 100000 in
theorem c44 : convFn Tryd.prog a44 44 = some r44 := by kernel_rfl

/-- cmp.Or[int] -/
def l45_3 : RCode :=
(.seq
(RR [3, 6, 7, 8, 9] [gI 9 (.pure (.bin .lss)) [tt 8, tt 7]])
(.seq
(.cond (.t 9 false)
.skip
(.exit 0 [3]))
(.seq
(.block 1
(.seq
(RR [3, 5, 6, 7, 8] [.one ⟨some 10, .pure (.iaddr 1), [tt 6, tt 8], none⟩ (.int .i64), gI 11 (.load 1 false false) [tt 10], gI 5 .mov [tt 11]])
(.seq
(RR [3, 5, 6, 7, 8, 14] [gI 12 .mov [tt 5], gI 13 .mov [tt 3], gI 14 (.pure (.bin .neq)) [tt 12, tt 13]])
(.cond (.t 14 false)
(.seq
(RR [2] [gI 15 .mov [tt 5], gI 2 .mov [tt 15]])
(.ret [2]))
.skip))))
(RR [3, 6, 7, 8] [gI 16 (.pure (.bin .add)) [tt 8, ti 1], gI 8 .mov [tt 16]]))))
def r45 : RFunc := ⟨18,
(.seq
(RR [0] [gI 2 .mov [ti 0]])
(.seq
(RR [0, 3] [gI 3 .mov [ti 0]])
(.seq
(.seq
(RR [3, 6, 7, 8] [gI 6 .mov [tt 0], gI 7 (.pure .lenSl) [tt 6], gI 8 .mov [ti 0]])
(.block 0
(.loop 3 [3, 6, 7, 8] l45_3)))
(.seq
(RR [2] [gI 17 .mov [tt 3], gI 2 .mov [tt 17]])
(.ret [2]))))),
 [.tmp 2 false], false⟩
def a45 : Ann := mkAnn [] [(3, [3, 6, 7, 8])] false [] [] [(0, [0]), (1, [0, 3]), (2, [3, 6, 7, 8]), (3, [3, 6, 7, 8, 9]), (4, [3, 5, 6, 7, 8]), (5, [3, 5, 6, 7, 8, 14]), (6, [2]), (7, [3, 6, 7, 8]), (8, [2])] [] [] [] [(0, [3]), (1, [3, 6, 7, 8])] [2] [false] [] [(4, 0, (.int .i64))] []
set_option maxRecDepth 100000 in
theorem c45 : convFn Tryd.prog a45 45 = some r45 := by kernel_rfl

/-- drayage/version.numbers -/
def r46 : RFunc := ⟨19,
(.seq
(RR [0, 1] [gI 4 .mov [ti 0]])
(.seq
(RR [0, 1] [gI 5 .mov [tt 0], gI 6 (.call 90) [tt 5, .c (AV.str [48])], gI 7 .mov [tt 1], gI 8 (.call 90) [tt 7, .c (AV.str [48])], gI 0 .mov [tt 6], gI 1 .mov [tt 8]])
(.seq
(RR [4] [gI 9 .mov [tt 0], gI 10 (.pure .lenS) [tt 9], gI 11 .mov [tt 1], gI 12 (.pure .lenS) [tt 11], gI 13 (.call 72) [tt 10, tt 12], gI 14 .mov [tt 0], gI 15 .mov [tt 1], gI 16 (.call 86) [tt 14, tt 15], gI 17 (.bslice 1 false 2) [tt 13, tt 16], gI 18 (.call 45) [tt 17], gI 4 .mov [tt 18]])
(.ret [4])))),
 [.tmp 4 false], false⟩
def a46 : Ann := mkAnn [] [] false [] [] [(0, [0, 1]), (1, [0, 1]), (2, [4])] [] [] [] [] [4] [false] [] [] []
set_option maxRecDepth 100000 in
theorem c46 : convFn Tryd.prog a46 46 = some r46 := by kernel_rfl

/-- strings.Cut -/
def r50 : RFunc := ⟨13,
(.seq
(RR [0, 1] [gI 4 .mov [.c (AV.str [])], gI 5 .mov [.c (AV.str [])], gI 6 .mov [.c (AV.bool false)]])
(.seq
(RR [4, 5, 6] [gI 7 .mov [tt 0], gI 8 .mov [tt 1], gI 9 (.call 96) [tt 7, tt 8], gI 10 (.pure (.extract 0)) [tt 9], gI 11 (.pure (.extract 1)) [tt 9], gI 12 (.pure (.extract 2)) [tt 9], gI 4 .mov [tt 10], gI 5 .mov [tt 11], gI 6 .mov [tt 12]])
(.ret [4, 5, 6]))),
 [.tmp 4 false, .tmp 5 false, .tmp 6 false], false⟩
def a50 : Ann := mkAnn [] [] false [] [] [(0, [0, 1]), (1, [4, 5, 6])] [] [] [] [] [4, 5, 6] [false, false, false] [] [] []
set_option maxRecDepth 100000 in
theorem c50 : convFn Tryd.prog a50 50 = some r50 := by kernel_rfl

/-- strings.HasPrefix -/
def r52 : RFunc := ⟨8,
(.seq
(RR [0, 1] [gI 4 .mov [.c (AV.bool false)]])
(.seq
(RR [4] [gI 5 .mov [tt 0], gI 6 .mov [tt 1], gI 7 (.call 98) [tt 5, tt 6], gI 4 .mov [tt 7]])
(.ret [4]))),
 [.tmp 4 false], false⟩
def a52 : Ann := mkAnn [] [] false [] [] [(0, [0, 1]), (1, [4])] [] [] [] [] [4] [false] [] [] []
set_option maxRecDepth 100000 in
theorem c52 : convFn Tryd.prog a52 52 = some r52 := by kernel_rfl

/-- strings.IndexByte -/
def r69 : RFunc := ⟨8,
(.seq
(RR [0, 1] [gI 4 .mov [ti 0]])
(.seq
(RR [4] [gI 5 .mov [tt 0], gI 6 .mov [tt 1], gI 7 (.call 106) [tt 5, tt 6], gI 4 .mov [tt 7]])
(.ret [4]))),
 [.tmp 4 false], false⟩
def a69 : Ann := mkAnn [] [] false [] [] [(0, [0, 1]), (1, [4])] [] [] [] [] [4] [false] [] [] []
set_option maxRecDepth 100000 in
theorem c69 : convFn Tryd.prog a69 69 = some r69 := by kernel_rfl

/-- cmp.Compare[int] -/
def r72 : RFunc := ⟨20,
(.seq
(RR [0, 1] [gI 4 .mov [ti 0]])
(.seq
(RR [0, 1, 5] [gI 7 .mov [tt 0], gI 8 (.call 112) [tt 7], gI 5 .mov [tt 8]])
(.seq
(RR [0, 1, 5, 6] [gI 9 .mov [tt 1], gI 10 (.call 112) [tt 9], gI 6 .mov [tt 10]])
(.seq
(.seq
(RR [0, 1, 6, 11] [gI 11 .mov [tt 5]])
(.cond (.t 11 false)
(.seq
(.seq
(RR [12] [gI 12 .mov [tt 6]])
(.cond (.t 12 false)
(.seq
(RR [4] [gI 4 .mov [ti 0]])
(.ret [4]))
.skip))
(.seq
(RR [4] [gI 4 .mov [ti (-1)]])
(.ret [4])))
.skip))
(.seq
(.seq
(RR [0, 1, 13] [gI 13 .mov [tt 6]])
(.cond (.t 13 false)
(.seq
(RR [4] [gI 4 .mov [ti 1]])
(.ret [4]))
.skip))
(.seq
(.seq
(RR [0, 1, 16] [gI 14 .mov [tt 0], gI 15 .mov [tt 1], gI 16 (.pure (.bin .lss)) [tt 14, tt 15]])
(.cond (.t 16 false)
(.seq
(RR [4] [gI 4 .mov [ti (-1)]])
(.ret [4]))
.skip))
(.seq
(.seq
(RR [19] [gI 17 .mov [tt 0], gI 18 .mov [tt 1], gI 19 (.pure (.bin .gtr)) [tt 17, tt 18]])
(.cond (.t 19 false)
(.seq
(RR [4] [gI 4 .mov [ti 1]])
(.ret [4]))
.skip))
(.seq
(RR [4] [gI 4 .mov [ti 0]])
(.ret [4]))))))))),
 [.tmp 4 false], false⟩
def a72 : Ann := mkAnn [] [] false [] [] [(0, [0, 1]), (1, [0, 1, 5]), (2, [0, 1, 5, 6]), (3, [0, 1, 6, 11]), (4, [12]), (5, [4]), (6, [4]), (7, [0, 1, 13]), (8, [4]), (9, [0, 1, 16]), (10, [4]), (11, [19]), (12, [4]), (13, [4])] [] [] [] [] [4] [false] [] [] []
set_option maxRecDepth 100000 in
theorem c72 : convFn Tryd.prog a72 72 = some r72 := by kernel_rfl

/-- slices.Index[[]string,string] -/
def l75_2 : RCode :=
(.seq
(RR [0, 1, 7, 8, 9] [gI 9 (.pure (.bin .lss)) [tt 8, tt 7]])
(.seq
(.cond (.t 9 false)
.skip
(.exit 0 []))
(.seq
(.block 1
(.seq
(RR [0, 1, 5, 7, 8] [gI 10 .mov [tt 8], gI 5 .mov [tt 10]])
(.seq
(RR [0, 1, 5, 7, 8, 16] [gI 11 .mov [tt 1], gI 12 .mov [tt 0], gI 13 .mov [tt 5], .one ⟨some 14, .pure (.iaddr 1), [tt 12, tt 13], none⟩ .str, gI 15 (.load 1 false false) [tt 14], gI 16 (.pure (.bin .eql)) [tt 11, tt 15]])
(.cond (.t 16 false)
(.seq
(RR [4] [gI 17 .mov [tt 5], gI 4 .mov [tt 17]])
(.ret [4]))
.skip))))
(RR [0, 1, 7, 8] [gI 18 (.pure (.bin .add)) [tt 8, ti 1], gI 8 .mov [tt 18]]))))
def r75 : RFunc := ⟨19,
(.seq
(RR [0, 1] [gI 4 .mov [ti 0]])
(.seq
(.seq
(RR [0, 1, 7, 8] [gI 6 .mov [tt 0], gI 7 (.pure .lenSl) [tt 6], gI 8 .mov [ti 0]])
(.block 0
(.loop 2 [0, 1, 7, 8] l75_2)))
(.seq
(RR [4] [gI 4 .mov [ti (-1)]])
(.ret [4])))),
 [.tmp 4 false], false⟩
def a75 : Ann := mkAnn [] [(2, [0, 1, 7, 8])] false [] [] [(0, [0, 1]), (1, [0, 1, 7, 8]), (2, [0, 1, 7, 8, 9]), (3, [0, 1, 5, 7, 8]), (4, [0, 1, 5, 7, 8, 16]), (5, [4]), (6, [0, 1, 7, 8]), (7, [4])] [] [] [] [(0, []), (1, [0, 1, 7, 8])] [4] [false] [] [(4, 3, .str)] []
set_option maxRecDepth 100000 in
theorem c75 : convFn Tryd.prog a75 75 = some r75 := by kernel_rfl

/-- strings.LastIndex -/
def r77 : RFunc := ⟨36,
(.seq
(RR [0, 1] [gI 4 .mov [ti 0]])
(.seq
(RR [0, 1, 5] [gI 6 .mov [tt 1], gI 7 (.pure .lenS) [tt 6], gI 5 .mov [tt 7]])
(.seq
(.block 0
(.seq
(RR [0, 1, 5, 8] [gI 9 .mov [tt 5], gI 10 (.pure (.bin .eql)) [tt 9, ti 0], gI 8 .mov [tt 10]])
(.cond (.t 8 false)
(.seq
(RR [4] [gI 11 .mov [tt 0], gI 12 (.pure .lenS) [tt 11], gI 4 .mov [tt 12]])
(.ret [4]))
(.seq
(RR [0, 1, 5, 13] [gI 14 .mov [tt 5], gI 15 (.pure (.bin .eql)) [tt 14, ti 1], gI 13 .mov [tt 15]])
(.cond (.t 13 false)
(.seq
(RR [4] [gI 16 .mov [tt 0], gI 17 .mov [tt 1], gI 18 (.pure .idxStr) [tt 17, ti 0], gI 19 (.call 113) [tt 16, tt 18], gI 4 .mov [tt 19]])
(.ret [4]))
(.seq
(RR [0, 1, 5, 20] [gI 21 .mov [tt 5], gI 22 .mov [tt 0], gI 23 (.pure .lenS) [tt 22], gI 24 (.pure (.bin .eql)) [tt 21, tt 23], gI 20 .mov [tt 24]])
(.cond (.t 20 false)
(.seq
(.seq
(RR [27] [gI 25 .mov [tt 1], gI 26 .mov [tt 0], gI 27 (.pure (.bin .eql)) [tt 25, tt 26]])
(.cond (.t 27 false)
(.seq
(RR [4] [gI 4 .mov [ti 0]])
(.ret [4]))
.skip))
(.seq
(RR [4] [gI 4 .mov [ti (-1)]])
(.ret [4])))
(.seq
(RR [0, 1, 28] [gI 29 .mov [tt 5], gI 30 .mov [tt 0], gI 31 (.pure .lenS) [tt 30], gI 32 (.pure (.bin .gtr)) [tt 29, tt 31], gI 28 .mov [tt 32]])
(.cond (.t 28 false)
(.seq
(RR [4] [gI 4 .mov [ti (-1)]])
(.ret [4]))
.skip)))))))))
(.seq
(RR [4] [gI 33 .mov [tt 0], gI 34 .mov [tt 1], gI 35 (.call 114) [tt 33, tt 34], gI 4 .mov [tt 35]])
(.ret [4]))))),
 [.tmp 4 false], false⟩
def a77 : Ann := mkAnn [] [] false [] [] [(0, [0, 1]), (1, [0, 1, 5]), (2, [0, 1, 5, 8]), (3, [4]), (4, [0, 1, 5, 13]), (5, [4]), (6, [0, 1, 5, 20]), (7, [27]), (8, [4]), (9, [4]), (10, [0, 1, 28]), (11, [4]), (12, [4])] [] [] [] [(0, [0, 1])] [4] [false] [] [] []
set_option maxRecDepth 100000 in
theorem c77 : convFn Tryd.prog a77 77 = some r77 := by kernel_rfl

/-- drayage/version.epochs -/
def r78 : RFunc := ⟨37,
(.seq
(RR [0] [gI 2 .mov [.c (AV.str [])], gI 3 .mov [.c (AV.str [])], gI 4 .mov [.c (AV.bool false)]])
(.seq
(RR [0, 5, 6, 7] [gI 11 .mov [tt 0], gI 12 (.call 50) [tt 11, .c (AV.str [58])], gI 10 .mov [tt 12], gI 13 (.pure (.extract 0)) [tt 10], gI 14 (.pure (.extract 1)) [tt 10], gI 15 (.pure (.extract 2)) [tt 10], gI 5 .mov [tt 13], gI 6 .mov [tt 14], gI 7 .mov [tt 15]])
(.seq
(.seq
(RR [0, 5, 6, 17] [gI 16 .mov [tt 7], gI 17 (.pure (.un .not)) [tt 16]])
(.cond (.t 17 false)
(.seq
(RR [2, 3, 4] [gI 18 .mov [tt 0], gI 2 .mov [.c (AV.str [])], gI 3 .mov [tt 18], gI 4 .mov [.c (AV.bool true)]])
(.ret [2, 3, 4]))
.skip))
(.seq
(RR [5, 6, 8, 9] [gI 20 .mov [tt 5], gI 21 (.call 82) [tt 20], gI 19 .mov [tt 21], gI 22 (.pure (.extract 0)) [tt 19], gI 23 (.pure (.extract 1)) [tt 19], gI 8 .mov [tt 22], gI 9 .mov [tt 23]])
(.seq
(RR [2, 3, 4] [gI 24 .mov [tt 5], gI 25 .mov [tt 6], gI 26 .mov [tt 8], gI 27 (.pure (.bin .neq)) [tt 26, .c (AV.str [])], gI 28 .mov [tt 27], .sub [(⟨some 29, .mov, [tt 9], some (28, true)⟩, .any),
    (⟨some 30, .pure (.bin .eql), [tt 29, .c (AV.str [])], some (28, true)⟩, .any),
    (⟨some 31, .pure .pick, [tt 28, tt 30, .c (AV.bool false)], none⟩, .any)] 31, gI 32 .mov [tt 31], .sub [(⟨some 33, .mov, [tt 8], some (32, true)⟩, .any),
    (⟨some 34, .pure .lenS, [tt 33], some (32, true)⟩, .any),
    (⟨some 35, .pure (.bin .lss), [tt 34, ti 10], some (32, true)⟩, .any),
    (⟨some 36, .pure .pick, [tt 32, tt 35, .c (AV.bool false)], none⟩, .any)] 36, gI 2 .mov [tt 24], gI 3 .mov [tt 25], gI 4 .mov [tt 36]])
(.ret [2, 3, 4])))))),
 [.tmp 2 false, .tmp 3 false, .tmp 4 false], false⟩
def a78 : Ann := mkAnn [] [] false [] [] [(0, [0]), (1, [0, 5, 6, 7]), (2, [0, 5, 6, 17]), (3, [2, 3, 4]), (4, [5, 6, 8, 9]), (5, [2, 3, 4])] [] [] [] [] [2, 3, 4] [false, false, false] [(5, [(5, none), (3, some 31), (1, none), (4, some 36)])] [] []
set_option maxRecDepth 100000 in
theorem c78 : convFn Tryd.prog a78 78 = some r78 := by kernel_rfl

/-- strings.LastIndexByte -/
def r79 : RFunc := ⟨8,
(.seq
(RR [0, 1] [gI 4 .mov [ti 0]])
(.seq
(RR [4] [gI 5 .mov [tt 0], gI 6 .mov [tt 1], gI 7 (.call 113) [tt 5, tt 6], gI 4 .mov [tt 7]])
(.ret [4]))),
 [.tmp 4 false], false⟩
def a79 : Ann := mkAnn [] [] false [] [] [(0, [0, 1]), (1, [4])] [] [] [] [] [4] [false] [] [] []
set_option maxRecDepth 100000 in
theorem c79 : convFn Tryd.prog a79 79 = some r79 := by kernel_rfl

/-- drayage/version.made -/
def l80_2 : RCode :=
(.seq
(.seq
(RR [0, 1, 5, 9] [gI 6 .mov [tt 5], gI 7 .mov [tt 0], gI 8 (.pure .lenS) [tt 7], gI 9 (.pure (.bin .lss)) [tt 6, tt 8]])
(.cond (.t 9 false)
.skip
(.exit 0 [0])))
(.seq
(.block 1
(.seq
(RR [0, 1, 5, 31] [gI 12 .mov [tt 0], gI 13 .mov [tt 5], gI 14 (.pure .idxStr) [tt 12, tt 13], gI 15 (.call 81) [tt 14], gI 16 (.pure (.un .not)) [tt 15], gI 17 .mov [tt 16], .sub [(⟨some 18, .mov, [tt 0], some (17, true)⟩, .any),
    (⟨some 19, .mov, [tt 5], some (17, true)⟩, .any),
    (⟨some 20, .pure .idxStr, [tt 18, tt 19], some (17, true)⟩, .any),
    (⟨some 21, .call 115, [tt 20], some (17, true)⟩, .any),
    (⟨some 22, .pure (.un .not), [tt 21], some (17, true)⟩, .any),
    (⟨some 23, .pure .pick, [tt 17, tt 22, .c (AV.bool false)], none⟩, .any)] 23, gI 24 .mov [tt 23], .sub [(⟨some 25, .mov, [tt 1], some (24, true)⟩, .any),
    (⟨some 26, .mov, [tt 0], some (24, true)⟩, .any),
    (⟨some 27, .mov, [tt 5], some (24, true)⟩, .any),
    (⟨some 28, .pure .idxStr, [tt 26, tt 27], some (24, true)⟩, .any),
    (⟨some 29, .call 69, [tt 25, tt 28], some (24, true)⟩, .any),
    (⟨some 30, .pure (.bin .lss), [tt 29, ti 0], some (24, true)⟩, .any),
    (⟨some 31, .pure .pick, [tt 24, tt 30, .c (AV.bool false)], none⟩, .any)] 31])
(.cond (.t 31 false)
(.seq
(RR [4] [gI 4 .mov [.c (AV.bool false)]])
(.ret [4]))
.skip)))
(RR [0, 1, 5] [gI 10 .mov [tt 5], gI 11 (.pure (.bin .add)) [tt 10, ti 1], gI 5 .mov [tt 11]])))
def r80 : RFunc := ⟨34,
(.seq
(RR [0, 1] [gI 4 .mov [.c (AV.bool false)]])
(.seq
(.seq
(RR [0, 1, 5] [gI 5 .mov [ti 0]])
(.block 0
(.loop 2 [0, 1, 5] l80_2)))
(.seq
(RR [4] [gI 32 .mov [tt 0], gI 33 (.pure (.bin .neq)) [tt 32, .c (AV.str [])], gI 4 .mov [tt 33]])
(.ret [4])))),
 [.tmp 4 false], false⟩
def a80 : Ann := mkAnn [] [(2, [0, 1, 5])] false [] [] [(0, [0, 1]), (1, [0, 1, 5]), (2, [0, 1, 5, 9]), (3, [0, 1, 5]), (4, [0, 1, 5, 31]), (5, [4]), (6, [4])] [] [] [] [(0, [0]), (1, [0, 1, 5])] [4] [false] [(4, [(6, none), (6, some 23), (1, none), (7, some 31)])] [] []
set_option maxRecDepth 100000 in
theorem c80 : convFn Tryd.prog a80 80 = some r80 := by kernel_rfl

/-- drayage/version.digit -/
def r81 : RFunc := ⟨9,
(.seq
(RR [0] [gI 2 .mov [.c (AV.bool false)]])
(.seq
(RR [2] [gI 3 .mov [tt 0], gI 4 (.pure (.bin .geq)) [tt 3, .c (AV.int .u8 48)], gI 5 .mov [tt 4], .sub [(⟨some 6, .mov, [tt 0], some (5, true)⟩, .any),
    (⟨some 7, .pure (.bin .leq), [tt 6, .c (AV.int .u8 57)], some (5, true)⟩, .any),
    (⟨some 8, .pure .pick, [tt 5, tt 7, .c (AV.bool false)], none⟩, .any)] 8, gI 2 .mov [tt 8]])
(.ret [2]))),
 [.tmp 2 false], false⟩
def a81 : Ann := mkAnn [] [] false [] [] [(0, [0]), (1, [2])] [] [] [] [] [2] [false] [(1, [(3, none), (3, some 8)])] [] []
set_option maxRecDepth 100000 in
theorem c81 : convFn Tryd.prog a81 81 = some r81 := by kernel_rfl

/-- drayage/version.number -/
def l82_2 : RCode :=
(.seq
(.seq
(RR [0, 4, 14] [gI 5 .mov [tt 4], gI 6 .mov [tt 0], gI 7 (.pure .lenS) [tt 6], gI 8 (.pure (.bin .lss)) [tt 5, tt 7], gI 9 .mov [tt 8], .sub [(⟨some 10, .mov, [tt 0], some (9, true)⟩, .any),
    (⟨some 11, .mov, [tt 4], some (9, true)⟩, .any),
    (⟨some 12, .pure .idxStr, [tt 10, tt 11], some (9, true)⟩, .any),
    (⟨some 13, .call 81, [tt 12], some (9, true)⟩, .any),
    (⟨some 14, .pure .pick, [tt 9, tt 13, .c (AV.bool false)], none⟩, .any)] 14])
(.cond (.t 14 false)
.skip
(.exit 0 [0, 4])))
(.block 1
(RR [0, 4] [gI 15 .mov [tt 4], gI 16 (.pure (.bin .add)) [tt 15, ti 1], gI 4 .mov [tt 16]])))
def r82 : RFunc := ⟨23,
(.seq
(RR [0] [gI 2 .mov [.c (AV.str [])], gI 3 .mov [.c (AV.str [])]])
(.seq
(RR [0, 4] [gI 4 .mov [ti 0]])
(.seq
(.block 0
(.loop 2 [0, 4] l82_2))
(.seq
(.region (some ([], [])) [2, 3] [gI 17 .mov [tt 0], gI 18 .mov [tt 4], gI 19 (.pure (.sliceStr false true)) [tt 17, tt 18], gI 20 .mov [tt 0], gI 21 .mov [tt 4], gI 22 (.pure (.sliceStr true false)) [tt 20, tt 21], gI 2 .mov [tt 19], gI 3 .mov [tt 22]])
(.ret [2, 3]))))),
 [.tmp 2 false, .tmp 3 false], false⟩
def a82 : Ann := mkAnn [] [(2, [0, 4])] false [(4, [])] [] [(0, [0]), (1, [0, 4]), (2, [0, 4, 14]), (3, [0, 4]), (4, [2, 3])] [] [] [] [(0, [0, 4]), (1, [0, 4])] [2, 3] [false, false] [(2, [(5, none), (5, some 14)])] [] []
set_option maxRecDepth 100000 in
theorem c82 : convFn Tryd.prog a82 82 = some r82 := by kernel_rfl

/-- drayage/version.begins -/
def r83 : RFunc := ⟨13,
(.seq
(RR [0, 1] [gI 4 .mov [.c (AV.bool false)]])
(.seq
(RR [4] [gI 5 .mov [tt 0], gI 6 (.pure (.bin .neq)) [tt 5, .c (AV.str [])], gI 7 .mov [tt 6], .sub [(⟨some 8, .mov, [tt 0], some (7, true)⟩, .any),
    (⟨some 9, .pure .idxStr, [tt 8, ti 0], some (7, true)⟩, .any),
    (⟨some 10, .mov, [tt 1], some (7, true)⟩, .any),
    (⟨some 11, .pure (.bin .eql), [tt 9, tt 10], some (7, true)⟩, .any),
    (⟨some 12, .pure .pick, [tt 7, tt 11, .c (AV.bool false)], none⟩, .any)] 12, gI 4 .mov [tt 12]])
(.ret [4]))),
 [.tmp 4 false], false⟩
def a83 : Ann := mkAnn [] [] false [] [] [(0, [0, 1]), (1, [4])] [] [] [] [] [4] [false] [(1, [(3, none), (5, some 12)])] [] []
set_option maxRecDepth 100000 in
theorem c83 : convFn Tryd.prog a83 83 = some r83 := by kernel_rfl

/-- drayage/version.word -/
def l84_2 : RCode :=
(.seq
(.seq
(RR [0, 4, 14] [gI 5 .mov [tt 4], gI 6 .mov [tt 0], gI 7 (.pure .lenS) [tt 6], gI 8 (.pure (.bin .lss)) [tt 5, tt 7], gI 9 .mov [tt 8], .sub [(⟨some 10, .mov, [tt 0], some (9, true)⟩, .any),
    (⟨some 11, .mov, [tt 4], some (9, true)⟩, .any),
    (⟨some 12, .pure .idxStr, [tt 10, tt 11], some (9, true)⟩, .any),
    (⟨some 13, .call 115, [tt 12], some (9, true)⟩, .any),
    (⟨some 14, .pure .pick, [tt 9, tt 13, .c (AV.bool false)], none⟩, .any)] 14])
(.cond (.t 14 false)
.skip
(.exit 0 [0, 4])))
(.block 1
(RR [0, 4] [gI 15 .mov [tt 4], gI 16 (.pure (.bin .add)) [tt 15, ti 1], gI 4 .mov [tt 16]])))
def r84 : RFunc := ⟨23,
(.seq
(RR [0] [gI 2 .mov [.c (AV.str [])], gI 3 .mov [.c (AV.str [])]])
(.seq
(RR [0, 4] [gI 4 .mov [ti 0]])
(.seq
(.block 0
(.loop 2 [0, 4] l84_2))
(.seq
(.region (some ([], [])) [2, 3] [gI 17 .mov [tt 0], gI 18 .mov [tt 4], gI 19 (.pure (.sliceStr false true)) [tt 17, tt 18], gI 20 .mov [tt 0], gI 21 .mov [tt 4], gI 22 (.pure (.sliceStr true false)) [tt 20, tt 21], gI 2 .mov [tt 19], gI 3 .mov [tt 22]])
(.ret [2, 3]))))),
 [.tmp 2 false, .tmp 3 false], false⟩
def a84 : Ann := mkAnn [] [(2, [0, 4])] false [(4, [])] [] [(0, [0]), (1, [0, 4]), (2, [0, 4, 14]), (3, [0, 4]), (4, [2, 3])] [] [] [] [(0, [0, 4]), (1, [0, 4])] [2, 3] [false, false] [(2, [(5, none), (5, some 14)])] [] []
set_option maxRecDepth 100000 in
theorem c84 : convFn Tryd.prog a84 84 = some r84 := by kernel_rfl

/-- (drayage/version.piece).compare$1 -/
def r85 : RFunc := ⟨11,
(.seq
(RR [0] [gI 2 .mov [.c (AV.bool false)]])
(.seq
(RR [2] [gI 3 .mov [tt 0], gI 4 (.pure .lenS) [tt 3], gI 5 (.pure (.bin .gtr)) [tt 4, ti 1], gI 6 .mov [tt 5], .sub [(⟨some 7, .mov, [tt 0], some (6, true)⟩, .any),
    (⟨some 8, .pure .idxStr, [tt 7, ti 0], some (6, true)⟩, .any),
    (⟨some 9, .pure (.bin .eql), [tt 8, .c (AV.int .u8 48)], some (6, true)⟩, .any),
    (⟨some 10, .pure .pick, [tt 6, tt 9, .c (AV.bool false)], none⟩, .any)] 10, gI 2 .mov [tt 10]])
(.ret [2]))),
 [.tmp 2 false], false⟩
def a85 : Ann := mkAnn [] [] false [] [] [(0, [0]), (1, [2])] [] [] [] [] [2] [false] [(1, [(4, none), (4, some 10)])] [] []
set_option maxRecDepth 100000 in
theorem c85 : convFn Tryd.prog a85 85 = some r85 := by kernel_rfl

/-- cmp.Compare[string] -/
def r86 : RFunc := ⟨20,
(.seq
(RR [0, 1] [gI 4 .mov [ti 0]])
(.seq
(RR [0, 1, 5] [gI 7 .mov [tt 0], gI 8 (.call 116) [tt 7], gI 5 .mov [tt 8]])
(.seq
(RR [0, 1, 5, 6] [gI 9 .mov [tt 1], gI 10 (.call 116) [tt 9], gI 6 .mov [tt 10]])
(.seq
(.seq
(RR [0, 1, 6, 11] [gI 11 .mov [tt 5]])
(.cond (.t 11 false)
(.seq
(.seq
(RR [12] [gI 12 .mov [tt 6]])
(.cond (.t 12 false)
(.seq
(RR [4] [gI 4 .mov [ti 0]])
(.ret [4]))
.skip))
(.seq
(RR [4] [gI 4 .mov [ti (-1)]])
(.ret [4])))
.skip))
(.seq
(.seq
(RR [0, 1, 13] [gI 13 .mov [tt 6]])
(.cond (.t 13 false)
(.seq
(RR [4] [gI 4 .mov [ti 1]])
(.ret [4]))
.skip))
(.seq
(.seq
(RR [0, 1, 16] [gI 14 .mov [tt 0], gI 15 .mov [tt 1], gI 16 (.pure (.bin .lss)) [tt 14, tt 15]])
(.cond (.t 16 false)
(.seq
(RR [4] [gI 4 .mov [ti (-1)]])
(.ret [4]))
.skip))
(.seq
(.seq
(RR [19] [gI 17 .mov [tt 0], gI 18 .mov [tt 1], gI 19 (.pure (.bin .gtr)) [tt 17, tt 18]])
(.cond (.t 19 false)
(.seq
(RR [4] [gI 4 .mov [ti 1]])
(.ret [4]))
.skip))
(.seq
(RR [4] [gI 4 .mov [ti 0]])
(.ret [4]))))))))),
 [.tmp 4 false], false⟩
def a86 : Ann := mkAnn [] [] false [] [] [(0, [0, 1]), (1, [0, 1, 5]), (2, [0, 1, 5, 6]), (3, [0, 1, 6, 11]), (4, [12]), (5, [4]), (6, [4]), (7, [0, 1, 13]), (8, [4]), (9, [0, 1, 16]), (10, [4]), (11, [19]), (12, [4]), (13, [4])] [] [] [] [] [4] [false] [] [] []
set_option maxRecDepth 100000 in
theorem c86 : convFn Tryd.prog a86 86 = some r86 := by kernel_rfl

/-- drayage/version.weight -/
def r87 : RFunc := ⟨26,
(.seq
(RR [0] [gI 2 .mov [ti 0]])
(.seq
(.block 0
(.seq
(RR [0, 3] [gI 4 .mov [tt 0], gI 5 (.pure (.bin .eql)) [tt 4, .c (AV.str [])], gI 6 .mov [tt 5], .sub [(⟨some 7, .mov, [tt 0], some (6, false)⟩, .any),
    (⟨some 8, .pure .idxStr, [tt 7, ti 0], some (6, false)⟩, .any),
    (⟨some 9, .call 81, [tt 8], some (6, false)⟩, .any),
    (⟨some 10, .pure .pick, [tt 6, .c (AV.bool true), tt 9], none⟩, .any)] 10, gI 3 .mov [tt 10]])
(.cond (.t 3 false)
(.seq
(RR [2] [gI 2 .mov [ti 0]])
(.ret [2]))
(.seq
(RR [0, 11] [gI 12 .mov [tt 0], gI 13 (.pure .idxStr) [tt 12, ti 0], gI 14 (.pure (.bin .eql)) [tt 13, .c (AV.int .u8 126)], gI 11 .mov [tt 14]])
(.cond (.t 11 false)
(.seq
(RR [2] [gI 2 .mov [ti (-1)]])
(.ret [2]))
(.seq
(RR [0, 15] [gI 16 .mov [tt 0], gI 17 (.pure .idxStr) [tt 16, ti 0], gI 18 (.call 115) [tt 17], gI 15 .mov [tt 18]])
(.cond (.t 15 false)
(.seq
(RR [2] [gI 19 .mov [tt 0], gI 20 (.pure .idxStr) [tt 19, ti 0], gI 21 (.pure (.cvInt .i64)) [tt 20], gI 2 .mov [tt 21]])
(.ret [2]))
.skip)))))))
(.seq
(RR [2] [gI 22 .mov [tt 0], gI 23 (.pure .idxStr) [tt 22, ti 0], gI 24 (.pure (.cvInt .i64)) [tt 23], gI 25 (.pure (.bin .add)) [tt 24, ti 256], gI 2 .mov [tt 25]])
(.ret [2])))),
 [.tmp 2 false], false⟩
def a87 : Ann := mkAnn [] [] false [] [] [(0, [0]), (1, [0, 3]), (2, [2]), (3, [0, 11]), (4, [2]), (5, [0, 15]), (6, [2]), (7, [2])] [] [] [] [(0, [0])] [2] [false] [(1, [(3, none), (4, some 10)])] [] []
set_option maxRecDepth 100000 in
theorem c87 : convFn Tryd.prog a87 87 = some r87 := by kernel_rfl

/-- drayage/version.skip -/
def l88_1 : RCode :=
(.seq
(.seq
(RR [0, 26] [gI 3 .mov [tt 0], gI 4 (.pure (.bin .neq)) [tt 3, .c (AV.str [])], gI 5 .mov [tt 4], .sub [(⟨some 6, .mov, [tt 0], some (5, true)⟩, .any),
    (⟨some 7, .pure .idxStr, [tt 6, ti 0], some (5, true)⟩, .any),
    (⟨some 8, .call 81, [tt 7], some (5, true)⟩, .any),
    (⟨some 9, .pure (.un .not), [tt 8], some (5, true)⟩, .any),
    (⟨some 10, .pure .pick, [tt 5, tt 9, .c (AV.bool false)], none⟩, .any)] 10, gI 11 .mov [tt 10], .sub [(⟨some 12, .mov, [tt 0], some (11, true)⟩, .any),
    (⟨some 13, .pure .idxStr, [tt 12, ti 0], some (11, true)⟩, .any),
    (⟨some 14, .call 115, [tt 13], some (11, true)⟩, .any),
    (⟨some 15, .pure (.un .not), [tt 14], some (11, true)⟩, .any),
    (⟨some 16, .pure .pick, [tt 11, tt 15, .c (AV.bool false)], none⟩, .any)] 16, gI 17 .mov [tt 16], .sub [(⟨some 18, .mov, [tt 0], some (17, true)⟩, .any),
    (⟨some 19, .pure .idxStr, [tt 18, ti 0], some (17, true)⟩, .any),
    (⟨some 20, .pure (.bin .neq), [tt 19, .c (AV.int .u8 126)], some (17, true)⟩, .any),
    (⟨some 21, .pure .pick, [tt 17, tt 20, .c (AV.bool false)], none⟩, .any)] 21, gI 22 .mov [tt 21], .sub [(⟨some 23, .mov, [tt 0], some (22, true)⟩, .any),
    (⟨some 24, .pure .idxStr, [tt 23, ti 0], some (22, true)⟩, .any),
    (⟨some 25, .pure (.bin .neq), [tt 24, .c (AV.int .u8 94)], some (22, true)⟩, .any),
    (⟨some 26, .pure .pick, [tt 22, tt 25, .c (AV.bool false)], none⟩, .any)] 26])
(.cond (.t 26 false)
.skip
(.exit 0 [0])))
(.block 1
(RR [0] [gI 27 .mov [tt 0], gI 28 (.pure (.sliceStr true false)) [tt 27, ti 1], gI 0 .mov [tt 28]])))
def r88 : RFunc := ⟨30,
(.seq
(RR [0] [gI 2 .mov [.c (AV.str [])]])
(.seq
(.block 0
(.loop 1 [0] l88_1))
(.seq
(RR [2] [gI 29 .mov [tt 0], gI 2 .mov [tt 29]])
(.ret [2])))),
 [.tmp 2 false], false⟩
def a88 : Ann := mkAnn [] [(1, [0])] false [] [] [(0, [0]), (1, [0, 26]), (2, [0]), (3, [2])] [] [] [] [(0, [0]), (1, [0])] [2] [false] [(1, [(3, none), (5, some 10), (1, none), (5, some 16), (1, none), (4, some 21), (1, none), (4, some 26)])] [] []
set_option maxRecDepth 100000 in
theorem c88 : convFn Tryd.prog a88 88 = some r88 := by kernel_rfl

/-- drayage/version.older -/
def r89 : RFunc := ⟨4,
(.seq
(RR [0] [gI 2 .mov [ti 0]])
(.seq
(.seq
(RR [3] [gI 3 .mov [tt 0]])
(.cond (.t 3 false)
(.seq
(RR [2] [gI 2 .mov [ti (-1)]])
(.ret [2]))
.skip))
(.seq
(RR [2] [gI 2 .mov [ti 1]])
(.ret [2])))),
 [.tmp 2 false], false⟩
def a89 : Ann := mkAnn [] [] false [] [] [(0, [0]), (1, [3]), (2, [2]), (3, [2])] [] [] [] [] [2] [false] [] [] []
set_option maxRecDepth 100000 in
theorem c89 : convFn Tryd.prog a89 89 = some r89 := by kernel_rfl

/-- strings.TrimLeft -/
def r90 : RFunc := ⟨37,
(.seq
(RR [0, 1] [gI 4 .mov [.c (AV.str [])]])
(.seq
(.seq
(RR [0, 1, 12] [gI 7 .mov [tt 0], gI 8 (.pure (.bin .eql)) [tt 7, .c (AV.str [])], gI 9 .mov [tt 8], .sub [(⟨some 10, .mov, [tt 1], some (9, false)⟩, .any),
    (⟨some 11, .pure (.bin .eql), [tt 10, .c (AV.str [])], some (9, false)⟩, .any),
    (⟨some 12, .pure .pick, [tt 9, .c (AV.bool true), tt 11], none⟩, .any)] 12])
(.cond (.t 12 false)
(.seq
(RR [4] [gI 13 .mov [tt 0], gI 4 .mov [tt 13]])
(.ret [4]))
.skip))
(.seq
(.seq
(RR [0, 1, 21] [gI 14 .mov [tt 1], gI 15 (.pure .lenS) [tt 14], gI 16 (.pure (.bin .eql)) [tt 15, ti 1], gI 17 .mov [tt 16], .sub [(⟨some 18, .mov, [tt 1], some (17, true)⟩, .any),
    (⟨some 19, .pure .idxStr, [tt 18, ti 0], some (17, true)⟩, .any),
    (⟨some 20, .pure (.bin .lss), [tt 19, .c (AV.int .u8 128)], some (17, true)⟩, .any),
    (⟨some 21, .pure .pick, [tt 17, tt 20, .c (AV.bool false)], none⟩, .any)] 21])
(.cond (.t 21 false)
(.seq
(RR [4] [gI 22 .mov [tt 0], gI 23 .mov [tt 1], gI 24 (.pure .idxStr) [tt 23, ti 0], gI 25 (.call 117) [tt 22, tt 24], gI 4 .mov [tt 25]])
(.ret [4]))
.skip))
(.seq
(.seq
(RR [0, 1, 5, 6] [gI 27 .mov [tt 1], gI 28 (.call 118) [tt 27], gI 26 .mov [tt 28], gI 29 (.pure (.extract 0)) [tt 26], gI 30 (.pure (.extract 1)) [tt 26], gI 5 (.new 256) [.c (AV.agg [AV.bool false, AV.bool false, AV.bool false, AV.bool false, AV.bool false, AV.bool false, AV.bool false, AV.bool false, AV.bool false, AV.bool false, AV.bool false, AV.bool false, AV.bool false, AV.bool false, AV.bool false, AV.bool false, AV.bool false, AV.bool false, AV.bool false, AV.bool false, AV.bool false, AV.bool false, AV.bool false, AV.bool false, AV.bool false, AV.bool false, AV.bool false, AV.bool false, AV.bool false, AV.bool false, AV.bool false, AV.bool false, AV.bool false, AV.bool false, AV.bool false, AV.bool false, AV.bool false, AV.bool false, AV.bool false, AV.bool false, AV.bool false, AV.bool false, AV.bool false, AV.bool false, AV.bool false, AV.bool false, AV.bool false, AV.bool false, AV.bool false, AV.bool false, AV.bool false, AV.bool false, AV.bool false, AV.bool false, AV.bool false, AV.bool false, AV.bool false, AV.bool false, AV.bool false, AV.bool false, AV.bool false, AV.bool false, AV.bool false, AV.bool false, AV.bool false, AV.bool false, AV.bool false, AV.bool false, AV.bool false, AV.bool false, AV.bool false, AV.bool false, AV.bool false, AV.bool false, AV.bool false, AV.bool false, AV.bool false, AV.bool false, AV.bool false, AV.bool false, AV.bool false, AV.bool false, AV.bool false, AV.bool false, AV.bool false, AV.bool false, AV.bool false, AV.bool false, AV.bool false, AV.bool false, AV.bool false, AV.bool false, AV.bool false, AV.bool false, AV.bool false, AV.bool false, AV.bool false, AV.bool false, AV.bool false, AV.bool false, AV.bool false, AV.bool false, AV.bool false, AV.bool false, AV.bool false, AV.bool false, AV.bool false, AV.bool false, AV.bool false, AV.bool false, AV.bool false, AV.bool false, AV.bool false, AV.bool false, AV.bool false, AV.bool false, AV.bool false, AV.bool false, AV.bool false, AV.bool false, AV.bool false, AV.bool false, AV.bool false, AV.bool false, AV.bool false, AV.bool false, AV.bool false, AV.bool false, AV.bool false, AV.bool false, AV.bool false, AV.bool false, AV.bool false, AV.bool false, AV.bool false, AV.bool false, AV.bool false, AV.bool false, AV.bool false, AV.bool false, AV.bool false, AV.bool false, AV.bool false, AV.bool false, AV.bool false, AV.bool false, AV.bool false, AV.bool false, AV.bool false, AV.bool false, AV.bool false, AV.bool false, AV.bool false, AV.bool false, AV.bool false, AV.bool false, AV.bool false, AV.bool false, AV.bool false, AV.bool false, AV.bool false, AV.bool false, AV.bool false, AV.bool false, AV.bool false, AV.bool false, AV.bool false, AV.bool false, AV.bool false, AV.bool false, AV.bool false, AV.bool false, AV.bool false, AV.bool false, AV.bool false, AV.bool false, AV.bool false, AV.bool false, AV.bool false, AV.bool false, AV.bool false, AV.bool false, AV.bool false, AV.bool false, AV.bool false, AV.bool false, AV.bool false, AV.bool false, AV.bool false, AV.bool false, AV.bool false, AV.bool false, AV.bool false, AV.bool false, AV.bool false, AV.bool false, AV.bool false, AV.bool false, AV.bool false, AV.bool false, AV.bool false, AV.bool false, AV.bool false, AV.bool false, AV.bool false, AV.bool false, AV.bool false, AV.bool false, AV.bool false, AV.bool false, AV.bool false, AV.bool false, AV.bool false, AV.bool false, AV.bool false, AV.bool false, AV.bool false, AV.bool false, AV.bool false, AV.bool false, AV.bool false, AV.bool false, AV.bool false, AV.bool false, AV.bool false, AV.bool false, AV.bool false, AV.bool false, AV.bool false, AV.bool false, AV.bool false, AV.bool false, AV.bool false, AV.bool false, AV.bool false, AV.bool false, AV.bool false, AV.bool false, AV.bool false, AV.bool false, AV.bool false, AV.bool false, AV.bool false, AV.bool false, AV.bool false, AV.bool false, AV.bool false, AV.bool false, AV.bool false, AV.bool false, AV.bool false, AV.bool false, AV.bool false, AV.bool false, AV.bool false, AV.bool false])], gS (.store 256) [tt 5, tt 29], gI 6 .mov [tt 30]])
(.seq
(RR [0, 1, 5, 31] [gI 31 .mov [tt 6]])
(.cond (.t 31 false)
(.seq
(RR [4] [gI 32 .mov [tt 0], gI 33 (.call 119) [tt 32, tt 5], gI 4 .mov [tt 33]])
(.ret [4]))
.skip)))
(.seq
(RR [4] [gI 34 .mov [tt 0], gI 35 .mov [tt 1], gI 36 (.call 120) [tt 34, tt 35], gI 4 .mov [tt 36]])
(.ret [4])))))),
 [.tmp 4 false], false⟩
def a90 : Ann := mkAnn [] [] false [] [] [(0, [0, 1]), (1, [0, 1, 12]), (2, [4]), (3, [0, 1, 21]), (4, [4]), (5, [0, 1, 5, 6]), (6, [0, 1, 5, 31]), (7, [4]), (8, [4])] [] [] [] [] [4] [false] [(1, [(3, none), (3, some 12)]), (3, [(4, none), (4, some 21)])] [] []
set_option maxRecDepth 100000 in
theorem c90 : convFn Tryd.prog a90 90 = some r90 := by kernel_rfl

/-- internal/stringslite.Cut -/
def r96 : RFunc := ⟨23,
(.seq
(RR [0, 1] [gI 4 .mov [.c (AV.str [])], gI 5 .mov [.c (AV.str [])], gI 6 .mov [.c (AV.bool false)]])
(.seq
(.seq
(RR [0, 1, 7] [gI 8 .mov [tt 0], gI 9 .mov [tt 1], gI 10 (.call 122) [tt 8, tt 9], gI 7 .mov [tt 10]])
(.seq
(RR [0, 1, 7, 12] [gI 11 .mov [tt 7], gI 12 (.pure (.bin .geq)) [tt 11, ti 0]])
(.cond (.t 12 false)
(.seq
(.region (some ([], [])) [4, 5, 6] [gI 13 .mov [tt 0], gI 14 .mov [tt 7], gI 15 (.pure (.sliceStr false true)) [tt 13, tt 14], gI 16 .mov [tt 0], gI 17 .mov [tt 7], gI 18 .mov [tt 1], gI 19 (.pure .lenS) [tt 18], gI 20 (.pure (.bin .add)) [tt 17, tt 19], gI 21 (.pure (.sliceStr true false)) [tt 16, tt 20], gI 4 .mov [tt 15], gI 5 .mov [tt 21], gI 6 .mov [.c (AV.bool true)]])
(.ret [4, 5, 6]))
.skip)))
(.seq
(RR [4, 5, 6] [gI 22 .mov [tt 0], gI 4 .mov [tt 22], gI 5 .mov [.c (AV.str [])], gI 6 .mov [.c (AV.bool false)]])
(.ret [4, 5, 6])))),
 [.tmp 4 false, .tmp 5 false, .tmp 6 false], false⟩
def a96 : Ann := mkAnn [] [] false [(3, [])] [] [(0, [0, 1]), (1, [0, 1, 7]), (2, [0, 1, 7, 12]), (3, [4, 5, 6]), (4, [4, 5, 6])] [] [] [] [] [4, 5, 6] [false, false, false] [] [] []
set_option maxRecDepth 100000 in
theorem c96 : convFn Tryd.prog a96 96 = some r96 := by kernel_rfl

/-- internal/stringslite.HasPrefix -/
def r98 : RFunc := ⟨18,
(.seq
(RR [0, 1] [gI 4 .mov [.c (AV.bool false)]])
(.seq
(RR [4] [gI 5 .mov [tt 0], gI 6 (.pure .lenS) [tt 5], gI 7 .mov [tt 1], gI 8 (.pure .lenS) [tt 7], gI 9 (.pure (.bin .geq)) [tt 6, tt 8], gI 10 .mov [tt 9], .sub [(⟨some 11, .mov, [tt 0], some (10, true)⟩, .any),
    (⟨some 12, .mov, [tt 1], some (10, true)⟩, .any),
    (⟨some 13, .pure .lenS, [tt 12], some (10, true)⟩, .any),
    (⟨some 14, .pure (.sliceStr false true), [tt 11, tt 13], some (10, true)⟩, .any),
    (⟨some 15, .mov, [tt 1], some (10, true)⟩, .any),
    (⟨some 16, .pure (.bin .eql), [tt 14, tt 15], some (10, true)⟩, .any),
    (⟨some 17, .pure .pick, [tt 10, tt 16, .c (AV.bool false)], none⟩, .any)] 17, gI 4 .mov [tt 17]])
(.ret [4]))),
 [.tmp 4 false], false⟩
def a98 : Ann := mkAnn [] [] false [] [] [(0, [0, 1]), (1, [4])] [] [] [] [] [4] [false] [(1, [(6, none), (7, some 17)])] [] []
set_option maxRecDepth 100000 in
theorem c98 : convFn Tryd.prog a98 98 = some r98 := by kernel_rfl

/-- internal/stringslite.IndexByte -/
def r106 : RFunc := ⟨8,
(.seq
(RR [0, 1] [gI 4 .mov [ti 0]])
(.seq
(RR [4] [gI 5 .mov [tt 0], gI 6 .mov [tt 1], gI 7 (.call 130) [tt 5, tt 6], gI 4 .mov [tt 7]])
(.ret [4]))),
 [.tmp 4 false], false⟩
def a106 : Ann := mkAnn [] [] false [] [] [(0, [0, 1]), (1, [4])] [] [] [] [] [4] [false] [] [] []
set_option maxRecDepth 100000 in
theorem c106 : convFn Tryd.prog a106 106 = some r106 := by kernel_rfl

/-- cmp.isNaN[int] -/
def r112 : RFunc := ⟨6,
(.seq
(RR [0] [gI 2 .mov [.c (AV.bool false)]])
(.seq
(RR [2] [gI 3 .mov [tt 0], gI 4 .mov [tt 0], gI 5 (.pure (.bin .neq)) [tt 3, tt 4], gI 2 .mov [tt 5]])
(.ret [2]))),
 [.tmp 2 false], false⟩
def a112 : Ann := mkAnn [] [] false [] [] [(0, [0]), (1, [2])] [] [] [] [] [2] [false] [] [] []
set_option maxRecDepth 100000 in
theorem c112 : convFn Tryd.prog a112 112 = some r112 := by kernel_rfl

/-- internal/bytealg.LastIndexByteString -/
def l113_2 : RCode :=
(.seq
(.seq
(RR [0, 1, 5, 10] [gI 9 .mov [tt 5], gI 10 (.pure (.bin .geq)) [tt 9, ti 0]])
(.cond (.t 10 false)
.skip
(.exit 0 [])))
(.seq
(.block 1
(.seq
(RR [0, 1, 5, 17] [gI 13 .mov [tt 0], gI 14 .mov [tt 5], gI 15 (.pure .idxStr) [tt 13, tt 14], gI 16 .mov [tt 1], gI 17 (.pure (.bin .eql)) [tt 15, tt 16]])
(.cond (.t 17 false)
(.seq
(RR [4] [gI 18 .mov [tt 5], gI 4 .mov [tt 18]])
(.ret [4]))
.skip)))
(RR [0, 1, 5] [gI 11 .mov [tt 5], gI 12 (.pure (.bin .sub)) [tt 11, ti 1], gI 5 .mov [tt 12]])))
def r113 : RFunc := ⟨19,
(.seq
(RR [0, 1] [gI 4 .mov [ti 0]])
(.seq
(.seq
(RR [0, 1, 5] [gI 6 .mov [tt 0], gI 7 (.pure .lenS) [tt 6], gI 8 (.pure (.bin .sub)) [tt 7, ti 1], gI 5 .mov [tt 8]])
(.block 0
(.loop 2 [0, 1, 5] l113_2)))
(.seq
(RR [4] [gI 4 .mov [ti (-1)]])
(.ret [4])))),
 [.tmp 4 false], false⟩
def a113 : Ann := mkAnn [] [(2, [0, 1, 5])] false [] [] [(0, [0, 1]), (1, [0, 1, 5]), (2, [0, 1, 5, 10]), (3, [0, 1, 5]), (4, [0, 1, 5, 17]), (5, [4]), (6, [4])] [] [] [] [(0, []), (1, [0, 1, 5])] [4] [false] [] [] []
set_option maxRecDepth 100000 in
theorem c113 : convFn Tryd.prog a113 113 = some r113 := by kernel_rfl

/-- internal/bytealg.LastIndexRabinKarp[string] -/
def l114_12 : RCode :=
(.seq
(.seq
(RR [0, 1, 5, 6, 7, 9, 11, 52] [gI 51 .mov [tt 11], gI 52 (.pure (.bin .geq)) [tt 51, ti 0]])
(.cond (.t 52 false)
.skip
(.exit 2 [])))
(.seq
(.block 3
(.seq
(RR [0, 1, 5, 6, 7, 9, 11] [gI 55 .mov [tt 9], gI 56 (.pure (.bin .mul)) [tt 55, .c (AV.int .u32 16777619)], gI 9 .mov [tt 56]])
(.seq
(RR [0, 1, 5, 6, 7, 9, 11] [gI 57 .mov [tt 9], gI 58 .mov [tt 0], gI 59 .mov [tt 11], gI 60 (.pure .idxStr) [tt 58, tt 59], gI 61 (.pure (.cvInt .u32)) [tt 60], gI 62 (.pure (.bin .add)) [tt 57, tt 61], gI 9 .mov [tt 62]])
(.seq
(RR [0, 1, 5, 6, 7, 9, 11] [gI 63 .mov [tt 9], gI 64 .mov [tt 6], gI 65 .mov [tt 0], gI 66 .mov [tt 11], gI 67 .mov [tt 7], gI 68 (.pure (.bin .add)) [tt 66, tt 67], gI 69 (.pure .idxStr) [tt 65, tt 68], gI 70 (.pure (.cvInt .u32)) [tt 69], gI 71 (.pure (.bin .mul)) [tt 64, tt 70], gI 72 (.pure (.bin .sub)) [tt 63, tt 71], gI 9 .mov [tt 72]])
(.seq
(RR [0, 1, 5, 6, 7, 9, 11, 85] [gI 73 .mov [tt 9], gI 74 .mov [tt 5], gI 75 (.pure (.bin .eql)) [tt 73, tt 74], gI 76 .mov [tt 75], .sub [(⟨some 77, .mov, [tt 0], some (76, true)⟩, .any),
    (⟨some 78, .mov, [tt 11], some (76, true)⟩, .any),
    (⟨some 79, .mov, [tt 11], some (76, true)⟩, .any),
    (⟨some 80, .mov, [tt 7], some (76, true)⟩, .any),
    (⟨some 81, .pure (.bin .add), [tt 79, tt 80], some (76, true)⟩, .any),
    (⟨some 82, .pure (.sliceStr true true), [tt 77, tt 78, tt 81], some (76, true)⟩, .any),
    (⟨some 83, .mov, [tt 1], some (76, true)⟩, .any),
    (⟨some 84, .pure (.bin .eql), [tt 82, tt 83], some (76, true)⟩, .any),
    (⟨some 85, .pure .pick, [tt 76, tt 84, .c (AV.bool false)], none⟩, .any)] 85])
(.cond (.t 85 false)
(.seq
(RR [4] [gI 86 .mov [tt 11], gI 4 .mov [tt 86]])
(.ret [4]))
.skip))))))
(RR [0, 1, 5, 6, 7, 9, 11] [gI 53 .mov [tt 11], gI 54 (.pure (.bin .sub)) [tt 53, ti 1], gI 11 .mov [tt 54]])))
def l114_6 : RCode :=
(.seq
(.seq
(RR [0, 1, 5, 6, 7, 8, 9, 10, 28] [gI 26 .mov [tt 10], gI 27 .mov [tt 8], gI 28 (.pure (.bin .geq)) [tt 26, tt 27]])
(.cond (.t 28 false)
.skip
(.exit 0 [0, 1, 5, 6, 7, 8, 9])))
(.seq
(.block 1
(RR [0, 1, 5, 6, 7, 8, 9, 10] [gI 31 .mov [tt 9], gI 32 (.pure (.bin .mul)) [tt 31, .c (AV.int .u32 16777619)], gI 33 .mov [tt 0], gI 34 .mov [tt 10], gI 35 (.pure .idxStr) [tt 33, tt 34], gI 36 (.pure (.cvInt .u32)) [tt 35], gI 37 (.pure (.bin .add)) [tt 32, tt 36], gI 9 .mov [tt 37]]))
(RR [0, 1, 5, 6, 7, 8, 9, 10] [gI 29 .mov [tt 10], gI 30 (.pure (.bin .sub)) [tt 29, ti 1], gI 10 .mov [tt 30]])))
def r114 : RFunc := ⟨87,
(.seq
(RR [0, 1] [gI 4 .mov [ti 0]])
(.seq
(RR [0, 1, 5, 6] [gI 13 .mov [tt 1], gI 14 (.call 137) [tt 13], gI 12 .mov [tt 14], gI 15 (.pure (.extract 0)) [tt 12], gI 16 (.pure (.extract 1)) [tt 12], gI 5 .mov [tt 15], gI 6 .mov [tt 16]])
(.seq
(RR [0, 1, 5, 6, 7] [gI 17 .mov [tt 1], gI 18 (.pure .lenS) [tt 17], gI 7 .mov [tt 18]])
(.seq
(RR [0, 1, 5, 6, 7, 8] [gI 19 .mov [tt 0], gI 20 (.pure .lenS) [tt 19], gI 21 .mov [tt 7], gI 22 (.pure (.bin .sub)) [tt 20, tt 21], gI 8 .mov [tt 22]])
(.seq
(RR [0, 1, 5, 6, 7, 8, 9] [gI 9 .mov [.c (AV.int .u32 0)]])
(.seq
(.seq
(RR [0, 1, 5, 6, 7, 8, 9, 10] [gI 23 .mov [tt 0], gI 24 (.pure .lenS) [tt 23], gI 25 (.pure (.bin .sub)) [tt 24, ti 1], gI 10 .mov [tt 25]])
(.block 0
(.loop 6 [0, 1, 5, 6, 7, 8, 9, 10] l114_6)))
(.seq
(.seq
(RR [0, 1, 5, 6, 7, 8, 9, 47] [gI 38 .mov [tt 9], gI 39 .mov [tt 5], gI 40 (.pure (.bin .eql)) [tt 38, tt 39], gI 41 .mov [tt 40], .sub [(⟨some 42, .mov, [tt 0], some (41, true)⟩, .any),
    (⟨some 43, .mov, [tt 8], some (41, true)⟩, .any),
    (⟨some 44, .pure (.sliceStr true false), [tt 42, tt 43], some (41, true)⟩, .any),
    (⟨some 45, .mov, [tt 1], some (41, true)⟩, .any),
    (⟨some 46, .pure (.bin .eql), [tt 44, tt 45], some (41, true)⟩, .any),
    (⟨some 47, .pure .pick, [tt 41, tt 46, .c (AV.bool false)], none⟩, .any)] 47])
(.cond (.t 47 false)
(.seq
(RR [4] [gI 48 .mov [tt 8], gI 4 .mov [tt 48]])
(.ret [4]))
.skip))
(.seq
(.seq
(RR [0, 1, 5, 6, 7, 9, 11] [gI 49 .mov [tt 8], gI 50 (.pure (.bin .sub)) [tt 49, ti 1], gI 11 .mov [tt 50]])
(.block 2
(.loop 12 [0, 1, 5, 6, 7, 9, 11] l114_12)))
(.seq
(RR [4] [gI 4 .mov [ti (-1)]])
(.ret [4])))))))))),
 [.tmp 4 false], false⟩
def a114 : Ann := mkAnn [] [(6, [0, 1, 5, 6, 7, 8, 9, 10]), (12, [0, 1, 5, 6, 7, 9, 11])] false [] [] [(0, [0, 1]), (1, [0, 1, 5, 6]), (2, [0, 1, 5, 6, 7]), (3, [0, 1, 5, 6, 7, 8]), (4, [0, 1, 5, 6, 7, 8, 9]), (5, [0, 1, 5, 6, 7, 8, 9, 10]), (6, [0, 1, 5, 6, 7, 8, 9, 10, 28]), (7, [0, 1, 5, 6, 7, 8, 9, 10]), (8, [0, 1, 5, 6, 7, 8, 9, 10]), (9, [0, 1, 5, 6, 7, 8, 9, 47]), (10, [4]), (11, [0, 1, 5, 6, 7, 9, 11]), (12, [0, 1, 5, 6, 7, 9, 11, 52]), (13, [0, 1, 5, 6, 7, 9, 11]), (14, [0, 1, 5, 6, 7, 9, 11]), (15, [0, 1, 5, 6, 7, 9, 11]), (16, [0, 1, 5, 6, 7, 9, 11]), (17, [0, 1, 5, 6, 7, 9, 11, 85]), (18, [4]), (19, [4])] [] [] [] [(0, [0, 1, 5, 6, 7, 8, 9]), (1, [0, 1, 5, 6, 7, 8, 9, 10]), (2, []), (3, [0, 1, 5, 6, 7, 9, 11])] [4] [false] [(9, [(4, none), (6, some 47)]), (17, [(4, none), (9, some 85)])] [] []
set_option maxRecDepth 100000 in
theorem c114 : convFn Tryd.prog a114 114 = some r114 := by kernel_rfl

/-- drayage/version.letter -/
def r115 : RFunc := ⟨17,
(.seq
(RR [0] [gI 2 .mov [.c (AV.bool false)]])
(.seq
(RR [2] [gI 3 .mov [tt 0], gI 4 (.pure (.bin .geq)) [tt 3, .c (AV.int .u8 97)], gI 5 .mov [tt 4], .sub [(⟨some 6, .mov, [tt 0], some (5, true)⟩, .any),
    (⟨some 7, .pure (.bin .leq), [tt 6, .c (AV.int .u8 122)], some (5, true)⟩, .any),
    (⟨some 8, .pure .pick, [tt 5, tt 7, .c (AV.bool false)], none⟩, .any)] 8, gI 9 .mov [tt 8], .sub [(⟨some 10, .mov, [tt 0], some (9, false)⟩, .any),
    (⟨some 11, .pure (.bin .geq), [tt 10, .c (AV.int .u8 65)], some (9, false)⟩, .any),
    (⟨some 12, .mov, [tt 11], some (9, false)⟩, .any),
    (⟨some 13, .mov, [tt 0], some (12, true)⟩, .any),
    (⟨some 14, .pure (.bin .leq), [tt 13, .c (AV.int .u8 90)], some (12, true)⟩, .any),
    (⟨some 15, .pure .pick, [tt 12, tt 14, .c (AV.bool false)], some (9, false)⟩, .any),
    (⟨some 16, .pure .pick, [tt 9, .c (AV.bool true), tt 15], none⟩, .any)] 16, gI 2 .mov [tt 16]])
(.ret [2]))),
 [.tmp 2 false], false⟩
def a115 : Ann := mkAnn [] [] false [] [] [(0, [0]), (1, [2])] [] [] [] [] [2] [false] [(1, [(3, none), (3, some 8), (1, none), (7, some 16)])] [] []
set_option maxRecDepth 100000 in
theorem c115 : convFn Tryd.prog a115 115 = some r115 := by kernel_rfl

/-- cmp.isNaN[string] -/
def r116 : RFunc := ⟨6,
(.seq
(RR [0] [gI 2 .mov [.c (AV.bool false)]])
(.seq
(RR [2] [gI 3 .mov [tt 0], gI 4 .mov [tt 0], gI 5 (.pure (.bin .neq)) [tt 3, tt 4], gI 2 .mov [tt 5]])
(.ret [2]))),
 [.tmp 2 false], false⟩
def a116 : Ann := mkAnn [] [] false [] [] [(0, [0]), (1, [2])] [] [] [] [] [2] [false] [] [] []
set_option maxRecDepth 100000 in
theorem c116 : convFn Tryd.prog a116 116 = some r116 := by kernel_rfl

/-- strings.trimLeftByte -/
def l117_1 : RCode :=
(.seq
(.seq
(RR [0, 1, 13] [gI 5 .mov [tt 0], gI 6 (.pure .lenS) [tt 5], gI 7 (.pure (.bin .gtr)) [tt 6, ti 0], gI 8 .mov [tt 7], .sub [(⟨some 9, .mov, [tt 0], some (8, true)⟩, .any),
    (⟨some 10, .pure .idxStr, [tt 9, ti 0], some (8, true)⟩, .any),
    (⟨some 11, .mov, [tt 1], some (8, true)⟩, .any),
    (⟨some 12, .pure (.bin .eql), [tt 10, tt 11], some (8, true)⟩, .any),
    (⟨some 13, .pure .pick, [tt 8, tt 12, .c (AV.bool false)], none⟩, .any)] 13])
(.cond (.t 13 false)
.skip
(.exit 0 [0])))
(.block 1
(RR [0, 1] [gI 14 .mov [tt 0], gI 15 (.pure (.sliceStr true false)) [tt 14, ti 1], gI 0 .mov [tt 15]])))
def r117 : RFunc := ⟨17,
(.seq
(RR [0, 1] [gI 4 .mov [.c (AV.str [])]])
(.seq
(.block 0
(.loop 1 [0, 1] l117_1))
(.seq
(RR [4] [gI 16 .mov [tt 0], gI 4 .mov [tt 16]])
(.ret [4])))),
 [.tmp 4 false], false⟩
def a117 : Ann := mkAnn [] [(1, [0, 1])] false [] [] [(0, [0, 1]), (1, [0, 1, 13]), (2, [0, 1]), (3, [4])] [] [] [] [(0, [0]), (1, [0, 1])] [4] [false] [(1, [(4, none), (5, some 13)])] [] []
set_option maxRecDepth 100000 in
theorem c117 : convFn Tryd.prog a117 117 = some r117 := by kernel_rfl

/-- internal/stringslite.Index -/
def k122_21 : RCode :=
(.seq
(.seq
(RR [0, 1, 5, 6, 7, 8, 9, 10, 93] [gI 78 .mov [tt 0], gI 79 .mov [tt 8], gI 80 (.pure (.bin .add)) [tt 79, ti 1], gI 81 (.pure .idxStr) [tt 78, tt 80], gI 82 .mov [tt 7], gI 83 (.pure (.bin .eql)) [tt 81, tt 82], gI 84 .mov [tt 83], .sub [(⟨some 85, .mov, [tt 0], some (84, true)⟩, .any),
    (⟨some 86, .mov, [tt 8], some (84, true)⟩, .any),
    (⟨some 87, .mov, [tt 8], some (84, true)⟩, .any),
    (⟨some 88, .mov, [tt 5], some (84, true)⟩, .any),
    (⟨some 89, .pure (.bin .add), [tt 87, tt 88], some (84, true)⟩, .any),
    (⟨some 90, .pure (.sliceStr true true), [tt 85, tt 86, tt 89], some (84, true)⟩, .any),
    (⟨some 91, .mov, [tt 1], some (84, true)⟩, .any),
    (⟨some 92, .pure (.bin .eql), [tt 90, tt 91], some (84, true)⟩, .any),
    (⟨some 93, .pure .pick, [tt 84, tt 92, .c (AV.bool false)], none⟩, .any)] 93])
(.cond (.t 93 false)
(.seq
(RR [4] [gI 94 .mov [tt 8], gI 4 .mov [tt 94]])
(.ret [4]))
.skip))
(.seq
(RR [0, 1, 5, 6, 7, 8, 9, 10] [gI 95 .mov [tt 8], gI 96 (.pure (.bin .add)) [tt 95, ti 1], gI 8 .mov [tt 96]])
(.seq
(RR [0, 1, 5, 6, 7, 8, 9, 10] [gI 97 .mov [tt 10], gI 98 (.pure (.bin .add)) [tt 97, ti 1], gI 10 .mov [tt 98]])
(.seq
(RR [0, 1, 5, 6, 7, 8, 9, 10, 107] [gI 99 .mov [tt 5], gI 100 .bad [], gI 101 (.pure (.bin .leq)) [tt 99, tt 100], gI 102 .mov [tt 101], .sub [(⟨some 103, .mov, [tt 10], some (102, true)⟩, .any),
    (⟨some 104, .mov, [tt 8], some (102, true)⟩, .any),
    (⟨some 105, .call 142, [tt 104], some (102, true)⟩, .any),
    (⟨some 106, .pure (.bin .gtr), [tt 103, tt 105], some (102, true)⟩, .any),
    (⟨some 107, .pure .pick, [tt 102, tt 106, .c (AV.bool false)], none⟩, .any)] 107])
(.cond (.t 107 false)
(.seq
(RR [8, 12] [gI 108 .mov [tt 0], gI 109 .mov [tt 8], gI 110 (.pure (.sliceStr true false)) [tt 108, tt 109], gI 111 .mov [tt 1], gI 112 (.call 141) [tt 110, tt 111], gI 12 .mov [tt 112]])
(.seq
(.seq
(RR [8, 12, 114] [gI 113 .mov [tt 12], gI 114 (.pure (.bin .geq)) [tt 113, ti 0]])
(.cond (.t 114 false)
(.seq
(RR [4] [gI 115 .mov [tt 12], gI 116 .mov [tt 8], gI 117 (.pure (.bin .add)) [tt 115, tt 116], gI 4 .mov [tt 117]])
(.ret [4]))
.skip))
(.seq
(RR [4] [gI 4 .mov [ti (-1)]])
(.ret [4]))))
(.seq
(RR [0, 1, 5, 6, 7, 8, 9, 10, 132] [gI 118 .mov [tt 5], gI 119 .bad [], gI 120 (.pure (.bin .gtr)) [tt 118, tt 119], gI 121 .mov [tt 120], .sub [(⟨some 122, .mov, [tt 10], some (121, true)⟩, .any),
    (⟨some 123, .mov, [tt 8], some (121, true)⟩, .any),
    (⟨some 124, .pure (.bin .shr), [tt 123, .c (AV.int .u64 4)], some (121, true)⟩, .any),
    (⟨some 125, .pure (.bin .add), [ti 4, tt 124], some (121, true)⟩, .any),
    (⟨some 126, .pure (.bin .geq), [tt 122, tt 125], some (121, true)⟩, .any),
    (⟨some 127, .pure .pick, [tt 121, tt 126, .c (AV.bool false)], none⟩, .any)] 127, gI 128 .mov [tt 127], .sub [(⟨some 129, .mov, [tt 8], some (128, true)⟩, .any),
    (⟨some 130, .mov, [tt 9], some (128, true)⟩, .any),
    (⟨some 131, .pure (.bin .lss), [tt 129, tt 130], some (128, true)⟩, .any),
    (⟨some 132, .pure .pick, [tt 128, tt 131, .c (AV.bool false)], none⟩, .any)] 132])
(.cond (.t 132 false)
(.seq
(RR [8, 13] [gI 133 .mov [tt 0], gI 134 .mov [tt 8], gI 135 (.pure (.sliceStr true false)) [tt 133, tt 134], gI 136 .mov [tt 1], gI 137 (.call 143) [tt 135, tt 136], gI 13 .mov [tt 137]])
(.seq
(.seq
(RR [8, 13, 139] [gI 138 .mov [tt 13], gI 139 (.pure (.bin .lss)) [tt 138, ti 0]])
(.cond (.t 139 false)
(.seq
(RR [4] [gI 4 .mov [ti (-1)]])
(.ret [4]))
.skip))
(.seq
(RR [4] [gI 140 .mov [tt 8], gI 141 .mov [tt 13], gI 142 (.pure (.bin .add)) [tt 140, tt 141], gI 4 .mov [tt 142]])
(.ret [4]))))
.skip)))))))
def l122_15 : RCode :=
(.seq
(.seq
(RR [0, 1, 5, 6, 7, 8, 9, 10, 59] [gI 57 .mov [tt 8], gI 58 .mov [tt 9], gI 59 (.pure (.bin .lss)) [tt 57, tt 58]])
(.cond (.t 59 false)
.skip
(.exit 1 [])))
(.block 2
(.seq
(.seq
(RR [0, 1, 5, 6, 7, 8, 9, 10, 64] [gI 60 .mov [tt 0], gI 61 .mov [tt 8], gI 62 (.pure .idxStr) [tt 60, tt 61], gI 63 .mov [tt 6], gI 64 (.pure (.bin .neq)) [tt 62, tt 63]])
(.cond (.t 64 false)
(.seq
(RR [0, 1, 5, 6, 7, 8, 9, 10, 11] [gI 65 .mov [tt 0], gI 66 .mov [tt 8], gI 67 (.pure (.bin .add)) [tt 66, ti 1], gI 68 .mov [tt 9], gI 69 (.pure (.sliceStr true true)) [tt 65, tt 67, tt 68], gI 70 .mov [tt 6], gI 71 (.call 106) [tt 69, tt 70], gI 11 .mov [tt 71]])
(.seq
(.seq
(RR [0, 1, 5, 6, 7, 8, 9, 10, 11, 73] [gI 72 .mov [tt 11], gI 73 (.pure (.bin .lss)) [tt 72, ti 0]])
(.cond (.t 73 false)
(.seq
(RR [4] [gI 4 .mov [ti (-1)]])
(.ret [4]))
.skip))
(RR [0, 1, 5, 6, 7, 8, 9, 10] [gI 74 .mov [tt 8], gI 75 .mov [tt 11], gI 76 (.pure (.bin .add)) [tt 75, ti 1], gI 77 (.pure (.bin .add)) [tt 74, tt 76], gI 8 .mov [tt 77]])))
.skip))
(.cut 100021 [0, 1, 5, 6, 7, 8, 9, 10] [0, 1, 5, 6, 7, 8, 9, 10] k122_21))))
def r122 : RFunc := ⟨143,
(.seq
(RR [0, 1] [gI 4 .mov [ti 0]])
(.seq
(RR [0, 1, 5] [gI 14 .mov [tt 1], gI 15 (.pure .lenS) [tt 14], gI 5 .mov [tt 15]])
(.seq
(.block 0
(.seq
(RR [0, 1, 5, 16] [gI 17 .mov [tt 5], gI 18 (.pure (.bin .eql)) [tt 17, ti 0], gI 19 .mov [tt 18], .sub [(⟨some 20, .mov, [tt 1], some (19, false)⟩, .any),
    (⟨some 21, .mov, [tt 0], some (19, false)⟩, .any),
    (⟨some 22, .pure (.bin .eql), [tt 20, tt 21], some (19, false)⟩, .any),
    (⟨some 23, .pure .pick, [tt 19, .c (AV.bool true), tt 22], none⟩, .any)] 23, gI 16 .mov [tt 23]])
(.cond (.t 16 false)
(.seq
(RR [4] [gI 4 .mov [ti 0]])
(.ret [4]))
(.seq
(RR [0, 1, 5, 24] [gI 25 .mov [tt 5], gI 26 (.pure (.bin .eql)) [tt 25, ti 1], gI 24 .mov [tt 26]])
(.cond (.t 24 false)
(.seq
(RR [4] [gI 27 .mov [tt 0], gI 28 .mov [tt 1], gI 29 (.pure .idxStr) [tt 28, ti 0], gI 30 (.call 106) [tt 27, tt 29], gI 4 .mov [tt 30]])
(.ret [4]))
(.seq
(RR [0, 1, 5, 31] [gI 32 .mov [tt 5], gI 33 .mov [tt 0], gI 34 (.pure .lenS) [tt 33], gI 35 (.pure (.bin .geq)) [tt 32, tt 34], gI 31 .mov [tt 35]])
(.cond (.t 31 false)
(.seq
(RR [4] [gI 4 .mov [ti (-1)]])
(.ret [4]))
(.seq
(RR [0, 1, 5, 36] [gI 37 .mov [tt 5], gI 38 .bad [], gI 39 (.pure (.bin .leq)) [tt 37, tt 38], gI 40 .mov [tt 39], .sub [(⟨some 41, .mov, [tt 0], some (40, true)⟩, .any),
    (⟨some 42, .pure .lenS, [tt 41], some (40, true)⟩, .any),
    (⟨some 43, .pure (.bin .leq), [tt 42, ti 64], some (40, true)⟩, .any),
    (⟨some 44, .pure .pick, [tt 40, tt 43, .c (AV.bool false)], none⟩, .any)] 44, gI 36 .mov [tt 44]])
(.cond (.t 36 false)
(.seq
(RR [4] [gI 45 .mov [tt 0], gI 46 .mov [tt 1], gI 47 (.call 141) [tt 45, tt 46], gI 4 .mov [tt 47]])
(.ret [4]))
.skip)))))))))
(.seq
(RR [0, 1, 5, 6] [gI 48 .mov [tt 1], gI 49 (.pure .idxStr) [tt 48, ti 0], gI 6 .mov [tt 49]])
(.seq
(RR [0, 1, 5, 6, 7] [gI 50 .mov [tt 1], gI 51 (.pure .idxStr) [tt 50, ti 1], gI 7 .mov [tt 51]])
(.seq
(RR [0, 1, 5, 6, 7, 8] [gI 8 .mov [ti 0]])
(.seq
(RR [0, 1, 5, 6, 7, 8, 9] [gI 52 .mov [tt 0], gI 53 (.pure .lenS) [tt 52], gI 54 .mov [tt 5], gI 55 (.pure (.bin .sub)) [tt 53, tt 54], gI 56 (.pure (.bin .add)) [tt 55, ti 1], gI 9 .mov [tt 56]])
(.seq
(RR [0, 1, 5, 6, 7, 8, 9, 10] [gI 10 .mov [ti 0]])
(.seq
(.block 1
(.loop 15 [0, 1, 5, 6, 7, 8, 9, 10] l122_15))
(.seq
(RR [4] [gI 4 .mov [ti (-1)]])
(.ret [4]))))))))))),
 [.tmp 4 false], false⟩
def a122 : Ann := mkAnn [] [(15, [0, 1, 5, 6, 7, 8, 9, 10])] false [] [] [(0, [0, 1]), (1, [0, 1, 5]), (2, [0, 1, 5, 16]), (3, [4]), (4, [0, 1, 5, 24]), (5, [4]), (6, [0, 1, 5, 31]), (7, [4]), (8, [0, 1, 5, 36]), (9, [4]), (10, [0, 1, 5, 6]), (11, [0, 1, 5, 6, 7]), (12, [0, 1, 5, 6, 7, 8]), (13, [0, 1, 5, 6, 7, 8, 9]), (14, [0, 1, 5, 6, 7, 8, 9, 10]), (15, [0, 1, 5, 6, 7, 8, 9, 10, 59]), (16, [0, 1, 5, 6, 7, 8, 9, 10, 64]), (17, [0, 1, 5, 6, 7, 8, 9, 10, 11]), (18, [0, 1, 5, 6, 7, 8, 9, 10, 11, 73]), (19, [4]), (20, [0, 1, 5, 6, 7, 8, 9, 10]), (21, [0, 1, 5, 6, 7, 8, 9, 10, 93]), (22, [4]), (23, [0, 1, 5, 6, 7, 8, 9, 10]), (24, [0, 1, 5, 6, 7, 8, 9, 10]), (25, [0, 1, 5, 6, 7, 8, 9, 10, 107]), (26, [8, 12]), (27, [8, 12, 114]), (28, [4]), (29, [4]), (30, [0, 1, 5, 6, 7, 8, 9, 10, 132]), (31, [8, 13]), (32, [8, 13, 139]), (33, [4]), (34, [4]), (35, [4])] [] [] [(21, [0, 1, 5, 6, 7, 8, 9, 10], [0, 1, 5, 6, 7, 8, 9, 10])] [(0, [0, 1, 5]), (1, []), (2, [0, 1, 5, 6, 7, 8, 9, 10])] [4] [false] [(2, [(3, none), (4, some 23)]), (8, [(4, none), (4, some 44)]), (21, [(7, none), (9, some 93)]), (25, [(4, none), (5, some 107)]), (30, [(4, none), (6, some 127), (1, none), (4, some 132)])] [] []
set_option maxRecDepth 100000 in
theorem c122 : convFn Tryd.prog a122 122 = some r122 := by kernel_rfl

/-- internal/bytealg.hashStrRev[string] -/
def l137_8 : RCode :=
(.seq
(.seq
(RR [4, 6, 7, 8, 26] [gI 25 .mov [tt 8], gI 26 (.pure (.bin .gtr)) [tt 25, ti 0]])
(.cond (.t 26 false)
.skip
(.exit 2 [4, 6])))
(.seq
(.block 3
(.seq
(.seq
(RR [4, 6, 7, 8, 31] [gI 29 .mov [tt 8], gI 30 (.pure (.bin .and)) [tt 29, ti 1], gI 31 (.pure (.bin .neq)) [tt 30, ti 0]])
(.cond (.t 31 false)
(RR [4, 6, 7, 8] [gI 32 .mov [tt 6], gI 33 .mov [tt 7], gI 34 (.pure (.bin .mul)) [tt 32, tt 33], gI 6 .mov [tt 34]])
.skip))
(RR [4, 6, 7, 8] [gI 35 .mov [tt 7], gI 36 .mov [tt 7], gI 37 (.pure (.bin .mul)) [tt 35, tt 36], gI 7 .mov [tt 37]])))
(RR [4, 6, 7, 8] [gI 27 .mov [tt 8], gI 28 (.pure (.bin .shr)) [tt 27, .c (AV.int .u64 1)], gI 8 .mov [tt 28]])))
def l137_3 : RCode :=
(.seq
(.seq
(RR [0, 4, 5, 13] [gI 12 .mov [tt 5], gI 13 (.pure (.bin .geq)) [tt 12, ti 0]])
(.cond (.t 13 false)
.skip
(.exit 0 [0, 4])))
(.seq
(.block 1
(RR [0, 4, 5] [gI 16 .mov [tt 4], gI 17 (.pure (.bin .mul)) [tt 16, .c (AV.int .u32 16777619)], gI 18 .mov [tt 0], gI 19 .mov [tt 5], gI 20 (.pure .idxStr) [tt 18, tt 19], gI 21 (.pure (.cvInt .u32)) [tt 20], gI 22 (.pure (.bin .add)) [tt 17, tt 21], gI 4 .mov [tt 22]]))
(RR [0, 4, 5] [gI 14 .mov [tt 5], gI 15 (.pure (.bin .sub)) [tt 14, ti 1], gI 5 .mov [tt 15]])))
def r137 : RFunc := ⟨40,
(.seq
(RR [0] [gI 2 .mov [.c (AV.int .u32 0)], gI 3 .mov [.c (AV.int .u32 0)]])
(.seq
(RR [0, 4] [gI 4 .mov [.c (AV.int .u32 0)]])
(.seq
(.seq
(RR [0, 4, 5] [gI 9 .mov [tt 0], gI 10 (.pure .lenS) [tt 9], gI 11 (.pure (.bin .sub)) [tt 10, ti 1], gI 5 .mov [tt 11]])
(.block 0
(.loop 3 [0, 4, 5] l137_3)))
(.seq
(RR [0, 4, 6, 7] [gI 6 .mov [.c (AV.int .u32 1)], gI 7 .mov [.c (AV.int .u32 16777619)]])
(.seq
(.seq
(RR [4, 6, 7, 8] [gI 23 .mov [tt 0], gI 24 (.pure .lenS) [tt 23], gI 8 .mov [tt 24]])
(.block 2
(.loop 8 [4, 6, 7, 8] l137_8)))
(.seq
(RR [2, 3] [gI 38 .mov [tt 4], gI 39 .mov [tt 6], gI 2 .mov [tt 38], gI 3 .mov [tt 39]])
(.ret [2, 3]))))))),
 [.tmp 2 false, .tmp 3 false], false⟩
def a137 : Ann := mkAnn [] [(3, [0, 4, 5]), (8, [4, 6, 7, 8])] false [] [] [(0, [0]), (1, [0, 4]), (2, [0, 4, 5]), (3, [0, 4, 5, 13]), (4, [0, 4, 5]), (5, [0, 4, 5]), (6, [0, 4, 6, 7]), (7, [4, 6, 7, 8]), (8, [4, 6, 7, 8, 26]), (9, [4, 6, 7, 8]), (10, [4, 6, 7, 8, 31]), (11, [4, 6, 7, 8]), (12, [4, 6, 7, 8]), (13, [2, 3])] [] [] [] [(0, [0, 4]), (1, [0, 4, 5]), (2, [4, 6]), (3, [4, 6, 7, 8])] [2, 3] [false, false] [] [] []
set_option maxRecDepth 100000 in
theorem c137 : convFn Tryd.prog a137 137 = some r137 := by kernel_rfl

end Go.Proofs.YtlgpcmklpknmcaaDoor
