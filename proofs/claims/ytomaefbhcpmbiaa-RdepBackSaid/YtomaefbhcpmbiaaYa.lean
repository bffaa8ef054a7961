/- The functions' code, checked against the program's. -/
import Derived.Test.YtomaefbhcpmbiaaEl
import Derived.Test.YtomaefbhcpmbiaaChecked
import Derived.KernelRfl
set_option linter.unusedVariables false
set_option maxRecDepth 100000
namespace Go.Proofs.Ytomaefbhcpmbiaa
open Go Go.Eng Go.Proofs

/-- drayage/drayagelaw15.RdepBack -/
def k4_10 : RCode :=
(.frame
(.seq
(RR [1, 9, 10] [gI 47 .mov [tt 1], gI 48 (.call 7) [tt 47], gI 46 .mov [tt 48], gI 49 (.pure (.extract 0)) [tt 46], gI 50 (.pure (.extract 1)) [tt 46], gI 9 (.new 5) [.c (AV.agg [AV.str [], AV.str [], AV.int .i64 0, AV.str [], AV.sl false 5 []])], gI 10 (.new 3) [.c (AV.agg [AV.str [], AV.int .i64 0, AV.int .i64 0])], gS (.store 5) [tt 9, tt 49], gS (.store 3) [tt 10, tt 50]])
(.seq
(.seq
(RR [1, 9, 10, 53] [gI 51 (.load 3 true false) [tt 10], gI 52 (.build [AV.str [], AV.int .i64 0, AV.int .i64 0] []) [], gI 53 (.pure (.eqS true [.s, .i, .i])) [tt 51, tt 52]])
(.cond (.t 53 false)
(.seq
(RR [4] [gI 54 (.pure (.faddr 2)) [tt 10], gI 55 (.load 1 false false) [tt 54], gI 56 (.pure (.bin .neq)) [tt 55, ti 0], gI 57 .mov [tt 56], .sub [(⟨some 58, .pure (.faddr 1), [tt 10], some (57, true)⟩, .any),
    (⟨some 59, .load 1 false false, [tt 58], some (57, true)⟩, .any),
    (⟨some 60, .pure (.bin .geq), [tt 59, ti 0], some (57, true)⟩, .any),
    (⟨some 61, .pure .pick, [tt 57, tt 60, .c (AV.bool false)], none⟩, .any)] 61, gI 62 .mov [tt 61], .sub [(⟨some 63, .pure (.faddr 1), [tt 10], some (62, true)⟩, .any),
    (⟨some 64, .load 1 false false, [tt 63], some (62, true)⟩, .any),
    (⟨some 65, .mov, [tt 1], some (62, true)⟩, .any),
    (⟨some 66, .pure .lenS, [tt 65], some (62, true)⟩, .any),
    (⟨some 67, .pure (.bin .leq), [tt 64, tt 66], some (62, true)⟩, .any),
    (⟨some 68, .pure .pick, [tt 62, tt 67, .c (AV.bool false)], none⟩, .any)] 68, gI 69 .mov [tt 68], .sub [(⟨some 70, .load 5 true false, [tt 9], some (69, true)⟩, .any),
    (⟨some 71, .build [AV.str [], AV.str [], AV.int .i64 0, AV.str [], AV.sl false 5 []] [], [], some (69, true)⟩, .any),
    (⟨some 72, .call 9, [tt 70, tt 71], some (69, true)⟩, .any),
    (⟨some 73, .pure .pick, [tt 69, tt 72, .c (AV.bool false)], none⟩, .any)] 73, gI 4 .mov [tt 73]])
(.ret [4]))
.skip))
(.seq
(RR [9, 11, 12] [gI 75 (.load 5 true false) [tt 9], gI 76 (.call 11) [tt 75], gI 74 .mov [tt 76], gI 77 (.pure (.extract 0)) [tt 74], gI 78 (.pure (.extract 1)) [tt 74], gI 11 .mov [tt 77], gI 12 .mov [tt 78]])
(.seq
(RR [9, 12, 13, 14] [gI 80 .mov [tt 11], gI 81 (.call 7) [tt 80], gI 79 .mov [tt 81], gI 82 (.pure (.extract 0)) [tt 79], gI 83 (.pure (.extract 1)) [tt 79], gI 13 (.new 5) [.c (AV.agg [AV.str [], AV.str [], AV.int .i64 0, AV.str [], AV.sl false 5 []])], gI 14 (.new 3) [.c (AV.agg [AV.str [], AV.int .i64 0, AV.int .i64 0])], gS (.store 5) [tt 13, tt 82], gS (.store 3) [tt 14, tt 83]])
(.seq
(RR [4] [gI 84 .mov [tt 12], gI 85 (.pure (.bin .eql)) [tt 84, ti 0], gI 86 .mov [tt 85], .sub [(⟨some 87, .load 3 true false, [tt 14], some (86, true)⟩, .any),
    (⟨some 88, .build [AV.str [], AV.int .i64 0, AV.int .i64 0] [], [], some (86, true)⟩, .any),
    (⟨some 89, .pure (.eqS false [.s, .i, .i]), [tt 87, tt 88], some (86, true)⟩, .any),
    (⟨some 90, .pure .pick, [tt 86, tt 89, .c (AV.bool false)], none⟩, .any)] 90, gI 91 .mov [tt 90], .sub [(⟨some 92, .load 5 true false, [tt 9], some (91, true)⟩, .any),
    (⟨some 93, .load 5 true false, [tt 13], some (91, true)⟩, .any),
    (⟨some 94, .call 9, [tt 92, tt 93], some (91, true)⟩, .any),
    (⟨some 95, .pure .pick, [tt 91, tt 94, .c (AV.bool false)], none⟩, .any)] 95, gI 96 .mov [tt 95], .sub [(⟨some 97, .load 5 true false, [tt 9], some (96, true)⟩, .any),
    (⟨some 98, .call 12, [tt 97], some (96, true)⟩, .any),
    (⟨some 99, .pure (.bin .eql), [tt 98, ti 0], some (96, true)⟩, .any),
    (⟨some 100, .pure .pick, [tt 96, tt 99, .c (AV.bool false)], none⟩, .any)] 100, gI 4 .mov [tt 100]])
(.ret [4])))))))
def r4 : RFunc := ⟨101,
(.seq
(RR [1, 2] [gI 2 (.new 5) [tt 0], gI 4 .mov [.c (AV.bool false)]])
(.seq
(.seq
(RR [1, 2, 16] [gI 15 (.call 6) [], gI 16 (.pure (.un .not)) [tt 15]])
(.cond (.t 16 false)
(.seq
(RR [4] [gI 4 .mov [.c (AV.bool false)]])
(.ret [4]))
.skip))
(.seq
(.seq
(RR [1, 2, 24] [gI 17 (.load 5 true false) [tt 2], gI 18 (.call 10) [tt 17, ti 300], gI 19 (.pure (.bin .gtr)) [tt 18, ti 300], gI 20 .mov [tt 19], .sub [(⟨some 21, .mov, [tt 1], some (20, false)⟩, .any),
    (⟨some 22, .pure .lenS, [tt 21], some (20, false)⟩, .any),
    (⟨some 23, .pure (.bin .gtr), [tt 22, ti 4000], some (20, false)⟩, .any),
    (⟨some 24, .pure .pick, [tt 20, .c (AV.bool true), tt 23], none⟩, .any)] 24])
(.cond (.t 24 false)
(.seq
(RR [4] [gI 4 .mov [.c (AV.bool true)]])
(.ret [4]))
.skip))
(.seq
(.seq
(RR [1, 2, 5, 6] [gI 26 (.load 5 true false) [tt 2], gI 27 (.call 11) [tt 26], gI 25 .mov [tt 27], gI 28 (.pure (.extract 0)) [tt 25], gI 29 (.pure (.extract 1)) [tt 25], gI 5 .mov [tt 28], gI 6 .mov [tt 29]])
(.seq
(RR [1, 2, 5, 31] [gI 30 .mov [tt 6], gI 31 (.pure (.bin .eql)) [tt 30, ti 0]])
(.frame (.cond (.t 31 false)
(.seq
(RR [1, 2, 7, 8] [gI 33 .mov [tt 5], gI 34 (.call 7) [tt 33], gI 32 .mov [tt 34], gI 35 (.pure (.extract 0)) [tt 32], gI 36 (.pure (.extract 1)) [tt 32], gI 7 (.new 5) [.c (AV.agg [AV.str [], AV.str [], AV.int .i64 0, AV.str [], AV.sl false 5 []])], gI 8 (.new 3) [.c (AV.agg [AV.str [], AV.int .i64 0, AV.int .i64 0])], gS (.store 5) [tt 7, tt 35], gS (.store 3) [tt 8, tt 36]])
(.seq
(RR [1, 45] [gI 37 (.load 3 true false) [tt 8], gI 38 (.build [AV.str [], AV.int .i64 0, AV.int .i64 0] []) [], gI 39 (.pure (.eqS true [.s, .i, .i])) [tt 37, tt 38], gI 40 .mov [tt 39], .sub [(⟨some 41, .load 5 true false, [tt 7], some (40, false)⟩, .any),
    (⟨some 42, .load 5 true false, [tt 2], some (40, false)⟩, .any),
    (⟨some 43, .call 9, [tt 41, tt 42], some (40, false)⟩, .any),
    (⟨some 44, .pure (.un .not), [tt 43], some (40, false)⟩, .any),
    (⟨some 45, .pure .pick, [tt 40, .c (AV.bool true), tt 44], none⟩, .any)] 45])
(.cond (.t 45 false)
(.seq
(RR [4] [gI 4 .mov [.c (AV.bool false)]])
(.ret [4]))
.skip)))
.skip))))
(.cut 100010 [1] [4] k4_10))))),
 [.tmp 4 false], false⟩
def a4 : Ann := mkAnn [] [] false [] [] [(0, [1, 2]), (1, [1, 2, 16]), (2, [4]), (3, [1, 2, 24]), (4, [4]), (5, [1, 2, 5, 6]), (6, [1, 2, 5, 31]), (7, [1, 2, 7, 8]), (8, [1, 45]), (9, [4]), (10, [1, 9, 10]), (11, [1, 9, 10, 53]), (12, [4]), (13, [9, 11, 12]), (14, [9, 12, 13, 14]), (15, [4])] [] [(7, 5, [0, 0, 0, 0, 10]), (10, 5, [0, 0, 0, 0, 10]), (12, 17, [0, 0, 0, 0, 10]), (14, 5, [0, 0, 0, 0, 10])] [(10, [1], [4])] [] [4] [false] [(3, [(4, none), (4, some 24)]), (8, [(4, none), (5, some 45)]), (12, [(4, none), (4, some 61), (1, none), (6, some 68), (1, none), (4, some 73)]), (15, [(3, none), (4, some 90), (1, none), (4, some 95), (1, none), (4, some 100)])] [] [100010, 200007]
set_option maxRecDepth 100000 in
theorem c4 : convFn Try.prog a4 4 = some r4 := by kernel_rfl

/-- drayage/drayagelaw15.awake -/
def r6 : RFunc := ⟨44,
(.seq
(RR [] [gI 0 .mov [.c (AV.bool false)]])
(.seq
(RR [1, 2] [gI 8 (.call 7) [.c (AV.str [40, 97, 32, 62, 61, 32, 49, 45, 49, 32, 111, 114, 32, 40, 32, 98, 32, 97, 110, 100, 32, 99, 32, 41, 41])], gI 7 .mov [tt 8], gI 9 (.pure (.extract 0)) [tt 7], gI 10 (.pure (.extract 1)) [tt 7], gI 1 (.new 5) [.c (AV.agg [AV.str [], AV.str [], AV.int .i64 0, AV.str [], AV.sl false 5 []])], gI 2 (.new 3) [.c (AV.agg [AV.str [], AV.int .i64 0, AV.int .i64 0])], gS (.store 5) [tt 1, tt 9], gS (.store 3) [tt 2, tt 10]])
(.seq
(RR [1, 2, 3, 4] [gI 12 (.load 5 true false) [tt 1], gI 13 (.call 11) [tt 12], gI 11 .mov [tt 13], gI 14 (.pure (.extract 0)) [tt 11], gI 15 (.pure (.extract 1)) [tt 11], gI 3 .mov [tt 14], gI 4 .mov [tt 15]])
(.seq
(RR [1, 2, 3, 4, 6] [gI 17 (.call 7) [.c (AV.str [40, 97, 32, 97, 110, 100, 32, 98, 32, 111, 114, 32, 99, 41])], gI 16 .mov [tt 17], gI 18 (.pure (.extract 0)) [tt 16], gI 19 (.pure (.extract 1)) [tt 16], gI 5 (.new 5) [.c (AV.agg [AV.str [], AV.str [], AV.int .i64 0, AV.str [], AV.sl false 5 []])], gI 6 (.new 3) [.c (AV.agg [AV.str [], AV.int .i64 0, AV.int .i64 0])], gS (.store 5) [tt 5, tt 18], gS (.store 3) [tt 6, tt 19]])
(.seq
(RR [0] [gI 20 (.load 3 true false) [tt 2], gI 21 (.build [AV.str [], AV.int .i64 0, AV.int .i64 0] []) [], gI 22 (.pure (.eqS false [.s, .i, .i])) [tt 20, tt 21], gI 23 .mov [tt 22], .sub [(⟨some 24, .mov, [tt 4], some (23, true)⟩, .any),
    (⟨some 25, .pure (.bin .eql), [tt 24, ti 0], some (23, true)⟩, .any),
    (⟨some 26, .pure .pick, [tt 23, tt 25, .c (AV.bool false)], none⟩, .any)] 26, gI 27 .mov [tt 26], .sub [(⟨some 28, .mov, [tt 3], some (27, true)⟩, .any),
    (⟨some 29, .pure (.bin .eql), [tt 28, .c (AV.str [40, 97, 32, 62, 61, 32, 49, 45, 49, 32, 111, 114, 32, 40, 98, 32, 97, 110, 100, 32, 99, 41, 41])], some (27, true)⟩, .any),
    (⟨some 30, .pure .pick, [tt 27, tt 29, .c (AV.bool false)], none⟩, .any)] 30, gI 31 .mov [tt 30], .sub [(⟨some 32, .load 5 true false, [tt 1], some (31, true)⟩, .any),
    (⟨some 33, .call 18, [tt 32], some (31, true)⟩, .any),
    (⟨some 34, .pure (.bin .eql), [tt 33, ti 2], some (31, true)⟩, .any),
    (⟨some 35, .pure .pick, [tt 31, tt 34, .c (AV.bool false)], none⟩, .any)] 35, gI 36 .mov [tt 35], .sub [(⟨some 37, .load 3 true false, [tt 6], some (36, true)⟩, .any),
    (⟨some 38, .build [AV.str [], AV.int .i64 0, AV.int .i64 0] [(1, 1), (2, 1)], [ti 9, ti 3], some (36, true)⟩, .any),
    (⟨some 39, .pure (.eqS false [.s, .i, .i]), [tt 37, tt 38], some (36, true)⟩, .any),
    (⟨some 40, .pure .pick, [tt 36, tt 39, .c (AV.bool false)], none⟩, .any)] 40, gI 41 .mov [tt 40], .sub [(⟨some 42, .call 19, [.c (AV.str [112, 101, 114, 108, 40, 88, 41])], some (41, true)⟩, .any),
    (⟨some 43, .pure .pick, [tt 41, tt 42, .c (AV.bool false)], none⟩, .any)] 43, gI 0 .mov [tt 43]])
(.ret [0])))))),
 [.tmp 0 false], false⟩
def a6 : Ann := mkAnn [] [] false [] [] [(0, []), (1, [1, 2]), (2, [1, 2, 3, 4]), (3, [1, 2, 3, 4, 6]), (4, [0])] [] [(1, 4, [0, 0, 0, 0, 10]), (3, 4, [0, 0, 0, 0, 10])] [] [] [0] [false] [(4, [(4, none), (3, some 26), (1, none), (3, some 30), (1, none), (4, some 35), (1, none), (4, some 40), (1, none), (2, some 43)])] [] []
set_option maxRecDepth 100000 in
theorem c6 : convFn Try.prog a6 6 = some r6 := by kernel_rfl

/-- drayage/rdep.Parse -/
def k7_7 : RCode :=
(.seq
(.seq
(RR [2, 3, 4, 6, 28] [gI 23 .mov [tt 4], gI 24 (.pure .nilck) [tt 23], gI 25 (.pure (.faddr 2)) [tt 24], gI 26 (.pure (.faddr 2)) [tt 25], gI 27 (.load 1 false false) [tt 26], gI 28 (.pure (.bin .neq)) [tt 27, ti 0]])
(.cond (.t 28 false)
(.seq
(.region (some ([5, 6], [(5, [4])])) [2, 3] [gI 29 (.build [AV.str [], AV.str [], AV.int .i64 0, AV.str [], AV.sl false 5 []] []) [], gI 30 .mov [tt 4], gI 31 (.pure .nilck) [tt 30], gI 32 (.pure (.faddr 2)) [tt 31], gI 33 (.load 3 true false) [tt 32], gS (.store 5) [tt 2, tt 29], gS (.store 3) [tt 3, tt 33]])
(.ret [2, 3]))
.skip))
(.seq
(RR [2, 3] [gI 34 (.load 5 true false) [tt 6], gI 35 (.build [AV.str [], AV.int .i64 0, AV.int .i64 0] []) [], gS (.store 5) [tt 2, tt 34], gS (.store 3) [tt 3, tt 35]])
(.ret [2, 3])))
def r7 : RFunc := ⟨36,
(.seq
(RR [0, 2, 3] [gI 2 (.new 5) [.c (AV.agg [AV.str [], AV.str [], AV.int .i64 0, AV.str [], AV.sl false 5 []])], gI 3 (.new 3) [.c (AV.agg [AV.str [], AV.int .i64 0, AV.int .i64 0])]])
(.seq
(RR [2, 3, 4] [gI 8 .mov [tt 0], gI 9 (.call 20) [tt 8], gI 10 (.build [AV.sl false 2 [], AV.int .i64 0, AV.str [], AV.int .i64 0, AV.int .i64 0] [(0, 1)]) [tt 9], gI 11 (.new 5) [tt 10], gI 4 .mov [tt 11]])
(.seq
(RR [2, 3, 4, 5] [gI 5 (.new 1) [ti 0], gS (.store 1) [tt 5, ti 0]])
(.seq
(RR [2, 3, 4, 6] [gI 12 .mov [tt 4], gI 13 (.call 21) [tt 12, ti 0, tt 5], gI 6 (.new 5) [.c (AV.agg [AV.str [], AV.str [], AV.int .i64 0, AV.str [], AV.sl false 5 []])], gS (.store 5) [tt 6, tt 13]])
(.seq
(.seq
(RR [2, 3, 4, 6, 7] [gI 14 .mov [tt 4], gI 15 (.call 22) [tt 14], gI 7 (.new 2) [.c (AV.agg [AV.str [], AV.int .i64 0])], gS (.store 2) [tt 7, tt 15]])
(.seq
(RR [2, 3, 4, 6, 7, 18] [gI 16 (.pure (.faddr 0)) [tt 7], gI 17 (.load 1 false false) [tt 16], gI 18 (.pure (.bin .neq)) [tt 17, .c (AV.str [])]])
(.cond (.t 18 false)
(RR [2, 3, 4, 6] [gI 19 .mov [tt 4], gI 20 (.pure (.faddr 1)) [tt 7], gI 21 (.load 1 false false) [tt 20], gI 22 (.call 23) [tt 19, tt 21, ti 3]])
.skip)))
(.cut 100007 [2, 3, 4, 6] [2, 3] k7_7)))))),
 [.cell 2 5 true, .cell 3 3 true], false⟩
def a7 : Ann := mkAnn [] [] false [(8, [5, 6])] [(8, [(5, [4])])] [(0, [0, 2, 3]), (1, [2, 3, 4]), (2, [2, 3, 4, 5]), (3, [2, 3, 4, 6]), (4, [2, 3, 4, 6, 7]), (5, [2, 3, 4, 6, 7, 18]), (6, [2, 3, 4, 6]), (7, [2, 3, 4, 6, 28]), (8, [2, 3]), (9, [2, 3])] [] [(0, 0, [0, 0, 0, 0, 10]), (1, 2, [4]), (3, 2, [0, 0, 0, 0, 10]), (8, 0, [0, 0, 0, 0, 10])] [(7, [2, 3, 4, 6], [2, 3])] [] [2, 3] [false, false] [] [] []
set_option maxRecDepth 100000 in
theorem c7 : convFn Try.prog a7 7 = some r7 := by kernel_rfl

/-- drayage/drayageref15.Same -/
def l9_4 : RCode :=
(.seq
(.seq
(RR [2, 3, 5, 31] [gI 27 .mov [tt 5], gI 28 (.pure (.faddr 4)) [tt 2], gI 29 (.load 1 false false) [tt 28], gI 30 (.pure .lenSl) [tt 29], gI 31 (.pure (.bin .lss)) [tt 27, tt 30]])
(.cond (.t 31 false)
.skip
(.exit 0 [])))
(.seq
(.block 1
(.seq
(.region (some ([], [])) [2, 3, 5, 45] [gI 34 (.pure (.faddr 4)) [tt 2], gI 35 (.load 1 false false) [tt 34], gI 36 .mov [tt 5], .one ⟨some 37, .pure (.iaddr 5), [tt 35, tt 36], none⟩ (.agg [.str, .str, (.int .i64), .str, (.sl false 5)]), gI 38 (.load 5 true false) [tt 37], gI 39 (.pure (.faddr 4)) [tt 3], gI 40 (.load 1 false false) [tt 39], gI 41 .mov [tt 5], .one ⟨some 42, .pure (.iaddr 5), [tt 40, tt 41], none⟩ (.agg [.str, .str, (.int .i64), .str, (.sl false 5)]), gI 43 (.load 5 true false) [tt 42], gI 44 (.call 9) [tt 38, tt 43], gI 45 (.pure (.un .not)) [tt 44]])
(.cond (.t 45 false)
(.seq
(RR [4] [gI 4 .mov [.c (AV.bool false)]])
(.ret [4]))
.skip)))
(RR [2, 3, 5] [gI 32 .mov [tt 5], gI 33 (.pure (.bin .add)) [tt 32, ti 1], gI 5 .mov [tt 33]])))
def r9 : RFunc := ⟨46,
(.seq
(RR [2, 3] [gI 2 (.new 5) [tt 0], gI 3 (.new 5) [tt 1], gI 4 .mov [.c (AV.bool false)]])
(.seq
(.seq
(RR [2, 3, 26] [gI 6 (.pure (.faddr 0)) [tt 2], gI 7 (.load 1 false false) [tt 6], gI 8 (.pure (.faddr 0)) [tt 3], gI 9 (.load 1 false false) [tt 8], gI 10 (.pure (.bin .neq)) [tt 7, tt 9], gI 11 .mov [tt 10], .sub [(⟨some 12, .pure (.faddr 1), [tt 2], some (11, false)⟩, .any),
    (⟨some 13, .load 3 true false, [tt 12], some (11, false)⟩, .any),
    (⟨some 14, .pure (.faddr 1), [tt 3], some (11, false)⟩, .any),
    (⟨some 15, .load 3 true false, [tt 14], some (11, false)⟩, .any),
    (⟨some 16, .pure (.eqS true [.s, .i, .s]), [tt 13, tt 15], some (11, false)⟩, .any),
    (⟨some 17, .pure .pick, [tt 11, .c (AV.bool true), tt 16], none⟩, .any)] 17, gI 18 .mov [tt 17], .sub [(⟨some 19, .pure (.faddr 4), [tt 2], some (18, false)⟩, .any),
    (⟨some 20, .load 1 false false, [tt 19], some (18, false)⟩, .any),
    (⟨some 21, .pure .lenSl, [tt 20], some (18, false)⟩, .any),
    (⟨some 22, .pure (.faddr 4), [tt 3], some (18, false)⟩, .any),
    (⟨some 23, .load 1 false false, [tt 22], some (18, false)⟩, .any),
    (⟨some 24, .pure .lenSl, [tt 23], some (18, false)⟩, .any),
    (⟨some 25, .pure (.bin .neq), [tt 21, tt 24], some (18, false)⟩, .any),
    (⟨some 26, .pure .pick, [tt 18, .c (AV.bool true), tt 25], none⟩, .any)] 26])
(.cond (.t 26 false)
(.seq
(RR [4] [gI 4 .mov [.c (AV.bool false)]])
(.ret [4]))
.skip))
(.seq
(.seq
(RR [2, 3, 5] [gI 5 .mov [ti 0]])
(.block 0
(.loop 4 [2, 3, 5] l9_4)))
(.seq
(RR [4] [gI 4 .mov [.c (AV.bool true)]])
(.ret [4]))))),
 [.tmp 4 false], false⟩
def a9 : Ann := mkAnn [] [(4, [2, 3, 5])] false [(6, [])] [] [(0, [2, 3]), (1, [2, 3, 26]), (2, [4]), (3, [2, 3, 5]), (4, [2, 3, 5, 31]), (5, [2, 3, 5]), (6, [2, 3, 5, 45]), (7, [4]), (8, [4])] [] [] [] [(0, []), (1, [2, 3, 5])] [4] [false] [(1, [(6, none), (6, some 17), (1, none), (8, some 26)])] [(6, 3, (.agg [.str, .str, (.int .i64), .str, (.sl false 5)])), (6, 8, (.agg [.str, .str, (.int .i64), .str, (.sl false 5)]))] []
set_option maxRecDepth 100000 in
theorem c9 : convFn Try.prog a9 9 = some r9 := by kernel_rfl

/-- drayage/drayageref15.Size -/
def l10_5 : RCode :=
(.seq
(.seq
(RR [1, 2, 5, 6, 40] [gI 31 .mov [tt 6], gI 32 (.pure (.faddr 4)) [tt 2], gI 33 (.load 1 false false) [tt 32], gI 34 (.pure .lenSl) [tt 33], gI 35 (.pure (.bin .lss)) [tt 31, tt 34], gI 36 .mov [tt 35], .sub [(⟨some 37, .mov, [tt 5], some (36, true)⟩, .any),
    (⟨some 38, .mov, [tt 1], some (36, true)⟩, .any),
    (⟨some 39, .pure (.bin .leq), [tt 37, tt 38], some (36, true)⟩, .any),
    (⟨some 40, .pure .pick, [tt 36, tt 39, .c (AV.bool false)], none⟩, .any)] 40])
(.cond (.t 40 false)
.skip
(.exit 0 [5])))
(.seq
(.block 1
(RR [1, 2, 5, 6] [gI 43 .mov [tt 5], gI 44 (.pure (.faddr 4)) [tt 2], gI 45 (.load 1 false false) [tt 44], gI 46 .mov [tt 6], .one ⟨some 47, .pure (.iaddr 5), [tt 45, tt 46], none⟩ (.agg [.str, .str, (.int .i64), .str, (.sl false 5)]), gI 48 (.load 5 true false) [tt 47], gI 49 .mov [tt 1], gI 50 .mov [tt 5], gI 51 (.pure (.bin .sub)) [tt 49, tt 50], gI 52 (.call 10) [tt 48, tt 51], gI 53 (.pure (.bin .add)) [tt 43, tt 52], gI 5 .mov [tt 53]]))
(RR [1, 2, 5, 6] [gI 41 .mov [tt 6], gI 42 (.pure (.bin .add)) [tt 41, ti 1], gI 6 .mov [tt 42]])))
def r10 : RFunc := ⟨55,
(.seq
(RR [1, 2] [gI 2 (.new 5) [tt 0], gI 4 .mov [ti 0]])
(.seq
(.seq
(RR [1, 2, 28] [gI 7 .mov [tt 1], gI 8 (.pure (.bin .lss)) [tt 7, ti 1], gI 9 .mov [tt 8], .sub [(⟨some 10, .pure (.faddr 0), [tt 2], some (9, false)⟩, .any),
    (⟨some 11, .load 1 false false, [tt 10], some (9, false)⟩, .any),
    (⟨some 12, .pure .lenS, [tt 11], some (9, false)⟩, .any),
    (⟨some 13, .pure (.bin .gtr), [tt 12, ti 300], some (9, false)⟩, .any),
    (⟨some 14, .pure .pick, [tt 9, .c (AV.bool true), tt 13], none⟩, .any)] 14, gI 15 .mov [tt 14], .sub [(⟨some 16, .pure (.faddr 1), [tt 2], some (15, false)⟩, .any),
    (⟨some 17, .pure (.faddr 0), [tt 16], some (15, false)⟩, .any),
    (⟨some 18, .load 1 false false, [tt 17], some (15, false)⟩, .any),
    (⟨some 19, .pure .lenS, [tt 18], some (15, false)⟩, .any),
    (⟨some 20, .pure (.bin .gtr), [tt 19, ti 300], some (15, false)⟩, .any),
    (⟨some 21, .pure .pick, [tt 15, .c (AV.bool true), tt 20], none⟩, .any)] 21, gI 22 .mov [tt 21], .sub [(⟨some 23, .pure (.faddr 1), [tt 2], some (22, false)⟩, .any),
    (⟨some 24, .pure (.faddr 2), [tt 23], some (22, false)⟩, .any),
    (⟨some 25, .load 1 false false, [tt 24], some (22, false)⟩, .any),
    (⟨some 26, .pure .lenS, [tt 25], some (22, false)⟩, .any),
    (⟨some 27, .pure (.bin .gtr), [tt 26, ti 300], some (22, false)⟩, .any),
    (⟨some 28, .pure .pick, [tt 22, .c (AV.bool true), tt 27], none⟩, .any)] 28])
(.cond (.t 28 false)
(.seq
(RR [4] [gI 29 .mov [tt 1], gI 30 (.pure (.bin .add)) [tt 29, ti 1], gI 4 .mov [tt 30]])
(.ret [4]))
.skip))
(.seq
(RR [1, 2, 5] [gI 5 .mov [ti 1]])
(.seq
(.seq
(RR [1, 2, 5, 6] [gI 6 .mov [ti 0]])
(.block 0
(.loop 5 [1, 2, 5, 6] l10_5)))
(.seq
(RR [4] [gI 54 .mov [tt 5], gI 4 .mov [tt 54]])
(.ret [4])))))),
 [.tmp 4 false], false⟩
def a10 : Ann := mkAnn [] [(5, [1, 2, 5, 6])] false [] [] [(0, [1, 2]), (1, [1, 2, 28]), (2, [4]), (3, [1, 2, 5]), (4, [1, 2, 5, 6]), (5, [1, 2, 5, 6, 40]), (6, [1, 2, 5, 6]), (7, [1, 2, 5, 6]), (8, [4])] [] [] [] [(0, [5]), (1, [1, 2, 5, 6])] [4] [false] [(1, [(3, none), (5, some 14), (1, none), (6, some 21), (1, none), (6, some 28)]), (5, [(6, none), (4, some 40)])] [(7, 4, (.agg [.str, .str, (.int .i64), .str, (.sl false 5)]))] []
set_option maxRecDepth 100000 in
theorem c10 : convFn Try.prog a10 10 = some r10 := by kernel_rfl

/-- drayage/rdep.Print -/
def r11 : RFunc := ⟨12,
(.seq
(RR [1] [gI 1 (.new 5) [tt 0], gI 2 .mov [.c (AV.str [])], gI 3 .mov [ti 0]])
(.seq
(.seq
(RR [1, 4] [gI 5 (.load 5 true false) [tt 1], gI 6 (.call 12) [tt 5], gI 4 .mov [tt 6]])
(.seq
(RR [1, 4, 8] [gI 7 .mov [tt 4], gI 8 (.pure (.bin .neq)) [tt 7, ti 0]])
(.cond (.t 8 false)
(.seq
(RR [2, 3] [gI 9 .mov [tt 4], gI 2 .mov [.c (AV.str [])], gI 3 .mov [tt 9]])
(.ret [2, 3]))
.skip)))
(.seq
(RR [2, 3] [gI 10 (.load 5 true false) [tt 1], gI 11 (.call 27) [tt 10], gI 2 .mov [tt 11], gI 3 .mov [ti 0]])
(.ret [2, 3])))),
 [.tmp 2 false, .tmp 3 false], false⟩
def a11 : Ann := mkAnn [] [] false [] [] [(0, [1]), (1, [1, 4]), (2, [1, 4, 8]), (3, [2, 3]), (4, [2, 3])] [] [] [] [] [2, 3] [false, false] [] [] []
set_option maxRecDepth 100000 in
theorem c11 : convFn Try.prog a11 11 = some r11 := by kernel_rfl

/-- drayage/rdep.Check -/
def r12 : RFunc := ⟨13,
(.seq
(RR [1] [gI 1 (.new 5) [tt 0], gI 2 .mov [ti 0]])
(.seq
(.seq
(RR [1, 10] [gI 3 (.load 5 true false) [tt 1], gI 4 (.call 18) [tt 3], gI 5 (.pure (.bin .gtr)) [tt 4, ti 32], gI 6 .mov [tt 5], .sub [(⟨some 7, .load 5 true false, [tt 1], some (6, false)⟩, .any),
    (⟨some 8, .call 28, [tt 7, ti 32], some (6, false)⟩, .any),
    (⟨some 9, .pure (.bin .gtr), [tt 8, ti 64], some (6, false)⟩, .any),
    (⟨some 10, .pure .pick, [tt 6, .c (AV.bool true), tt 9], none⟩, .any)] 10])
(.cond (.t 10 false)
(.seq
(RR [2] [gI 2 .mov [ti 4]])
(.ret [2]))
.skip))
(.seq
(RR [2] [gI 11 (.load 5 true false) [tt 1], gI 12 (.call 29) [tt 11], gI 2 .mov [tt 12]])
(.ret [2])))),
 [.tmp 2 false], false⟩
def a12 : Ann := mkAnn [] [] false [] [] [(0, [1]), (1, [1, 10]), (2, [2]), (3, [2])] [] [] [] [] [2] [false] [(1, [(4, none), (4, some 10)])] [] []
set_option maxRecDepth 100000 in
theorem c12 : convFn Try.prog a12 12 = some r12 := by kernel_rfl

/-- drayage/rdep.Depth -/
def l18_3 : RCode :=
 (.frame
(.seq
(RR [1, 3, 7, 8, 9, 10] [gI 10 (.pure (.bin .lss)) [tt 9, tt 8]])
(.seq
(.cond (.t 10 false)
.skip
(.exit 0 [1, 3]))
(.seq
(.block 1
(.seq
(RR [1, 3, 5, 7, 8, 9] [.one ⟨some 11, .pure (.iaddr 5), [tt 7, tt 9], none⟩ (.agg [.str, .str, (.int .i64), .str, (.sl false 5)]), gI 12 (.load 5 true false) [tt 11], gI 5 (.new 5) [.c (AV.agg [AV.str [], AV.str [], AV.int .i64 0, AV.str [], AV.sl false 5 []])], gS (.store 5) [tt 5, tt 12]])
(RR [1, 3, 7, 8, 9] [gI 13 .mov [tt 3], gI 14 (.load 5 true false) [tt 5], gI 15 (.call 18) [tt 14], gI 16 (.pure (.bin .add)) [ti 1, tt 15], gI 17 (.pure .maxI) [tt 13, tt 16], gI 3 .mov [tt 17]])))
(RR [1, 3, 7, 8, 9] [gI 18 (.pure (.bin .add)) [tt 9, ti 1], gI 9 .mov [tt 18]])))))
def r18 : RFunc := ⟨25,
(.seq
(RR [1] [gI 1 (.new 5) [tt 0], gI 2 .mov [ti 0]])
(.seq
(RR [1, 3] [gI 3 .mov [ti 0]])
(.seq
(.seq
(RR [1, 3, 7, 8, 9] [gI 6 (.pure (.faddr 4)) [tt 1], gI 7 (.load 1 false false) [tt 6], gI 8 (.pure .lenSl) [tt 7], gI 9 .mov [ti 0]])
(.block 0
(.loop 3 [1, 3, 7, 8, 9] l18_3)))
(.seq
(.seq
(RR [3, 21] [gI 19 (.pure (.faddr 0)) [tt 1], gI 20 (.load 1 false false) [tt 19], gI 21 (.pure (.bin .neq)) [tt 20, .c (AV.str [])]])
(.cond (.t 21 false)
(RR [3] [gI 22 .mov [tt 3], gI 23 (.pure .maxI) [tt 22, ti 1], gI 3 .mov [tt 23]])
.skip))
(.seq
(RR [2] [gI 24 .mov [tt 3], gI 2 .mov [tt 24]])
(.ret [2])))))),
 [.tmp 2 false], false⟩
def a18 : Ann := mkAnn [] [(3, [1, 3, 7, 8, 9])] false [] [] [(0, [1]), (1, [1, 3]), (2, [1, 3, 7, 8, 9]), (3, [1, 3, 7, 8, 9, 10]), (4, [1, 3, 5, 7, 8, 9]), (5, [1, 3, 7, 8, 9]), (6, [1, 3, 7, 8, 9]), (7, [3, 21]), (8, [3]), (9, [2])] [] [(4, 2, [0, 0, 0, 0, 10])] [] [(0, [1, 3]), (1, [1, 3, 7, 8, 9])] [2] [false] [] [(4, 0, (.agg [.str, .str, (.int .i64), .str, (.sl false 5)]))] [3]
set_option maxRecDepth 100000 in
theorem c18 : convFn Try.prog a18 18 = some r18 := by kernel_rfl

/-- drayage/rdep.Name -/
def l19_3 : RCode :=
(.seq
(.seq
(RR [0, 3, 4, 10] [gI 7 .mov [tt 4], gI 8 .mov [tt 0], gI 9 (.pure .lenS) [tt 8], gI 10 (.pure (.bin .lss)) [tt 7, tt 9]])
(.cond (.t 10 false)
.skip
(.exit 0 [0, 3])))
(.seq
(.block 1
(.seq
(RR [0, 3, 4, 5] [gI 13 .mov [tt 0], gI 14 .mov [tt 4], gI 15 (.pure .idxStr) [tt 13, tt 14], gI 5 .mov [tt 15]])
(.seq
(RR [0, 3, 4, 5, 6] [gI 16 .mov [tt 5], gI 17 (.pure (.bin .geq)) [tt 16, .c (AV.int .u8 97)], gI 18 .mov [tt 17], .sub [(⟨some 19, .mov, [tt 5], some (18, true)⟩, .any),
    (⟨some 20, .pure (.bin .leq), [tt 19, .c (AV.int .u8 122)], some (18, true)⟩, .any),
    (⟨some 21, .pure .pick, [tt 18, tt 20, .c (AV.bool false)], none⟩, .any)] 21, gI 22 .mov [tt 21], .sub [(⟨some 23, .mov, [tt 5], some (22, false)⟩, .any),
    (⟨some 24, .pure (.bin .geq), [tt 23, .c (AV.int .u8 65)], some (22, false)⟩, .any),
    (⟨some 25, .mov, [tt 24], some (22, false)⟩, .any),
    (⟨some 26, .mov, [tt 5], some (25, true)⟩, .any),
    (⟨some 27, .pure (.bin .leq), [tt 26, .c (AV.int .u8 90)], some (25, true)⟩, .any),
    (⟨some 28, .pure .pick, [tt 25, tt 27, .c (AV.bool false)], some (22, false)⟩, .any),
    (⟨some 29, .pure .pick, [tt 22, .c (AV.bool true), tt 28], none⟩, .any)] 29, gI 30 .mov [tt 29], .sub [(⟨some 31, .mov, [tt 5], some (30, false)⟩, .any),
    (⟨some 32, .pure (.bin .geq), [tt 31, .c (AV.int .u8 48)], some (30, false)⟩, .any),
    (⟨some 33, .mov, [tt 32], some (30, false)⟩, .any),
    (⟨some 34, .mov, [tt 5], some (33, true)⟩, .any),
    (⟨some 35, .pure (.bin .leq), [tt 34, .c (AV.int .u8 57)], some (33, true)⟩, .any),
    (⟨some 36, .pure .pick, [tt 33, tt 35, .c (AV.bool false)], some (30, false)⟩, .any),
    (⟨some 37, .pure .pick, [tt 30, .c (AV.bool true), tt 36], none⟩, .any)] 37, gI 38 .mov [tt 37], .sub [(⟨some 39, .mov, [tt 5], some (38, false)⟩, .any),
    (⟨some 40, .pure (.bin .eql), [tt 39, .c (AV.int .u8 47)], some (38, false)⟩, .any),
    (⟨some 41, .pure .pick, [tt 38, .c (AV.bool true), tt 40], none⟩, .any)] 41, gI 6 .mov [tt 41]])
(.block 2
(.seq
(RR [0, 3, 4, 5, 6, 42] [gI 43 .mov [tt 5], gI 44 (.pure (.bin .eql)) [tt 43, .c (AV.int .u8 40)], gI 45 .mov [tt 44], .sub [(⟨some 46, .mov, [tt 4], some (45, true)⟩, .any),
    (⟨some 47, .pure (.bin .gtr), [tt 46, ti 0], some (45, true)⟩, .any),
    (⟨some 48, .pure .pick, [tt 45, tt 47, .c (AV.bool false)], none⟩, .any)] 48, gI 42 .mov [tt 48]])
(.cond (.t 42 false)
(RR [0, 3, 4] [gI 49 .mov [tt 3], gI 50 (.pure (.bin .add)) [tt 49, ti 1], gI 3 .mov [tt 50]])
(.seq
(RR [0, 3, 4, 5, 6, 51] [gI 52 .mov [tt 5], gI 53 (.pure (.bin .eql)) [tt 52, .c (AV.int .u8 41)], gI 54 .mov [tt 53], .sub [(⟨some 55, .mov, [tt 3], some (54, true)⟩, .any),
    (⟨some 56, .pure (.bin .gtr), [tt 55, ti 0], some (54, true)⟩, .any),
    (⟨some 57, .pure .pick, [tt 54, tt 56, .c (AV.bool false)], none⟩, .any)] 57, gI 51 .mov [tt 57]])
(.cond (.t 51 false)
(RR [0, 3, 4] [gI 58 .mov [tt 3], gI 59 (.pure (.bin .sub)) [tt 58, ti 1], gI 3 .mov [tt 59]])
(.seq
(RR [0, 3, 4, 60] [gI 61 .mov [tt 6], gI 62 (.pure (.un .not)) [tt 61], gI 63 .mov [tt 62], .sub [(⟨some 64, .mov, [tt 4], some (63, true)⟩, .any),
    (⟨some 65, .pure (.bin .eql), [tt 64, ti 0], some (63, true)⟩, .any),
    (⟨some 66, .mov, [tt 65], some (63, true)⟩, .any),
    (⟨some 67, .mov, [tt 5], some (66, false)⟩, .any),
    (⟨some 68, .call 37, [.c (AV.str [46, 95, 43, 45, 58]), tt 67], some (66, false)⟩, .any),
    (⟨some 69, .pure (.bin .lss), [tt 68, ti 0], some (66, false)⟩, .any),
    (⟨some 70, .pure .pick, [tt 66, .c (AV.bool true), tt 69], some (63, true)⟩, .any),
    (⟨some 71, .pure .pick, [tt 63, tt 70, .c (AV.bool false)], none⟩, .any)] 71, gI 60 .mov [tt 71]])
(.cond (.t 60 false)
(.seq
(RR [2] [gI 2 .mov [.c (AV.bool false)]])
(.ret [2]))
.skip))))))))))
(RR [0, 3, 4] [gI 11 .mov [tt 4], gI 12 (.pure (.bin .add)) [tt 11, ti 1], gI 4 .mov [tt 12]])))
def r19 : RFunc := ⟨83,
(.seq
(RR [0] [gI 2 .mov [.c (AV.bool false)]])
(.seq
(RR [0, 3] [gI 3 .mov [ti 0]])
(.seq
(.seq
(RR [0, 3, 4] [gI 4 .mov [ti 0]])
(.block 0
(.loop 3 [0, 3, 4] l19_3)))
(.seq
(RR [2] [gI 72 .mov [tt 0], gI 73 (.pure (.bin .neq)) [tt 72, .c (AV.str [])], gI 74 .mov [tt 73], .sub [(⟨some 75, .mov, [tt 0], some (74, true)⟩, .any),
    (⟨some 76, .pure .lenS, [tt 75], some (74, true)⟩, .any),
    (⟨some 77, .pure (.bin .leq), [tt 76, ti 64], some (74, true)⟩, .any),
    (⟨some 78, .pure .pick, [tt 74, tt 77, .c (AV.bool false)], none⟩, .any)] 78, gI 79 .mov [tt 78], .sub [(⟨some 80, .mov, [tt 3], some (79, true)⟩, .any),
    (⟨some 81, .pure (.bin .eql), [tt 80, ti 0], some (79, true)⟩, .any),
    (⟨some 82, .pure .pick, [tt 79, tt 81, .c (AV.bool false)], none⟩, .any)] 82, gI 2 .mov [tt 82]])
(.ret [2]))))),
 [.tmp 2 false], false⟩
def a19 : Ann := mkAnn [] [(3, [0, 3, 4])] false [] [] [(0, [0]), (1, [0, 3]), (2, [0, 3, 4]), (3, [0, 3, 4, 10]), (4, [0, 3, 4]), (5, [0, 3, 4, 5]), (6, [0, 3, 4, 5, 6]), (7, [0, 3, 4, 5, 6, 42]), (8, [0, 3, 4]), (9, [0, 3, 4, 5, 6, 51]), (10, [0, 3, 4]), (11, [0, 3, 4, 60]), (12, [2]), (13, [2])] [] [] [] [(0, [0, 3]), (1, [0, 3, 4]), (2, [0, 3, 4])] [2] [false] [(6, [(3, none), (3, some 21), (1, none), (7, some 29), (1, none), (7, some 37), (1, none), (3, some 41)]), (7, [(3, none), (3, some 48)]), (9, [(3, none), (3, some 57)]), (11, [(3, none), (8, some 71)]), (13, [(3, none), (4, some 78), (1, none), (3, some 82)])] [] []
set_option maxRecDepth 100000 in
theorem c19 : convFn Try.prog a19 19 = some r19 := by kernel_rfl

/-- drayage/rdep.parts -/
def k20_17 : RCode :=
(RR [0, 3, 4] [gI 58 .mov [.t 3 true], gI 59 .mov [tt 0], gI 60 .mov [tt 5], gI 61 .mov [tt 4], gI 62 (.pure (.sliceStr true true)) [tt 59, tt 60, tt 61], gI 63 .mov [tt 5], gI 64 (.build [AV.str [], AV.int .i64 0] [(0, 1), (1, 1)]) [tt 62, tt 63], gI 65 (.bslice 2 true 1) [tt 64], gI 66 (.append 2 24 false) [.t 58 true, tt 65], gI 3 .mov [.t 66 true]])
def l20_6 : RCode :=
(.seq
(.seq
(RR [0, 3, 4, 5, 6, 34] [gI 15 .mov [tt 4], gI 16 .mov [tt 0], gI 17 (.pure .lenS) [tt 16], gI 18 (.pure (.bin .lss)) [tt 15, tt 17], gI 19 .mov [tt 18], .sub [(⟨some 20, .mov, [tt 0], some (19, true)⟩, .any),
    (⟨some 21, .mov, [tt 4], some (19, true)⟩, .any),
    (⟨some 22, .pure .idxStr, [tt 20, tt 21], some (19, true)⟩, .any),
    (⟨some 23, .pure (.bin .neq), [tt 22, .c (AV.int .u8 32)], some (19, true)⟩, .any),
    (⟨some 24, .pure .pick, [tt 19, tt 23, .c (AV.bool false)], none⟩, .any)] 24, gI 25 .mov [tt 24], .sub [(⟨some 26, .mov, [tt 0], some (25, true)⟩, .any),
    (⟨some 27, .mov, [tt 4], some (25, true)⟩, .any),
    (⟨some 28, .pure .idxStr, [tt 26, tt 27], some (25, true)⟩, .any),
    (⟨some 29, .pure (.bin .neq), [tt 28, .c (AV.int .u8 41)], some (25, true)⟩, .any),
    (⟨some 30, .mov, [tt 29], some (25, true)⟩, .any),
    (⟨some 31, .mov, [tt 6], some (30, false)⟩, .any),
    (⟨some 32, .pure (.bin .gtr), [tt 31, ti 0], some (30, false)⟩, .any),
    (⟨some 33, .pure .pick, [tt 30, .c (AV.bool true), tt 32], some (25, true)⟩, .any),
    (⟨some 34, .pure .pick, [tt 25, tt 33, .c (AV.bool false)], none⟩, .any)] 34])
(.cond (.t 34 false)
.skip
(.exit 3 [0, 3, 4, 5])))
(.block 4
(.seq
(.seq
(RR [0, 3, 4, 5, 6, 38] [gI 35 .mov [tt 0], gI 36 .mov [tt 4], gI 37 (.pure .idxStr) [tt 35, tt 36], gI 38 (.pure (.bin .eql)) [tt 37, .c (AV.int .u8 40)]])
(.cond (.t 38 false)
(RR [0, 3, 4, 5, 6] [gI 39 .mov [tt 6], gI 40 (.pure (.bin .add)) [tt 39, ti 1], gI 6 .mov [tt 40]])
(.seq
(RR [0, 3, 4, 5, 6, 44] [gI 41 .mov [tt 0], gI 42 .mov [tt 4], gI 43 (.pure .idxStr) [tt 41, tt 42], gI 44 (.pure (.bin .eql)) [tt 43, .c (AV.int .u8 41)]])
(.cond (.t 44 false)
(RR [0, 3, 4, 5, 6] [gI 45 .mov [tt 6], gI 46 (.pure (.bin .sub)) [tt 45, ti 1], gI 6 .mov [tt 46]])
.skip))))
(RR [0, 3, 4, 5, 6] [gI 47 .mov [tt 4], gI 48 (.pure (.bin .add)) [tt 47, ti 1], gI 4 .mov [tt 48]]))))
def l20_3 : RCode :=
(.seq
(.seq
(RR [0, 3, 4, 10] [gI 7 .mov [tt 4], gI 8 .mov [tt 0], gI 9 (.pure .lenS) [tt 8], gI 10 (.pure (.bin .lss)) [tt 7, tt 9]])
(.cond (.t 10 false)
.skip
(.exit 0 [0, 3])))
(.block 1
(.seq
(RR [0, 3, 4, 5, 6] [gI 11 .mov [tt 4], gI 5 .mov [tt 11], gI 6 .mov [ti 0]])
(.seq
(.seq
(RR [0, 3, 4, 5, 6, 14] [gI 12 .mov [tt 0], gI 13 .mov [tt 4], gI 14 (.pure .idxStr) [tt 12, tt 13]])
(.block 2
(.seq
(RR [0, 3, 4, 5, 6, 14, 49] [gI 50 (.pure (.bin .eql)) [tt 14, .c (AV.int .u8 32)], gI 49 .mov [tt 50]])
(.cond (.t 49 false)
(.seq
(RR [0, 3, 4] [gI 51 .mov [tt 4], gI 52 (.pure (.bin .add)) [tt 51, ti 1], gI 4 .mov [tt 52]])
(.exit 1 [0, 3, 4]))
(.seq
(.seq
(RR [0, 3, 4, 5, 6, 14, 53] [gI 54 (.pure (.bin .eql)) [tt 14, .c (AV.int .u8 40)], gI 53 .mov [tt 54]])
(.cond (.t 53 false)
.skip
(RR [0, 3, 4, 5, 6, 53] [gI 55 (.pure (.bin .eql)) [tt 14, .c (AV.int .u8 41)], gI 53 .mov [tt 55]])))
(.cond (.t 53 false)
(RR [0, 3, 4, 5] [gI 56 .mov [tt 4], gI 57 (.pure (.bin .add)) [tt 56, ti 1], gI 4 .mov [tt 57]])
(.block 3
(.loop 6 [0, 3, 4, 5, 6] l20_6))))))))
(.cut 100017 [0, 3, 4, 5] [0, 3, 4] k20_17)))))
def r20 : RFunc := ⟨73,
(.seq
(RR [0] [gI 2 .mov [.c (AV.sl false 2 [])]])
(.seq
(RR [0, 3] [gI 3 .mov [.c (AV.sl true 2 [])]])
(.seq
(.seq
(RR [0, 3, 4] [gI 4 .mov [ti 0]])
(.block 0
(.loop 3 [0, 3, 4] l20_3)))
(.seq
(RR [2] [gI 67 .mov [.t 3 true], gI 68 .mov [tt 0], gI 69 (.pure .lenS) [tt 68], gI 70 (.build [AV.str [], AV.int .i64 0] [(0, 1), (1, 1)]) [.c (AV.str []), tt 69], gI 71 (.bslice 2 true 1) [tt 70], gI 72 (.append 2 24 false) [.t 67 true, tt 71], gI 2 .mov [tt 72]])
(.ret [2]))))),
 [.tmp 2 false], false⟩
def a20 : Ann := mkAnn [(1, 0, [true]), (17, 0, [true]), (17, 8, [true]), (17, 9, [true]), (18, 0, [true]), (18, 5, [true])] [(3, [0, 3, 4]), (6, [0, 3, 4, 5, 6])] false [] [] [(0, [0]), (1, [0, 3]), (2, [0, 3, 4]), (3, [0, 3, 4, 10]), (4, [0, 3, 4, 5, 6]), (5, [0, 3, 4, 5, 6, 14]), (6, [0, 3, 4, 5, 6, 34]), (7, [0, 3, 4, 5, 6, 38]), (8, [0, 3, 4, 5, 6]), (9, [0, 3, 4, 5, 6, 44]), (10, [0, 3, 4, 5, 6]), (11, [0, 3, 4, 5, 6]), (12, [0, 3, 4, 5, 6, 14, 49]), (13, [0, 3, 4]), (14, [0, 3, 4, 5, 6, 14, 53]), (15, [0, 3, 4, 5, 6, 53]), (16, [0, 3, 4, 5]), (17, [0, 3, 4]), (18, [2])] [] [(0, 0, [4]), (1, 0, [5])] [(17, [0, 3, 4, 5], [0, 3, 4])] [(0, [0, 3]), (1, [0, 3, 4]), (2, [0, 3, 4, 5]), (3, [0, 3, 4, 5]), (4, [0, 3, 4, 5, 6])] [2] [false] [(6, [(5, none), (5, some 24), (1, none), (9, some 34)])] [] []
set_option maxRecDepth 100000 in
theorem c20 : convFn Try.prog a20 20 = some r20 := by kernel_rfl

/-- (*drayage/rdep.reader).dep -/
def r21 : RFunc := ⟨39,
(.seq
(RR [0, 1, 2, 6] [gI 6 (.new 5) [.c (AV.agg [AV.str [], AV.str [], AV.int .i64 0, AV.str [], AV.sl true 5 []])]])
(.seq
(RR [0, 1, 2, 6, 7] [gI 8 .mov [tt 0], gI 9 (.call 38) [tt 8], gI 7 (.new 2) [.c (AV.agg [AV.str [], AV.int .i64 0])], gS (.store 2) [tt 7, tt 9]])
(.seq
(.block 0
(.seq
(RR [0, 1, 2, 6, 7, 15] [gI 16 (.load 2 true false) [tt 7], gI 17 (.call 39) [tt 16], gI 15 .mov [tt 17]])
(.cond (.t 15 false)
(RR [6] [gI 18 .mov [tt 0], gI 19 (.load 2 true false) [tt 7], gI 20 .mov [tt 2], gI 21 (.call 40) [tt 18, tt 19, tt 20], gI 22 (.pure (.faddr 1)) [tt 6], gS (.store 3) [tt 22, tt 21]])
(.seq
(RR [0, 1, 2, 6, 7, 23] [gI 24 (.pure (.faddr 0)) [tt 7], gI 25 (.load 1 false false) [tt 24], gI 26 (.pure (.bin .neq)) [tt 25, .c (AV.str [40])], gI 23 .mov [tt 26]])
(.cond (.t 23 false)
(RR [6] [gI 27 .mov [tt 0], gI 28 (.pure (.faddr 1)) [tt 7], gI 29 (.load 1 false false) [tt 28], gI 30 (.call 23) [tt 27, tt 29, ti 3]])
(.seq
(RR [0, 1, 2, 6, 7, 31] [gI 32 .mov [tt 1], gI 33 (.pure (.bin .eql)) [tt 32, ti 32], gI 31 .mov [tt 33]])
(.cond (.t 31 false)
(RR [6] [gI 34 .mov [tt 0], gI 35 (.pure (.faddr 1)) [tt 7], gI 36 (.load 1 false false) [tt 35], gI 37 (.call 23) [tt 34, tt 36, ti 4]])
(RR [6] [gI 10 .mov [tt 0], gI 11 .mov [tt 1], gI 12 (.pure (.bin .add)) [tt 11, ti 1], gI 13 .mov [tt 2], gI 14 (.call 41) [tt 10, tt 6, tt 12, tt 13]]))))))))
(.seq
(RR [6] [gI 38 (.load 5 true false) [tt 6], gS (.store 5) [tt 6, .t 38 true]])
(.ret [6]))))),
 [.cell 6 5 true], false⟩
def a21 : Ann := mkAnn [(9, 1, [false, true])] [] false [] [] [(0, [0, 1, 2, 6]), (1, [0, 1, 2, 6, 7]), (2, [6]), (3, [0, 1, 2, 6, 7, 15]), (4, [6]), (5, [0, 1, 2, 6, 7, 23]), (6, [6]), (7, [0, 1, 2, 6, 7, 31]), (8, [6]), (9, [6])] [] [(0, 0, [0, 0, 0, 0, 11])] [] [(0, [6])] [6] [false] [] [] []
set_option maxRecDepth 100000 in
theorem c21 : convFn Try.prog a21 21 = some r21 := by kernel_rfl

/-- (*drayage/rdep.reader).look -/
def r22 : RFunc := ⟨13,
(.seq
(RR [0, 2] [gI 2 (.new 2) [.c (AV.agg [AV.str [], AV.int .i64 0])]])
(.seq
(.region (some ([10], [])) [2] [gI 3 .mov [tt 0], gI 4 (.pure .nilck) [tt 3], gI 5 (.pure (.faddr 0)) [tt 4], gI 6 (.load 1 false false) [tt 5], gI 7 .mov [tt 0], gI 8 (.pure .nilck) [tt 7], gI 9 (.pure (.faddr 1)) [tt 8], gI 10 (.load 1 false false) [tt 9], .one ⟨some 11, .pure (.iaddr 2), [tt 6, tt 10], none⟩ (.agg [.str, (.int .i64)]), gI 12 (.load 2 true false) [tt 11], gS (.store 2) [tt 2, tt 12]])
(.ret [2]))),
 [.cell 2 2 true], false⟩
def a22 : Ann := mkAnn [] [] false [(1, [10])] [] [(0, [0, 2]), (1, [2])] [] [] [] [] [2] [false] [] [(1, 8, (.agg [.str, (.int .i64)]))] []
set_option maxRecDepth 100000 in
theorem c22 : convFn Try.prog a22 22 = some r22 := by kernel_rfl

/-- (*drayage/rdep.reader).fail -/
def r23 : RFunc := ⟨22,
(.seq
(RR [0, 1, 2, 15] [gI 6 .mov [tt 0], gI 7 (.pure .nilck) [tt 6], gI 8 (.pure (.faddr 2)) [tt 7], gI 9 (.pure (.faddr 2)) [tt 8], gI 10 (.load 1 false false) [tt 9], gI 11 (.pure (.bin .eql)) [tt 10, ti 0], gI 12 .mov [tt 11], .sub [(⟨some 13, .mov, [tt 2], some (12, true)⟩, .any),
    (⟨some 14, .pure (.bin .neq), [tt 13, ti 0], some (12, true)⟩, .any),
    (⟨some 15, .pure .pick, [tt 12, tt 14, .c (AV.bool false)], none⟩, .any)] 15])
(.cond (.t 15 false)
(RR [] [gI 16 .mov [tt 0], gI 17 .mov [tt 1], gI 18 .mov [tt 2], gI 19 (.build [AV.str [], AV.int .i64 0, AV.int .i64 0] [(1, 1), (2, 1)]) [tt 17, tt 18], gI 20 (.pure .nilck) [tt 16], gI 21 (.pure (.faddr 2)) [tt 20], gS (.store 3) [tt 21, tt 19]])
.skip)),
 [], false⟩
def a23 : Ann := mkAnn [] [] false [] [] [(0, [0, 1, 2, 15]), (1, [])] [] [] [] [] [] [] [(0, [(7, none), (3, some 15)])] [] []
set_option maxRecDepth 100000 in
theorem c23 : convFn Try.prog a23 23 = some r23 := by kernel_rfl

/-- drayage/rdep.text -/
def l27_7 : RCode :=
 (.frame
(.seq
(RR [1, 3, 40, 41, 42, 43] [gI 43 (.pure (.bin .lss)) [tt 42, tt 41]])
(.seq
(.cond (.t 43 false)
.skip
(.exit 1 [3]))
(.seq
(.block 2
(.seq
(RR [1, 3, 4, 5, 40, 41, 42] [gI 44 .mov [tt 42], .one ⟨some 45, .pure (.iaddr 5), [tt 40, tt 42], none⟩ (.agg [.str, .str, (.int .i64), .str, (.sl false 5)]), gI 46 (.load 5 true false) [tt 45], gI 5 (.new 5) [.c (AV.agg [AV.str [], AV.str [], AV.int .i64 0, AV.str [], AV.sl false 5 []])], gI 4 .mov [tt 44], gS (.store 5) [tt 5, tt 46]])
(.seq
(.block 3
(.seq
(RR [1, 3, 4, 5, 40, 41, 42, 47] [gI 48 .mov [tt 4], gI 49 (.pure (.bin .eql)) [tt 48, ti 2], gI 50 .mov [tt 49], .sub [(⟨some 51, .pure (.faddr 0), [tt 1], some (50, true)⟩, .any),
    (⟨some 52, .load 1 false false, [tt 51], some (50, true)⟩, .any),
    (⟨some 53, .pure (.bin .eql), [tt 52, .c (AV.str [105, 102])], some (50, true)⟩, .any),
    (⟨some 54, .mov, [tt 53], some (50, true)⟩, .any),
    (⟨some 55, .pure (.faddr 0), [tt 1], some (54, false)⟩, .any),
    (⟨some 56, .load 1 false false, [tt 55], some (54, false)⟩, .any),
    (⟨some 57, .pure (.bin .eql), [tt 56, .c (AV.str [117, 110, 108, 101, 115, 115])], some (54, false)⟩, .any),
    (⟨some 58, .pure .pick, [tt 54, .c (AV.bool true), tt 57], some (50, true)⟩, .any),
    (⟨some 59, .pure .pick, [tt 50, tt 58, .c (AV.bool false)], none⟩, .any)] 59, gI 47 .mov [tt 59]])
(.cond (.t 47 false)
(RR [1, 3, 5, 40, 41, 42] [gI 60 (.call 46) [tt 3, .c (AV.str [32, 101, 108, 115, 101, 32])]])
(.seq
(RR [1, 3, 5, 40, 41, 42, 61] [gI 62 .mov [tt 4], gI 63 (.pure (.bin .gtr)) [tt 62, ti 0], gI 61 .mov [tt 63]])
(.cond (.t 61 false)
(RR [1, 3, 5, 40, 41, 42] [gI 64 (.pure (.faddr 0)) [tt 1], gI 65 (.load 1 false false) [tt 64], gI 66 (.pure (.bin .add)) [.c (AV.str [32]), tt 65], gI 67 (.pure (.bin .add)) [tt 66, .c (AV.str [32])], gI 68 (.call 46) [tt 3, tt 67]])
.skip)))))
(RR [1, 3, 40, 41, 42] [gI 69 (.load 5 true false) [tt 5], gI 70 (.call 27) [tt 69], gI 71 (.call 46) [tt 3, tt 70]]))))
(RR [1, 3, 40, 41, 42] [gI 72 (.pure (.bin .add)) [tt 42, ti 1], gI 42 .mov [tt 72]])))))
def r27 : RFunc := ⟨76,
(.seq
(RR [1] [gI 1 (.new 5) [tt 0], gI 2 .mov [.c (AV.str [])]])
(.seq
(.block 0
(.seq
(RR [1, 6] [gI 7 (.pure (.faddr 0)) [tt 1], gI 8 (.load 1 false false) [tt 7], gI 9 (.pure (.bin .eql)) [tt 8, .c (AV.str [])], gI 10 .mov [tt 9], .sub [(⟨some 11, .pure (.faddr 1), [tt 1], some (10, true)⟩, .any),
    (⟨some 12, .pure (.faddr 1), [tt 11], some (10, true)⟩, .any),
    (⟨some 13, .load 1 false false, [tt 12], some (10, true)⟩, .any),
    (⟨some 14, .pure (.bin .eql), [tt 13, ti 0], some (10, true)⟩, .any),
    (⟨some 15, .pure .pick, [tt 10, tt 14, .c (AV.bool false)], none⟩, .any)] 15, gI 6 .mov [tt 15]])
(.cond (.t 6 false)
(.seq
(RR [2] [gI 16 (.pure (.faddr 1)) [tt 1], gI 17 (.pure (.faddr 0)) [tt 16], gI 18 (.load 1 false false) [tt 17], gI 2 .mov [tt 18]])
(.ret [2]))
(.seq
(RR [1, 19] [gI 20 (.pure (.faddr 0)) [tt 1], gI 21 (.load 1 false false) [tt 20], gI 22 (.pure (.bin .eql)) [tt 21, .c (AV.str [])], gI 19 .mov [tt 22]])
(.cond (.t 19 false)
(.seq
(.region (some ([], [])) [2] [gI 23 (.pure (.faddr 1)) [tt 1], gI 24 (.pure (.faddr 0)) [tt 23], gI 25 (.load 1 false false) [tt 24], gI 26 (.pure (.bin .add)) [tt 25, .c (AV.str [32])], gI 27 (.call 45) [], gI 28 (.pure (.faddr 1)) [tt 1], gI 29 (.pure (.faddr 1)) [tt 28], gI 30 (.load 1 false false) [tt 29], .one ⟨some 31, .pure (.iaddr 1), [tt 27, tt 30], none⟩ .str, gI 32 (.load 1 false false) [tt 31], gI 33 (.pure (.bin .add)) [tt 26, tt 32], gI 34 (.pure (.bin .add)) [tt 33, .c (AV.str [32])], gI 35 (.pure (.faddr 1)) [tt 1], gI 36 (.pure (.faddr 2)) [tt 35], gI 37 (.load 1 false false) [tt 36], gI 38 (.pure (.bin .add)) [tt 34, tt 37], gI 2 .mov [tt 38]])
(.ret [2]))
.skip)))))
(.seq
(RR [1, 3] [gI 3 (.newB 85 5) [.c (AV.agg [AV.nilp, AV.sl false 0 []])]])
(.seq
(.seq
(RR [1, 3, 40, 41, 42] [gI 39 (.pure (.faddr 4)) [tt 1], gI 40 (.load 1 false false) [tt 39], gI 41 (.pure .lenSl) [tt 40], gI 42 .mov [ti 0]])
(.block 1
(.loop 7 [1, 3, 40, 41, 42] l27_7)))
(.seq
(RR [2] [gI 73 (.call 47) [tt 3], gI 74 (.pure (.bin .add)) [.c (AV.str [40]), tt 73], gI 75 (.pure (.bin .add)) [tt 74, .c (AV.str [41])], gI 2 .mov [tt 75]])
(.ret [2])))))),
 [.tmp 2 false], false⟩
def a27 : Ann := mkAnn [(5, 0, [true])] [(7, [1, 3, 40, 41, 42])] false [(4, [])] [] [(0, [1]), (1, [1, 6]), (2, [2]), (3, [1, 19]), (4, [2]), (5, [1, 3]), (6, [1, 3, 40, 41, 42]), (7, [1, 3, 40, 41, 42, 43]), (8, [1, 3, 4, 5, 40, 41, 42]), (9, [1, 3, 4, 5, 40, 41, 42, 47]), (10, [1, 3, 5, 40, 41, 42]), (11, [1, 3, 5, 40, 41, 42, 61]), (12, [1, 3, 5, 40, 41, 42]), (13, [1, 3, 40, 41, 42]), (14, [1, 3, 40, 41, 42]), (15, [2])] [] [(8, 3, [0, 0, 0, 0, 10])] [] [(0, [1]), (1, [3]), (2, [1, 3, 40, 41, 42]), (3, [1, 3, 5, 40, 41, 42])] [2] [false] [(1, [(4, none), (5, some 15)]), (9, [(3, none), (9, some 59)])] [(4, 8, .str), (8, 1, (.agg [.str, .str, (.int .i64), .str, (.sl false 5)]))] [7]
set_option maxRecDepth 100000 in
theorem c27 : convFn Try.prog a27 27 = some r27 := by kernel_rfl

/-- drayage/rdep.atoms -/
def l28_5 : RCode :=
 (.frame
(.seq
(RR [1, 5, 12, 13, 14, 15] [gI 15 (.pure (.bin .lss)) [tt 14, tt 13]])
(.seq
(.cond (.t 15 false)
.skip
(.exit 0 [5]))
(.seq
(.block 1
(.seq
(RR [1, 5, 7, 12, 13, 14] [.one ⟨some 16, .pure (.iaddr 5), [tt 12, tt 14], none⟩ (.agg [.str, .str, (.int .i64), .str, (.sl false 5)]), gI 17 (.load 5 true false) [tt 16], gI 7 (.new 5) [.c (AV.agg [AV.str [], AV.str [], AV.int .i64 0, AV.str [], AV.sl false 5 []])], gS (.store 5) [tt 7, tt 17]])
(.seq
(RR [1, 5, 7, 12, 13, 14, 23] [gI 18 .mov [tt 5], gI 19 (.pure (.bin .leq)) [tt 18, ti 64], gI 20 .mov [tt 19], .sub [(⟨some 21, .mov, [tt 1], some (20, true)⟩, .any),
    (⟨some 22, .pure (.bin .gtr), [tt 21, ti 0], some (20, true)⟩, .any),
    (⟨some 23, .pure .pick, [tt 20, tt 22, .c (AV.bool false)], none⟩, .any)] 23])
(.cond (.t 23 false)
(RR [1, 5, 12, 13, 14] [gI 24 .mov [tt 5], gI 25 (.load 5 true false) [tt 7], gI 26 .mov [tt 1], gI 27 (.pure (.bin .sub)) [tt 26, ti 1], gI 28 (.call 28) [tt 25, tt 27], gI 29 (.pure (.bin .add)) [tt 24, tt 28], gI 5 .mov [tt 29]])
.skip))))
(RR [1, 5, 12, 13, 14] [gI 30 (.pure (.bin .add)) [tt 14, ti 1], gI 14 .mov [tt 30]])))))
def r28 : RFunc := ⟨32,
(.seq
(RR [1, 2] [gI 2 (.new 5) [tt 0], gI 4 .mov [ti 0]])
(.seq
(.seq
(RR [1, 2, 10] [gI 8 (.pure (.faddr 0)) [tt 2], gI 9 (.load 1 false false) [tt 8], gI 10 (.pure (.bin .eql)) [tt 9, .c (AV.str [])]])
(.cond (.t 10 false)
(.seq
(RR [4] [gI 4 .mov [ti 1]])
(.ret [4]))
.skip))
(.seq
(RR [1, 2, 5] [gI 5 .mov [ti 0]])
(.seq
(.seq
(RR [1, 5, 12, 13, 14] [gI 11 (.pure (.faddr 4)) [tt 2], gI 12 (.load 1 false false) [tt 11], gI 13 (.pure .lenSl) [tt 12], gI 14 .mov [ti 0]])
(.block 0
(.loop 5 [1, 5, 12, 13, 14] l28_5)))
(.seq
(RR [4] [gI 31 .mov [tt 5], gI 4 .mov [tt 31]])
(.ret [4])))))),
 [.tmp 4 false], false⟩
def a28 : Ann := mkAnn [] [(5, [1, 5, 12, 13, 14])] false [] [] [(0, [1, 2]), (1, [1, 2, 10]), (2, [4]), (3, [1, 2, 5]), (4, [1, 5, 12, 13, 14]), (5, [1, 5, 12, 13, 14, 15]), (6, [1, 5, 7, 12, 13, 14]), (7, [1, 5, 7, 12, 13, 14, 23]), (8, [1, 5, 12, 13, 14]), (9, [1, 5, 12, 13, 14]), (10, [4])] [] [(6, 2, [0, 0, 0, 0, 10])] [] [(0, [5]), (1, [1, 5, 12, 13, 14])] [4] [false] [(7, [(3, none), (3, some 23)])] [(6, 0, (.agg [.str, .str, (.int .i64), .str, (.sl false 5)]))] [5]
set_option maxRecDepth 100000 in
theorem c28 : convFn Try.prog a28 28 = some r28 := by kernel_rfl

/-- drayage/rdep.check -/
def l29_12 : RCode :=
 (.frame
(.seq
(RR [43, 44, 45, 46] [gI 46 (.pure (.bin .lss)) [tt 45, tt 44]])
(.seq
(.cond (.t 46 false)
.skip
(.exit 1 []))
(.seq
(.block 2
(.seq
(RR [4, 43, 44, 45] [.one ⟨some 47, .pure (.iaddr 5), [tt 43, tt 45], none⟩ (.agg [.str, .str, (.int .i64), .str, (.sl false 5)]), gI 48 (.load 5 true false) [tt 47], gI 4 (.new 5) [.c (AV.agg [AV.str [], AV.str [], AV.int .i64 0, AV.str [], AV.sl false 5 []])], gS (.store 5) [tt 4, tt 48]])
(.seq
(RR [5, 43, 44, 45] [gI 49 (.load 5 true false) [tt 4], gI 50 (.call 29) [tt 49], gI 5 .mov [tt 50]])
(.seq
(RR [5, 43, 44, 45, 52] [gI 51 .mov [tt 5], gI 52 (.pure (.bin .neq)) [tt 51, ti 0]])
(.cond (.t 52 false)
(.seq
(RR [2] [gI 53 .mov [tt 5], gI 2 .mov [tt 53]])
(.ret [2]))
.skip)))))
(RR [43, 44, 45] [gI 54 (.pure (.bin .add)) [tt 45, ti 1], gI 45 .mov [tt 54]])))))
def r29 : RFunc := ⟨55,
(.seq
(RR [1] [gI 1 (.new 5) [tt 0], gI 2 .mov [ti 0]])
(.seq
(.block 0
(.seq
(RR [1, 6] [gI 7 (.pure (.faddr 0)) [tt 1], gI 8 (.load 1 false false) [tt 7], gI 9 (.pure (.bin .eql)) [tt 8, .c (AV.str [])], gI 10 .mov [tt 9], .sub [(⟨some 11, .pure (.faddr 4), [tt 1], some (10, true)⟩, .any),
    (⟨some 12, .load 1 false false, [tt 11], some (10, true)⟩, .any),
    (⟨some 13, .pure .lenSl, [tt 12], some (10, true)⟩, .any),
    (⟨some 14, .pure (.bin .gtr), [tt 13, ti 0], some (10, true)⟩, .any),
    (⟨some 15, .pure .pick, [tt 10, tt 14, .c (AV.bool false)], none⟩, .any)] 15, gI 6 .mov [tt 15]])
(.cond (.t 6 false)
(.seq
(RR [2] [gI 2 .mov [ti 3]])
(.ret [2]))
(.seq
(RR [1, 16] [gI 17 (.pure (.faddr 0)) [tt 1], gI 18 (.load 1 false false) [tt 17], gI 19 (.pure (.bin .eql)) [tt 18, .c (AV.str [])], gI 16 .mov [tt 19]])
(.cond (.t 16 false)
(.seq
(RR [2] [gI 20 (.pure (.faddr 1)) [tt 1], gI 21 (.load 3 true false) [tt 20], gI 22 (.call 48) [tt 21], gI 2 .mov [tt 22]])
(.ret [2]))
(.seq
(.region (some ([], [])) [1, 23] [gI 24 (.call 50) [], gI 25 (.pure (.faddr 0)) [tt 1], gI 26 (.load 1 false false) [tt 25], gI 27 (.call 49) [tt 24, tt 26], gI 28 (.pure (.un .not)) [tt 27], gI 23 .mov [tt 28]])
(.cond (.t 23 false)
(.seq
(RR [2] [gI 2 .mov [ti 9]])
(.ret [2]))
(.seq
(RR [1, 29] [gI 30 (.pure (.faddr 1)) [tt 1], gI 31 (.load 3 true false) [tt 30], gI 32 (.build [AV.str [], AV.int .i64 0, AV.str []] []) [], gI 33 (.pure (.eqS true [.s, .i, .s])) [tt 31, tt 32], gI 29 .mov [tt 33]])
(.cond (.t 29 false)
(.seq
(RR [2] [gI 2 .mov [ti 1]])
(.ret [2]))
(.seq
(RR [1, 34] [gI 35 (.pure (.faddr 0)) [tt 1], gI 36 (.load 1 false false) [tt 35], gI 37 (.pure (.faddr 4)) [tt 1], gI 38 (.load 1 false false) [tt 37], gI 39 (.pure .lenSl) [tt 38], gI 40 (.call 51) [tt 36, tt 39], gI 41 (.pure (.un .not)) [tt 40], gI 34 .mov [tt 41]])
(.cond (.t 34 false)
(.seq
(RR [2] [gI 2 .mov [ti 3]])
(.ret [2]))
.skip)))))))))))
(.seq
(.seq
(RR [43, 44, 45] [gI 42 (.pure (.faddr 4)) [tt 1], gI 43 (.load 1 false false) [tt 42], gI 44 (.pure .lenSl) [tt 43], gI 45 .mov [ti 0]])
(.block 1
(.loop 12 [43, 44, 45] l29_12)))
(.seq
(RR [2] [gI 2 .mov [ti 0]])
(.ret [2]))))),
 [.tmp 2 false], false⟩
def a29 : Ann := mkAnn [] [(12, [43, 44, 45])] false [(5, [])] [] [(0, [1]), (1, [1, 6]), (2, [2]), (3, [1, 16]), (4, [2]), (5, [1, 23]), (6, [2]), (7, [1, 29]), (8, [2]), (9, [1, 34]), (10, [2]), (11, [43, 44, 45]), (12, [43, 44, 45, 46]), (13, [4, 43, 44, 45]), (14, [5, 43, 44, 45]), (15, [5, 43, 44, 45, 52]), (16, [2]), (17, [43, 44, 45]), (18, [2])] [] [(13, 2, [0, 0, 0, 0, 10])] [] [(0, [1]), (1, []), (2, [43, 44, 45])] [2] [false] [(1, [(4, none), (5, some 15)])] [(13, 0, (.agg [.str, .str, (.int .i64), .str, (.sl false 5)]))] [12]
set_option maxRecDepth 100000 in
theorem c29 : convFn Try.prog a29 29 = some r29 := by kernel_rfl

/-- strings.IndexByte -/
def r37 : RFunc := ⟨8,
(.seq
(RR [0, 1] [gI 4 .mov [ti 0]])
(.seq
(RR [4] [gI 5 .mov [tt 0], gI 6 .mov [tt 1], gI 7 (.call 60) [tt 5, tt 6], gI 4 .mov [tt 7]])
(.ret [4]))),
 [.tmp 4 false], false⟩
def a37 : Ann := mkAnn [] [] false [] [] [(0, [0, 1]), (1, [4])] [] [] [] [] [4] [false] [] [] []
set_option maxRecDepth 100000 in
theorem c37 : convFn Try.prog a37 37 = some r37 := by kernel_rfl

/-- (*drayage/rdep.reader).take -/
def r38 : RFunc := ⟨30,
(.seq
(RR [0, 2] [gI 2 (.new 2) [.c (AV.agg [AV.str [], AV.int .i64 0])]])
(.seq
(.region (some ([10, 11], [])) [0, 2, 3] [gI 4 .mov [tt 0], gI 5 (.pure .nilck) [tt 4], gI 6 (.pure (.faddr 0)) [tt 5], gI 7 (.load 1 false false) [tt 6], gI 8 .mov [tt 0], gI 9 (.pure .nilck) [tt 8], gI 10 (.pure (.faddr 1)) [tt 9], gI 11 (.load 1 false false) [tt 10], .one ⟨some 12, .pure (.iaddr 2), [tt 7, tt 11], none⟩ (.agg [.str, (.int .i64)]), gI 13 (.load 2 true false) [tt 12], gI 3 (.new 2) [.c (AV.agg [AV.str [], AV.int .i64 0])], gS (.store 2) [tt 3, tt 13]])
(.seq
(.region (some ([15], [])) [2, 3] [gI 14 .mov [tt 0], gI 15 .mov [tt 0], gI 16 (.pure .nilck) [tt 15], gI 17 (.pure (.faddr 1)) [tt 16], gI 18 (.load 1 false false) [tt 17], gI 19 (.pure (.bin .add)) [tt 18, ti 1], gI 20 .mov [tt 0], gI 21 (.pure .nilck) [tt 20], gI 22 (.pure (.faddr 0)) [tt 21], gI 23 (.load 1 false false) [tt 22], gI 24 (.pure .lenSl) [tt 23], gI 25 (.pure (.bin .sub)) [tt 24, ti 1], gI 26 (.pure .minI) [tt 19, tt 25], gI 27 (.pure .nilck) [tt 14], gI 28 (.pure (.faddr 1)) [tt 27], gS (.store 1) [tt 28, tt 26]])
(.seq
(RR [2] [gI 29 (.load 2 true false) [tt 3], gS (.store 2) [tt 2, tt 29]])
(.ret [2]))))),
 [.cell 2 2 true], false⟩
def a38 : Ann := mkAnn [] [] false [(1, [10, 11]), (2, [15])] [] [(0, [0, 2]), (1, [0, 2, 3]), (2, [2, 3]), (3, [2])] [] [] [] [] [2] [false] [] [(1, 8, (.agg [.str, (.int .i64)]))] []
set_option maxRecDepth 100000 in
theorem c38 : convFn Try.prog a38 38 = some r38 := by kernel_rfl

/-- (drayage/rdep.part).plain -/
def r39 : RFunc := ⟨16,
(.seq
(RR [1] [gI 1 (.new 2) [tt 0], gI 2 .mov [.c (AV.bool false)]])
(.seq
(RR [2] [gI 3 (.pure (.faddr 0)) [tt 1], gI 4 (.load 1 false false) [tt 3], gI 5 (.pure (.bin .neq)) [tt 4, .c (AV.str [])], gI 6 .mov [tt 5], .sub [(⟨some 7, .pure (.faddr 0), [tt 1], some (6, true)⟩, .any),
    (⟨some 8, .load 1 false false, [tt 7], some (6, true)⟩, .any),
    (⟨some 9, .pure (.bin .neq), [tt 8, .c (AV.str [40])], some (6, true)⟩, .any),
    (⟨some 10, .pure .pick, [tt 6, tt 9, .c (AV.bool false)], none⟩, .any)] 10, gI 11 .mov [tt 10], .sub [(⟨some 12, .pure (.faddr 0), [tt 1], some (11, true)⟩, .any),
    (⟨some 13, .load 1 false false, [tt 12], some (11, true)⟩, .any),
    (⟨some 14, .pure (.bin .neq), [tt 13, .c (AV.str [41])], some (11, true)⟩, .any),
    (⟨some 15, .pure .pick, [tt 11, tt 14, .c (AV.bool false)], none⟩, .any)] 15, gI 2 .mov [tt 15]])
(.ret [2]))),
 [.tmp 2 false], false⟩
def a39 : Ann := mkAnn [] [] false [] [] [(0, [1]), (1, [2])] [] [] [] [] [2] [false] [(1, [(4, none), (4, some 10), (1, none), (4, some 15)])] [] []
set_option maxRecDepth 100000 in
theorem c39 : convFn Try.prog a39 39 = some r39 := by kernel_rfl

/-- (*drayage/rdep.reader).atom -/
def k40_7 : RCode :=
(.frame
(.seq
(.region (some ([9], [])) [0, 6, 7] [gI 33 (.call 45) [], gI 34 (.pure (.sliceSl 1 true false)) [tt 33, ti 1], gI 35 .mov [tt 0], gI 36 (.call 22) [tt 35], gI 37 (.pure (.field 0 1 false)) [tt 36], gI 38 (.call 61) [tt 34, tt 37], gI 39 (.pure (.bin .add)) [tt 38, ti 1], gI 40 (.pure .maxI) [tt 39, ti 0], gI 41 (.pure (.faddr 1)) [tt 7], gS (.store 1) [tt 41, tt 40]])
(.seq
(.seq
(RR [0, 6, 7, 44] [gI 42 (.pure (.faddr 1)) [tt 7], gI 43 (.load 1 false false) [tt 42], gI 44 (.pure (.bin .eql)) [tt 43, ti 0]])
(.cond (.t 44 false)
(.seq
(RR [6] [gI 45 (.load 3 true false) [tt 7], gS (.store 3) [tt 6, tt 45]])
(.ret [6]))
.skip))
(.seq
(RR [0, 6, 7] [gI 46 .mov [tt 0], gI 47 (.call 38) [tt 46]])
(.seq
(RR [0, 6, 7, 8] [gI 48 .mov [tt 0], gI 49 (.call 38) [tt 48], gI 8 (.new 2) [.c (AV.agg [AV.str [], AV.int .i64 0])], gS (.store 2) [tt 8, tt 49]])
(.seq
(.seq
(RR [0, 6, 7, 8, 52] [gI 50 (.load 2 true false) [tt 8], gI 51 (.call 39) [tt 50], gI 52 (.pure (.un .not)) [tt 51]])
(.cond (.t 52 false)
(.seq
(RR [6, 7] [gI 53 .mov [tt 0], gI 54 (.pure (.faddr 1)) [tt 8], gI 55 (.load 1 false false) [tt 54], gI 56 (.call 23) [tt 53, tt 55, ti 3]])
(.seq
(RR [6] [gI 57 (.load 3 true false) [tt 7], gS (.store 3) [tt 6, tt 57]])
(.ret [6])))
.skip))
(.seq
(RR [0, 6, 7, 8] [gI 58 (.pure (.faddr 0)) [tt 8], gI 59 (.load 1 false false) [tt 58], gI 60 (.pure (.faddr 2)) [tt 7], gS (.store 1) [tt 60, tt 59]])
(.seq
(.region (some ([6], [])) [6, 7] [gI 61 .mov [tt 0], gI 62 (.pure (.faddr 1)) [tt 8], gI 63 (.load 1 false false) [tt 62], gI 64 (.pure (.faddr 0)) [tt 8], gI 65 (.load 1 false false) [tt 64], gI 66 (.call 62) [ti 2, tt 65], gI 67 (.call 23) [tt 61, tt 63, tt 66]])
(.seq
(RR [6] [gI 68 (.load 3 true false) [tt 7], gS (.store 3) [tt 6, tt 68]])
(.ret [6]))))))))))
def k40_5 : RCode :=
(.seq
(.seq
(RR [0, 4, 6, 7, 28] [gI 25 (.pure (.faddr 0)) [tt 4], gI 26 (.load 1 false false) [tt 25], gI 27 (.call 19) [tt 26], gI 28 (.pure (.un .not)) [tt 27]])
(.cond (.t 28 false)
(RR [0, 6, 7] [gI 29 .mov [tt 0], gI 30 (.pure (.faddr 1)) [tt 4], gI 31 (.load 1 false false) [tt 30], gI 32 (.call 23) [tt 29, tt 31, ti 10]])
.skip))
(.cut 100007 [0, 6, 7] [6] k40_7))
def r40 : RFunc := ⟨69,
(.seq
(RR [0, 2, 4, 6] [gI 4 (.new 2) [tt 1], gI 6 (.new 3) [.c (AV.agg [AV.str [], AV.int .i64 0, AV.str []])]])
(.seq
(RR [0, 2, 4, 6, 7] [gI 9 (.pure (.faddr 0)) [tt 4], gI 10 (.load 1 false false) [tt 9], gI 11 (.build [AV.str [], AV.int .i64 0, AV.str []] [(0, 1)]) [tt 10], gI 7 (.new 3) [.c (AV.agg [AV.str [], AV.int .i64 0, AV.str []])], gS (.store 3) [tt 7, tt 11]])
(.seq
(.seq
(RR [0, 2, 4, 6, 7] [gI 12 .mov [tt 2], gI 13 (.pure .nilck) [tt 12], gI 14 (.load 1 false false) [tt 13], gI 15 (.pure (.bin .add)) [tt 14, ti 1], gI 16 (.pure .nilck) [tt 12], gS (.store 1) [tt 16, tt 15]])
(.seq
(RR [0, 4, 6, 7, 20] [gI 17 .mov [tt 2], gI 18 (.pure .nilck) [tt 17], gI 19 (.load 1 false false) [tt 18], gI 20 (.pure (.bin .gtr)) [tt 19, ti 64]])
(.cond (.t 20 false)
(RR [0, 4, 6, 7] [gI 21 .mov [tt 0], gI 22 (.pure (.faddr 1)) [tt 4], gI 23 (.load 1 false false) [tt 22], gI 24 (.call 23) [tt 21, tt 23, ti 4]])
.skip)))
(.cut 100005 [0, 4, 6, 7] [6] k40_5)))),
 [.cell 6 3 true], false⟩
def a40 : Ann := mkAnn [] [] false [(7, [9]), (16, [6])] [] [(0, [0, 2, 4, 6]), (1, [0, 2, 4, 6, 7]), (2, [0, 2, 4, 6, 7]), (3, [0, 4, 6, 7, 20]), (4, [0, 4, 6, 7]), (5, [0, 4, 6, 7, 28]), (6, [0, 6, 7]), (7, [0, 6, 7]), (8, [0, 6, 7, 44]), (9, [6]), (10, [0, 6, 7]), (11, [0, 6, 7, 8]), (12, [0, 6, 7, 8, 52]), (13, [6, 7]), (14, [6]), (15, [0, 6, 7, 8]), (16, [6, 7]), (17, [6])] [] [] [(5, [0, 4, 6, 7], [6]), (7, [0, 6, 7], [6])] [] [6] [false] [] [] [100007]
set_option maxRecDepth 100000 in
theorem c40 : convFn Try.prog a40 40 = some r40 := by kernel_rfl

/-- (*drayage/rdep.reader).rich -/
def l41_0 : RCode :=
 (.frame
(.seq
(.seq
(RR [0, 1, 2, 3, 16] [gI 11 .mov [tt 0], gI 12 (.pure .nilck) [tt 11], gI 13 (.pure (.faddr 2)) [tt 12], gI 14 (.pure (.faddr 2)) [tt 13], gI 15 (.load 1 false false) [tt 14], gI 16 (.pure (.bin .eql)) [tt 15, ti 0]])
(.cond (.t 16 false)
.skip
(.exit 0 [])))
(.block 1
(.seq
(RR [0, 1, 2, 3, 8] [gI 17 .mov [tt 0], gI 18 .mov [tt 2], gI 19 .mov [tt 3], gI 20 (.call 21) [tt 17, tt 18, tt 19], gI 8 (.new 5) [.c (AV.agg [AV.str [], AV.str [], AV.int .i64 0, AV.str [], AV.sl false 5 []])], gS (.store 5) [tt 8, tt 20]])
(.seq
(.region (some ([3, 12], [])) [0, 1, 2, 3] [gI 21 .mov [tt 1], gI 22 (.pure .nilck) [tt 21], gI 23 (.pure (.faddr 4)) [tt 22], gI 24 (.load 1 false true) [.t 23 true], gI 25 (.load 5 true false) [tt 8], gI 26 (.pure .lenSl) [tt 24], gI 27 (.bslice 5 true 1) [.c (AV.agg [AV.str [], AV.str [], AV.int .i64 0, AV.str [], AV.sl false 0 []])], gI 28 (.appendZ 5 80 true) [tt 27, tt 26, .t 24 true, tt 25], .one ⟨some 29, .pure (.iaddr 5), [tt 28, tt 26], none⟩ (.agg [.str, .str, (.int .i64), .str, (.sl false 5)]), gS .chk [tt 29], gI 30 (.pure .nilck) [tt 21], gI 31 (.pure (.faddr 4)) [tt 30], gS (.store 1) [tt 31, .t 28 true]])
(.seq
(RR [0, 1, 2, 3, 9] [gI 32 .mov [tt 0], gI 33 (.call 38) [tt 32], gI 9 (.new 2) [.c (AV.agg [AV.str [], AV.int .i64 0])], gS (.store 2) [tt 9, tt 33]])
(.seq
(RR [0, 1, 2, 3, 9, 10] [gI 34 .mov [tt 1], gI 35 (.pure .nilck) [tt 34], gI 36 (.pure (.faddr 4)) [tt 35], gI 37 (.load 1 false false) [tt 36], gI 38 (.pure .lenSl) [tt 37], gI 10 .mov [tt 38]])
(.block 2
(.seq
(.region (some ([], [])) [0, 1, 2, 3, 9, 10, 43] [gI 44 .mov [tt 10], gI 45 (.pure (.bin .eql)) [tt 44, ti 1], gI 46 .mov [tt 45], .sub [(⟨some 47, .call 50, [], some (46, true)⟩, .any),
    (⟨some 48, .pure (.faddr 0), [tt 9], some (46, true)⟩, .any),
    (⟨some 49, .load 1 false false, [tt 48], some (46, true)⟩, .any),
    (⟨some 50, .call 49, [tt 47, tt 49], some (46, true)⟩, .any),
    (⟨some 51, .pure .pick, [tt 46, tt 50, .c (AV.bool false)], none⟩, .any)] 51, gI 43 .mov [tt 51]])
(.cond (.t 43 false)
(RR [0, 1, 2, 3] [gI 52 .mov [tt 1], gI 53 (.pure (.faddr 0)) [tt 9], gI 54 (.load 1 false false) [tt 53], gI 55 (.pure .nilck) [tt 52], gI 56 (.pure (.faddr 0)) [tt 55], gS (.store 1) [tt 56, tt 54]])
(.seq
(RR [0, 1, 2, 3, 9, 10, 57] [gI 58 .mov [tt 10], gI 59 (.pure (.bin .gtr)) [tt 58, ti 1], gI 60 .mov [tt 59], .sub [(⟨some 61, .pure (.faddr 0), [tt 9], some (60, true)⟩, .any),
    (⟨some 62, .load 1 false false, [tt 61], some (60, true)⟩, .any),
    (⟨some 63, .pure (.bin .eql), [tt 62, .c (AV.str [41])], some (60, true)⟩, .any),
    (⟨some 64, .pure .pick, [tt 60, tt 63, .c (AV.bool false)], none⟩, .any)] 64, gI 57 .mov [tt 64]])
(.cond (.t 57 false)
(.ret [])
(.seq
(.region (some ([], [])) [0, 1, 2, 3, 9, 10, 65] [gI 66 .mov [tt 10], gI 67 (.pure (.bin .gtr)) [tt 66, ti 1], gI 68 .mov [tt 67], .sub [(⟨some 69, .mov, [tt 1], some (68, true)⟩, .any),
    (⟨some 70, .pure .nilck, [tt 69], some (68, true)⟩, .any),
    (⟨some 71, .pure (.faddr 0), [tt 70], some (68, true)⟩, .any),
    (⟨some 72, .load 1 false false, [tt 71], some (68, true)⟩, .any),
    (⟨some 73, .pure (.bin .eql), [tt 72, .c (AV.str [97, 110, 100])], some (68, true)⟩, .any),
    (⟨some 74, .mov, [tt 73], some (68, true)⟩, .any),
    (⟨some 75, .mov, [tt 1], some (74, false)⟩, .any),
    (⟨some 76, .pure .nilck, [tt 75], some (74, false)⟩, .any),
    (⟨some 77, .pure (.faddr 0), [tt 76], some (74, false)⟩, .any),
    (⟨some 78, .load 1 false false, [tt 77], some (74, false)⟩, .any),
    (⟨some 79, .pure (.bin .eql), [tt 78, .c (AV.str [111, 114])], some (74, false)⟩, .any),
    (⟨some 80, .pure .pick, [tt 74, .c (AV.bool true), tt 79], some (68, true)⟩, .any),
    (⟨some 81, .pure .pick, [tt 68, tt 80, .c (AV.bool false)], none⟩, .any)] 81, gI 82 .mov [tt 81], .sub [(⟨some 83, .pure (.faddr 0), [tt 9], some (82, true)⟩, .any),
    (⟨some 84, .load 1 false false, [tt 83], some (82, true)⟩, .any),
    (⟨some 85, .mov, [tt 1], some (82, true)⟩, .any),
    (⟨some 86, .pure .nilck, [tt 85], some (82, true)⟩, .any),
    (⟨some 87, .pure (.faddr 0), [tt 86], some (82, true)⟩, .any),
    (⟨some 88, .load 1 false false, [tt 87], some (82, true)⟩, .any),
    (⟨some 89, .pure (.bin .eql), [tt 84, tt 88], some (82, true)⟩, .any),
    (⟨some 90, .pure .pick, [tt 82, tt 89, .c (AV.bool false)], none⟩, .any)] 90, gI 65 .mov [tt 90]])
(.cond (.t 65 false)
.skip
(.seq
(RR [0, 1, 2, 3, 9, 91] [gI 92 .mov [tt 10], gI 93 (.pure (.bin .eql)) [tt 92, ti 2], gI 94 .mov [tt 93], .sub [(⟨some 95, .mov, [tt 1], some (94, true)⟩, .any),
    (⟨some 96, .pure .nilck, [tt 95], some (94, true)⟩, .any),
    (⟨some 97, .pure (.faddr 0), [tt 96], some (94, true)⟩, .any),
    (⟨some 98, .load 1 false false, [tt 97], some (94, true)⟩, .any),
    (⟨some 99, .pure (.bin .eql), [tt 98, .c (AV.str [105, 102])], some (94, true)⟩, .any),
    (⟨some 100, .mov, [tt 99], some (94, true)⟩, .any),
    (⟨some 101, .mov, [tt 1], some (100, false)⟩, .any),
    (⟨some 102, .pure .nilck, [tt 101], some (100, false)⟩, .any),
    (⟨some 103, .pure (.faddr 0), [tt 102], some (100, false)⟩, .any),
    (⟨some 104, .load 1 false false, [tt 103], some (100, false)⟩, .any),
    (⟨some 105, .pure (.bin .eql), [tt 104, .c (AV.str [117, 110, 108, 101, 115, 115])], some (100, false)⟩, .any),
    (⟨some 106, .pure .pick, [tt 100, .c (AV.bool true), tt 105], some (94, true)⟩, .any),
    (⟨some 107, .pure .pick, [tt 94, tt 106, .c (AV.bool false)], none⟩, .any)] 107, gI 108 .mov [tt 107], .sub [(⟨some 109, .pure (.faddr 0), [tt 9], some (108, true)⟩, .any),
    (⟨some 110, .load 1 false false, [tt 109], some (108, true)⟩, .any),
    (⟨some 111, .pure (.bin .eql), [tt 110, .c (AV.str [101, 108, 115, 101])], some (108, true)⟩, .any),
    (⟨some 112, .pure .pick, [tt 108, tt 111, .c (AV.bool false)], none⟩, .any)] 112, gI 91 .mov [tt 112]])
(.cond (.t 91 false)
.skip
(RR [0, 1, 2, 3] [gI 39 .mov [tt 0], gI 40 (.pure (.faddr 1)) [tt 9], gI 41 (.load 1 false false) [tt 40], gI 42 (.call 23) [tt 39, tt 41, ti 3]])))))))))))))))))
def r41 : RFunc := ⟨113,
(.block 0
(.loop 0 [0, 1, 2, 3] l41_0)),
 [], false⟩
def a41 : Ann := mkAnn [(2, 3, [true]), (2, 7, [true]), (2, 12, [false, true])] [(0, [0, 1, 2, 3])] false [(2, [3, 12]), (6, []), (9, [])] [] [(0, [0, 1, 2, 3, 16]), (1, [0, 1, 2, 3, 8]), (2, [0, 1, 2, 3]), (3, [0, 1, 2, 3, 9]), (4, [0, 1, 2, 3, 9, 10]), (5, [0, 1, 2, 3]), (6, [0, 1, 2, 3, 9, 10, 43]), (7, [0, 1, 2, 3]), (8, [0, 1, 2, 3, 9, 10, 57]), (9, [0, 1, 2, 3, 9, 10, 65]), (10, [0, 1, 2, 3, 9, 91])] [(2, 7)] [(1, 4, [0, 0, 0, 0, 10])] [] [(0, []), (1, [0, 1, 2, 3]), (2, [0, 1, 2, 3])] [] [] [(6, [(3, none), (5, some 51)]), (8, [(3, none), (4, some 64)]), (9, [(3, none), (13, some 81), (1, none), (8, some 90)]), (10, [(3, none), (13, some 107), (1, none), (4, some 112)])] [(2, 8, (.agg [.str, .str, (.int .i64), .str, (.sl false 5)]))] [0]
set_option maxRecDepth 100000 in
theorem c41 : convFn Try.prog a41 41 = some r41 := by kernel_rfl

/-- drayage/rdep.signs -/
def r45 : RFunc := ⟨2,
(.seq
(RR [] [gI 0 .mov [.c (AV.sl false 1 [])]])
(.seq
(RR [0] [gI 1 (.bslice 1 false 6) [.c (AV.str []), .c (AV.str [60]), .c (AV.str [60, 61]), .c (AV.str [61]), .c (AV.str [62, 61]), .c (AV.str [62])], gI 0 .mov [tt 1]])
(.ret [0]))),
 [.tmp 0 false], false⟩
def a45 : Ann := mkAnn [] [] false [] [] [(0, []), (1, [0])] [] [(0, 0, [2])] [] [] [0] [false] [] [] []
set_option maxRecDepth 100000 in
theorem c45 : convFn Try.prog a45 45 = some r45 := by kernel_rfl

/-- drayage/rdep.atom -/
def r48 : RFunc := ⟨32,
(.seq
(RR [1] [gI 1 (.new 3) [tt 0], gI 2 .mov [ti 0]])
(.seq
(.block 0
(.seq
(RR [1, 3] [gI 4 (.pure (.faddr 0)) [tt 1], gI 5 (.load 1 false false) [tt 4], gI 6 (.call 19) [tt 5], gI 7 (.pure (.un .not)) [tt 6], gI 3 .mov [tt 7]])
(.cond (.t 3 false)
(.seq
(RR [2] [gI 2 .mov [ti 10]])
(.ret [2]))
(.seq
(.seq
(RR [1, 8] [gI 9 (.pure (.faddr 1)) [tt 1], gI 10 (.load 1 false false) [tt 9], gI 11 (.pure (.bin .lss)) [tt 10, ti 0], gI 12 .mov [tt 11], .sub [(⟨some 13, .pure (.faddr 1), [tt 1], some (12, false)⟩, .any),
    (⟨some 14, .load 1 false false, [tt 13], some (12, false)⟩, .any),
    (⟨some 15, .pure (.bin .gtr), [tt 14, ti 5], some (12, false)⟩, .any),
    (⟨some 16, .pure .pick, [tt 12, .c (AV.bool true), tt 15], none⟩, .any)] 16, gI 8 .mov [tt 16]])
(.cond (.t 8 false)
.skip
(RR [1, 8] [gI 17 (.pure (.faddr 1)) [tt 1], gI 18 (.load 1 false false) [tt 17], gI 19 (.pure (.bin .eql)) [tt 18, ti 0], gI 20 .mov [tt 19], .sub [(⟨some 21, .pure (.faddr 2), [tt 1], some (20, true)⟩, .any),
    (⟨some 22, .load 1 false false, [tt 21], some (20, true)⟩, .any),
    (⟨some 23, .pure (.bin .neq), [tt 22, .c (AV.str [])], some (20, true)⟩, .any),
    (⟨some 24, .pure .pick, [tt 20, tt 23, .c (AV.bool false)], none⟩, .any)] 24, gI 8 .mov [tt 24]])))
(.cond (.t 8 false)
(.seq
(RR [2] [gI 2 .mov [ti 1]])
(.ret [2]))
(.seq
(RR [1, 25] [gI 26 (.pure (.faddr 1)) [tt 1], gI 27 (.load 1 false false) [tt 26], gI 28 (.pure (.bin .eql)) [tt 27, ti 0], gI 25 .mov [tt 28]])
(.cond (.t 25 false)
(.seq
(RR [2] [gI 2 .mov [ti 0]])
(.ret [2]))
.skip)))))))
(.seq
(RR [2] [gI 29 (.pure (.faddr 2)) [tt 1], gI 30 (.load 1 false false) [tt 29], gI 31 (.call 62) [ti 2, tt 30], gI 2 .mov [tt 31]])
(.ret [2])))),
 [.tmp 2 false], false⟩
def a48 : Ann := mkAnn [] [] false [] [] [(0, [1]), (1, [1, 3]), (2, [2]), (3, [1, 8]), (4, [1, 8]), (5, [2]), (6, [1, 25]), (7, [2]), (8, [2])] [] [] [] [(0, [1])] [2] [false] [(3, [(4, none), (4, some 16)]), (4, [(4, none), (4, some 24)])] [] []
set_option maxRecDepth 100000 in
theorem c48 : convFn Try.prog a48 48 = some r48 := by kernel_rfl

/-- slices.Contains[[]string,string] -/
def r49 : RFunc := ⟨9,
(.seq
(RR [0, 1] [gI 4 .mov [.c (AV.bool false)]])
(.seq
(RR [4] [gI 5 .mov [tt 0], gI 6 .mov [tt 1], gI 7 (.call 61) [tt 5, tt 6], gI 8 (.pure (.bin .geq)) [tt 7, ti 0], gI 4 .mov [tt 8]])
(.ret [4]))),
 [.tmp 4 false], false⟩
def a49 : Ann := mkAnn [] [] false [] [] [(0, [0, 1]), (1, [4])] [] [] [] [] [4] [false] [] [] []
set_option maxRecDepth 100000 in
theorem c49 : convFn Try.prog a49 49 = some r49 := by kernel_rfl

/-- drayage/rdep.words -/
def r50 : RFunc := ⟨2,
(.seq
(RR [] [gI 0 .mov [.c (AV.sl false 1 [])]])
(.seq
(RR [0] [gI 1 (.bslice 1 false 6) [.c (AV.str [97, 110, 100]), .c (AV.str [111, 114]), .c (AV.str [105, 102]), .c (AV.str [117, 110, 108, 101, 115, 115]), .c (AV.str [119, 105, 116, 104]), .c (AV.str [119, 105, 116, 104, 111, 117, 116])], gI 0 .mov [tt 1]])
(.ret [0]))),
 [.tmp 0 false], false⟩
def a50 : Ann := mkAnn [] [] false [] [] [(0, []), (1, [0])] [] [(0, 0, [2])] [] [] [0] [false] [] [] []
set_option maxRecDepth 100000 in
theorem c50 : convFn Try.prog a50 50 = some r50 := by kernel_rfl

/-- drayage/rdep.count -/
def r51 : RFunc := ⟨22,
(.seq
(RR [0, 1] [gI 4 .mov [.c (AV.bool false)]])
(.seq
(.seq
(RR [1, 5] [gI 5 .mov [tt 0]])
(.block 0
(.seq
(.seq
(RR [1, 5, 6] [gI 7 (.pure (.bin .eql)) [tt 5, .c (AV.str [97, 110, 100])], gI 6 .mov [tt 7]])
(.cond (.t 6 false)
.skip
(RR [1, 5, 6] [gI 8 (.pure (.bin .eql)) [tt 5, .c (AV.str [111, 114])], gI 6 .mov [tt 8]])))
(.cond (.t 6 false)
(.seq
(RR [4] [gI 9 .mov [tt 1], gI 10 (.pure (.bin .geq)) [tt 9, ti 2], gI 4 .mov [tt 10]])
(.ret [4]))
(.seq
(.seq
(RR [1, 5, 11] [gI 12 (.pure (.bin .eql)) [tt 5, .c (AV.str [105, 102])], gI 11 .mov [tt 12]])
(.cond (.t 11 false)
.skip
(RR [1, 11] [gI 13 (.pure (.bin .eql)) [tt 5, .c (AV.str [117, 110, 108, 101, 115, 115])], gI 11 .mov [tt 13]])))
(.cond (.t 11 false)
(.seq
(RR [4] [gI 14 .mov [tt 1], gI 15 (.pure (.bin .eql)) [tt 14, ti 2], gI 16 .mov [tt 15], .sub [(⟨some 17, .mov, [tt 1], some (16, false)⟩, .any),
    (⟨some 18, .pure (.bin .eql), [tt 17, ti 3], some (16, false)⟩, .any),
    (⟨some 19, .pure .pick, [tt 16, .c (AV.bool true), tt 18], none⟩, .any)] 19, gI 4 .mov [tt 19]])
(.ret [4]))
.skip))))))
(.seq
(RR [4] [gI 20 .mov [tt 1], gI 21 (.pure (.bin .eql)) [tt 20, ti 2], gI 4 .mov [tt 21]])
(.ret [4])))),
 [.tmp 4 false], false⟩
def a51 : Ann := mkAnn [] [] false [] [] [(0, [0, 1]), (1, [1, 5]), (2, [1, 5, 6]), (3, [1, 5, 6]), (4, [4]), (5, [1, 5, 11]), (6, [1, 11]), (7, [4]), (8, [4])] [] [] [] [(0, [1])] [4] [false] [(7, [(3, none), (3, some 19)])] [] []
set_option maxRecDepth 100000 in
theorem c51 : convFn Try.prog a51 51 = some r51 := by kernel_rfl

/-- strings.HasPrefix -/
def r55 : RFunc := ⟨8,
(.seq
(RR [0, 1] [gI 4 .mov [.c (AV.bool false)]])
(.seq
(RR [4] [gI 5 .mov [tt 0], gI 6 .mov [tt 1], gI 7 (.call 70) [tt 5, tt 6], gI 4 .mov [tt 7]])
(.ret [4]))),
 [.tmp 4 false], false⟩
def a55 : Ann := mkAnn [] [] false [] [] [(0, [0, 1]), (1, [4])] [] [] [] [] [4] [false] [] [] []
set_option maxRecDepth 100000 in
theorem c55 : convFn Try.prog a55 55 = some r55 := by kernel_rfl

/-- internal/stringslite.IndexByte -/
def r60 : RFunc := ⟨8,
(.seq
(RR [0, 1] [gI 4 .mov [ti 0]])
(.seq
(RR [4] [gI 5 .mov [tt 0], gI 6 .mov [tt 1], gI 7 (.call 72) [tt 5, tt 6], gI 4 .mov [tt 7]])
(.ret [4]))),
 [.tmp 4 false], false⟩
def a60 : Ann := mkAnn [] [] false [] [] [(0, [0, 1]), (1, [4])] [] [] [] [] [4] [false] [] [] []
set_option maxRecDepth 100000 in
theorem c60 : convFn Try.prog a60 60 = some r60 := by kernel_rfl

/-- slices.Index[[]string,string] -/
def l61_2 : RCode :=
(.seq
(RR [0, 1, 7, 8, 9] [gI 9 (.pure (.bin .lss)) [tt 8, tt 7]])
(.seq
(.cond (.t 9 false)
.skip
(.exit 0 []))
(.seq
(.block 1
(.seq
(RR [0, 1, 5, 7, 8] [gI 10 .mov [tt 8], gI 5 .mov [tt 10]])
(.seq
(RR [0, 1, 5, 7, 8, 16] [gI 11 .mov [tt 1], gI 12 .mov [tt 0], gI 13 .mov [tt 5], .one ⟨some 14, .pure (.iaddr 1), [tt 12, tt 13], none⟩ .str, gI 15 (.load 1 false false) [tt 14], gI 16 (.pure (.bin .eql)) [tt 11, tt 15]])
(.cond (.t 16 false)
(.seq
(RR [4] [gI 17 .mov [tt 5], gI 4 .mov [tt 17]])
(.ret [4]))
.skip))))
(RR [0, 1, 7, 8] [gI 18 (.pure (.bin .add)) [tt 8, ti 1], gI 8 .mov [tt 18]]))))
def r61 : RFunc := ⟨19,
(.seq
(RR [0, 1] [gI 4 .mov [ti 0]])
(.seq
(.seq
(RR [0, 1, 7, 8] [gI 6 .mov [tt 0], gI 7 (.pure .lenSl) [tt 6], gI 8 .mov [ti 0]])
(.block 0
(.loop 2 [0, 1, 7, 8] l61_2)))
(.seq
(RR [4] [gI 4 .mov [ti (-1)]])
(.ret [4])))),
 [.tmp 4 false], false⟩
def a61 : Ann := mkAnn [] [(2, [0, 1, 7, 8])] false [] [] [(0, [0, 1]), (1, [0, 1, 7, 8]), (2, [0, 1, 7, 8, 9]), (3, [0, 1, 5, 7, 8]), (4, [0, 1, 5, 7, 8, 16]), (5, [4]), (6, [0, 1, 7, 8]), (7, [4])] [] [] [] [(0, []), (1, [0, 1, 7, 8])] [4] [false] [] [(4, 3, .str)] []
set_option maxRecDepth 100000 in
theorem c61 : convFn Try.prog a61 61 = some r61 := by kernel_rfl

/-- drayage/version.Check -/
def r62 : RFunc := ⟨26,
(.seq
(RR [0, 1] [gI 4 .mov [ti 0]])
(.seq
(.block 0
(.seq
(RR [0, 1, 7] [gI 8 .mov [tt 0], gI 9 (.pure (.bin .lss)) [tt 8, ti 1], gI 10 .mov [tt 9], .sub [(⟨some 11, .mov, [tt 0], some (10, false)⟩, .any),
    (⟨some 12, .pure (.bin .gtr), [tt 11, ti 3], some (10, false)⟩, .any),
    (⟨some 13, .pure .pick, [tt 10, .c (AV.bool true), tt 12], none⟩, .any)] 13, gI 7 .mov [tt 13]])
(.cond (.t 7 false)
(.seq
(RR [4] [gI 4 .mov [ti 9]])
(.ret [4]))
(.seq
(RR [0, 1, 14] [gI 15 .mov [tt 1], gI 16 (.pure .lenS) [tt 15], gI 17 (.pure (.bin .gtr)) [tt 16, ti 64], gI 14 .mov [tt 17]])
(.cond (.t 14 false)
(.seq
(RR [4] [gI 4 .mov [ti 4]])
(.ret [4]))
.skip)))))
(.seq
(.seq
(RR [6] [gI 19 .mov [tt 0], gI 20 .mov [tt 1], gI 21 (.call 73) [tt 19, tt 20], gI 18 .mov [tt 21], gI 22 (.pure (.extract 0)) [tt 18], gI 23 (.pure (.extract 1)) [tt 18], gI 5 (.new 4) [.c (AV.agg [AV.str [], AV.str [], AV.str [], AV.bool false])], gS (.store 4) [tt 5, tt 22], gI 6 .mov [tt 23]])
(.seq
(RR [25] [gI 24 .mov [tt 6], gI 25 (.pure (.un .not)) [tt 24]])
(.cond (.t 25 false)
(.seq
(RR [4] [gI 4 .mov [ti 3]])
(.ret [4]))
.skip)))
(.seq
(RR [4] [gI 4 .mov [ti 0]])
(.ret [4]))))),
 [.tmp 4 false], false⟩
def a62 : Ann := mkAnn [] [] false [] [] [(0, [0, 1]), (1, [0, 1, 7]), (2, [4]), (3, [0, 1, 14]), (4, [4]), (5, [6]), (6, [25]), (7, [4]), (8, [4])] [] [] [] [(0, [0, 1])] [4] [false] [(1, [(3, none), (3, some 13)])] [] []
set_option maxRecDepth 100000 in
theorem c62 : convFn Try.prog a62 62 = some r62 := by kernel_rfl

/-- internal/stringslite.HasPrefix -/
def r70 : RFunc := ⟨18,
(.seq
(RR [0, 1] [gI 4 .mov [.c (AV.bool false)]])
(.seq
(RR [4] [gI 5 .mov [tt 0], gI 6 (.pure .lenS) [tt 5], gI 7 .mov [tt 1], gI 8 (.pure .lenS) [tt 7], gI 9 (.pure (.bin .geq)) [tt 6, tt 8], gI 10 .mov [tt 9], .sub [(⟨some 11, .mov, [tt 0], some (10, true)⟩, .any),
    (⟨some 12, .mov, [tt 1], some (10, true)⟩, .any),
    (⟨some 13, .pure .lenS, [tt 12], some (10, true)⟩, .any),
    (⟨some 14, .pure (.sliceStr false true), [tt 11, tt 13], some (10, true)⟩, .any),
    (⟨some 15, .mov, [tt 1], some (10, true)⟩, .any),
    (⟨some 16, .pure (.bin .eql), [tt 14, tt 15], some (10, true)⟩, .any),
    (⟨some 17, .pure .pick, [tt 10, tt 16, .c (AV.bool false)], none⟩, .any)] 17, gI 4 .mov [tt 17]])
(.ret [4]))),
 [.tmp 4 false], false⟩
def a70 : Ann := mkAnn [] [] false [] [] [(0, [0, 1]), (1, [4])] [] [] [] [] [4] [false] [(1, [(6, none), (7, some 17)])] [] []
set_option maxRecDepth 100000 in
theorem c70 : convFn Try.prog a70 70 = some r70 := by kernel_rfl

/-- drayage/version.part -/
def k73_17 : RCode :=
(.seq
(.region (some ([24], [])) [4, 5] [gI 90 (.load 4 true false) [tt 4], gI 91 .mov [tt 5], gI 92 .mov [tt 91], .sub [(⟨some 93, .pure (.faddr 1), [tt 4], some (92, true)⟩, .any),
    (⟨some 94, .load 1 false false, [tt 93], some (92, true)⟩, .any),
    (⟨some 95, .mov, [tt 8], some (92, true)⟩, .any),
    (⟨some 96, .call 83, [tt 94, tt 95], some (92, true)⟩, .any),
    (⟨some 97, .pure .pick, [tt 92, tt 96, .c (AV.bool false)], none⟩, .any)] 97, gI 98 .mov [tt 97], .sub [(⟨some 99, .pure (.faddr 1), [tt 4], some (98, true)⟩, .any),
    (⟨some 100, .load 1 false false, [tt 99], some (98, true)⟩, .any),
    (⟨some 101, .pure .idxStr, [tt 100, ti 0], some (98, true)⟩, .any),
    (⟨some 102, .call 84, [tt 101], some (98, true)⟩, .any),
    (⟨some 103, .pure .pick, [tt 98, tt 102, .c (AV.bool false)], none⟩, .any)] 103, gI 104 .mov [tt 103], .sub [(⟨some 105, .pure (.faddr 3), [tt 4], some (104, true)⟩, .any),
    (⟨some 106, .load 1 false false, [tt 105], some (104, true)⟩, .any),
    (⟨some 107, .pure (.un .not), [tt 106], some (104, true)⟩, .any),
    (⟨some 108, .mov, [tt 107], some (104, true)⟩, .any),
    (⟨some 109, .pure (.faddr 2), [tt 4], some (108, false)⟩, .any),
    (⟨some 110, .load 1 false false, [tt 109], some (108, false)⟩, .any),
    (⟨some 111, .call 83, [tt 110, .c (AV.str [46, 43, 126])], some (108, false)⟩, .any),
    (⟨some 112, .pure .pick, [tt 108, .c (AV.bool true), tt 111], some (104, true)⟩, .any),
    (⟨some 113, .pure .pick, [tt 104, tt 112, .c (AV.bool false)], none⟩, .any)] 113, gS (.store 4) [tt 4, tt 90], gI 5 .mov [tt 113]])
(.ret [4, 5]))
def k73_11 : RCode :=
(.seq
(.seq
(RR [4, 5, 58] [gI 57 .mov [tt 0], gI 58 (.pure (.bin .eql)) [tt 57, ti 2]])
(.cond (.t 58 false)
(.seq
(RR [4, 5] [gI 59 .mov [tt 5], gI 60 .mov [tt 59], .sub [(⟨some 61, .pure (.faddr 0), [tt 4], some (60, true)⟩, .any),
    (⟨some 62, .load 1 false false, [tt 61], some (60, true)⟩, .any),
    (⟨some 63, .pure .lenS, [tt 62], some (60, true)⟩, .any),
    (⟨some 64, .pure (.bin .lss), [tt 63, ti 2], some (60, true)⟩, .any),
    (⟨some 65, .mov, [tt 64], some (60, true)⟩, .any),
    (⟨some 66, .pure (.faddr 0), [tt 4], some (65, false)⟩, .any),
    (⟨some 67, .load 1 false false, [tt 66], some (65, false)⟩, .any),
    (⟨some 68, .pure .idxStr, [tt 67, ti 0], some (65, false)⟩, .any),
    (⟨some 69, .pure (.bin .neq), [tt 68, .c (AV.int .u8 48)], some (65, false)⟩, .any),
    (⟨some 70, .pure .pick, [tt 65, .c (AV.bool true), tt 69], some (60, true)⟩, .any),
    (⟨some 71, .pure .pick, [tt 60, tt 70, .c (AV.bool false)], none⟩, .any)] 71, gI 5 .mov [tt 71]])
(.seq
(.region (some ([16], [])) [4, 5] [gI 72 (.load 4 true false) [tt 4], gI 73 .mov [tt 5], gI 74 .mov [tt 73], .sub [(⟨some 75, .pure (.faddr 3), [tt 4], some (74, true)⟩, .any),
    (⟨some 76, .load 1 false false, [tt 75], some (74, true)⟩, .any),
    (⟨some 77, .pure .pick, [tt 74, tt 76, .c (AV.bool false)], none⟩, .any)] 77, gI 78 .mov [tt 77], .sub [(⟨some 79, .pure (.faddr 1), [tt 4], some (78, true)⟩, .any),
    (⟨some 80, .load 1 false false, [tt 79], some (78, true)⟩, .any),
    (⟨some 81, .call 83, [tt 80, .c (AV.str [46, 95, 43, 126, 94])], some (78, true)⟩, .any),
    (⟨some 82, .pure .pick, [tt 78, tt 81, .c (AV.bool false)], none⟩, .any)] 82, gI 83 .mov [tt 82], .sub [(⟨some 84, .pure (.faddr 2), [tt 4], some (83, true)⟩, .any),
    (⟨some 85, .load 1 false false, [tt 84], some (83, true)⟩, .any),
    (⟨some 86, .call 83, [tt 85, .c (AV.str [46, 95, 43, 126, 94])], some (83, true)⟩, .any),
    (⟨some 87, .pure .pick, [tt 83, tt 86, .c (AV.bool false)], none⟩, .any)] 87, gS (.store 4) [tt 4, tt 72], gI 5 .mov [tt 87]])
(.ret [4, 5])))
.skip))
(.seq
(RR [4, 5, 8] [gI 8 .mov [.c (AV.str [46, 43, 126])]])
(.seq
(.seq
(RR [4, 5, 8, 89] [gI 88 (.pure (.faddr 3)) [tt 4], gI 89 (.load 1 false false) [tt 88]])
(.cond (.t 89 false)
(RR [4, 5, 8] [gI 8 .mov [.c (AV.str [46, 43, 126, 45])]])
.skip))
(.cut 100017 [4, 5, 8] [4, 5] k73_17))))
def r73 : RFunc := ⟨114,
(.seq
(RR [0, 1, 4] [gI 4 (.new 4) [.c (AV.agg [AV.str [], AV.str [], AV.str [], AV.bool false])], gI 5 .mov [.c (AV.bool false)]])
(.seq
(.seq
(RR [0, 1, 4, 10] [gI 9 .mov [tt 0], gI 10 (.pure (.bin .eql)) [tt 9, ti 3]])
(.cond (.t 10 false)
(.seq
(RR [1, 4, 5] [gI 12 .mov [tt 1], gI 13 (.call 79) [tt 12], gI 11 .mov [tt 13], gI 14 (.pure (.extract 0)) [tt 11], gI 15 (.pure (.extract 1)) [tt 11], gI 5 .mov [tt 15]])
(.seq
(RR [1, 4, 5, 6] [gI 16 .mov [tt 1], gI 17 (.call 80) [tt 16, .c (AV.str [45, 114])], gI 6 .mov [tt 17]])
(.seq
(.seq
(RR [1, 4, 5, 6, 19] [gI 18 .mov [tt 6], gI 19 (.pure (.bin .lss)) [tt 18, ti 0]])
(.cond (.t 19 false)
(.seq
(RR [4, 5] [gI 20 .mov [tt 1], gI 21 (.build [AV.str [], AV.str [], AV.str [], AV.bool false] [(1, 1)]) [tt 20], gI 22 .mov [tt 5], gS (.store 4) [tt 4, tt 21], gI 5 .mov [tt 22]])
(.ret [4, 5]))
.skip))
(.seq
(.region (some ([9], [])) [4, 5] [gI 23 .mov [tt 1], gI 24 .mov [tt 6], gI 25 (.pure (.sliceStr false true)) [tt 23, tt 24], gI 26 .mov [tt 1], gI 27 .mov [tt 6], gI 28 (.pure (.bin .add)) [tt 27, ti 2], gI 29 (.pure (.sliceStr true false)) [tt 26, tt 28], gI 30 (.build [AV.str [], AV.str [], AV.str [], AV.bool false] [(1, 1), (2, 1), (3, 1)]) [tt 25, tt 29, .c (AV.bool true)], gI 31 .mov [tt 5], gS (.store 4) [tt 4, tt 30], gI 5 .mov [tt 31]])
(.ret [4, 5])))))
.skip))
(.seq
(RR [0, 4, 5] [gI 33 .mov [tt 1], gI 34 (.call 81) [tt 33], gI 32 .mov [tt 34], gI 35 (.pure (.extract 0)) [tt 32], gI 36 (.pure (.extract 1)) [tt 32], gI 37 (.pure (.extract 2)) [tt 32], gI 38 (.pure (.faddr 0)) [tt 4], gS (.store 1) [tt 38, tt 35], gI 39 (.pure (.faddr 1)) [tt 4], gS (.store 1) [tt 39, tt 36], gI 5 .mov [tt 37]])
(.seq
(.seq
(RR [0, 4, 5, 7] [gI 40 (.pure (.faddr 1)) [tt 4], gI 41 (.load 1 false false) [tt 40], gI 42 (.call 82) [tt 41, .c (AV.int .u8 45)], gI 7 .mov [tt 42]])
(.seq
(RR [0, 4, 5, 7, 44] [gI 43 .mov [tt 7], gI 44 (.pure (.bin .geq)) [tt 43, ti 0]])
(.cond (.t 44 false)
(.region (some ([10, 12, 14], [])) [0, 4, 5] [gI 45 (.pure (.faddr 1)) [tt 4], gI 46 (.load 1 false false) [tt 45], gI 47 .mov [tt 7], gI 48 (.pure (.sliceStr false true)) [tt 46, tt 47], gI 49 (.pure (.faddr 1)) [tt 4], gI 50 (.load 1 false false) [tt 49], gI 51 .mov [tt 7], gI 52 (.pure (.bin .add)) [tt 51, ti 1], gI 53 (.pure (.sliceStr true false)) [tt 50, tt 52], gI 54 (.pure (.faddr 1)) [tt 4], gS (.store 1) [tt 54, tt 48], gI 55 (.pure (.faddr 2)) [tt 4], gS (.store 1) [tt 55, tt 53], gI 56 (.pure (.faddr 3)) [tt 4], gS (.store 1) [tt 56, .c (AV.bool true)]])
.skip)))
(.cut 100011 [0, 4, 5] [4, 5] k73_11))))),
 [.cell 4 4 true, .tmp 5 false], false⟩
def a73 : Ann := mkAnn [] [] false [(6, [9]), (10, [10, 12, 14]), (13, [16]), (17, [24])] [] [(0, [0, 1, 4]), (1, [0, 1, 4, 10]), (2, [1, 4, 5]), (3, [1, 4, 5, 6]), (4, [1, 4, 5, 6, 19]), (5, [4, 5]), (6, [4, 5]), (7, [0, 4, 5]), (8, [0, 4, 5, 7]), (9, [0, 4, 5, 7, 44]), (10, [0, 4, 5]), (11, [4, 5, 58]), (12, [4, 5]), (13, [4, 5]), (14, [4, 5, 8]), (15, [4, 5, 8, 89]), (16, [4, 5, 8]), (17, [4, 5])] [] [] [(11, [0, 4, 5], [4, 5]), (17, [4, 5, 8], [4, 5])] [] [4, 5] [false, false] [(12, [(2, none), (11, some 71)]), (13, [(3, none), (3, some 77), (1, none), (4, some 82), (1, none), (4, some 87)]), (17, [(3, none), (5, some 97), (1, none), (5, some 103), (1, none), (9, some 113)])] [] []
set_option maxRecDepth 100000 in
theorem c73 : convFn Try.prog a73 73 = some r73 := by kernel_rfl

/-- drayage/version.pieces -/
def k79_20 : RCode :=
(.seq
(RR [4, 8] [gI 72 .mov [.t 4 true], gI 73 .mov [tt 10], gI 74 .mov [tt 9], gI 75 (.build [AV.int .i64 0, AV.str [], AV.int .i64 0, AV.bool false] [(0, 1), (2, 1)]) [tt 73, tt 74], gI 76 (.bslice 4 true 1) [tt 75], gI 77 (.append 4 40 false) [.t 72 true, tt 76], gI 4 .mov [.t 77 true]])
(.seq
(RR [4, 8, 11] [gI 79 .mov [tt 8], gI 80 (.call 90) [tt 79], gI 78 .mov [tt 80], gI 81 (.pure (.extract 0)) [tt 78], gI 82 (.pure (.extract 1)) [tt 78], gI 11 .mov [tt 81], gI 8 .mov [tt 82]])
(.seq
(.seq
(RR [4, 8, 11, 84] [gI 83 .mov [tt 11], gI 84 (.pure (.bin .neq)) [tt 83, .c (AV.str [])]])
(.cond (.t 84 false)
(RR [4, 8] [gI 85 .mov [.t 4 true], gI 86 .mov [tt 11], gI 87 (.build [AV.int .i64 0, AV.str [], AV.int .i64 0, AV.bool false] [(0, 1), (1, 1)]) [ti 3, tt 86], gI 88 (.bslice 4 true 1) [tt 87], gI 89 (.append 4 40 false) [.t 85 true, tt 88], gI 4 .mov [.t 89 true]])
.skip))
(RR [0, 4] [gI 90 .mov [tt 8], gI 0 .mov [tt 90]]))))
def l79_12 : RCode :=
(.seq
(.seq
(RR [0, 4, 56] [gI 55 .mov [tt 0], gI 56 (.call 91) [tt 55, .c (AV.int .u8 95)]])
(.cond (.t 56 false)
.skip
(.exit 2 [0, 4])))
(.block 3
(.seq
(RR [4, 7, 8] [gI 58 .mov [tt 0], gI 59 (.pure (.sliceStr true false)) [tt 58, ti 1], gI 60 (.call 92) [tt 59], gI 57 .mov [tt 60], gI 61 (.pure (.extract 0)) [tt 57], gI 62 (.pure (.extract 1)) [tt 57], gI 7 .mov [tt 61], gI 8 .mov [tt 62]])
(.seq
(RR [4, 8, 9] [gI 63 (.bslice 1 false 9) [.c (AV.str [97, 108, 112, 104, 97]), .c (AV.str [98, 101, 116, 97]), .c (AV.str [112, 114, 101]), .c (AV.str [114, 99]), .c (AV.str [99, 118, 115]), .c (AV.str [115, 118, 110]), .c (AV.str [103, 105, 116]), .c (AV.str [104, 103]), .c (AV.str [112])], gI 64 .mov [tt 7], gI 65 (.call 61) [tt 63, tt 64], gI 9 .mov [tt 65]])
(.seq
(RR [4, 8, 9, 10] [gI 10 .mov [ti 4]])
(.seq
(.block 4
(.seq
(RR [4, 8, 9, 10, 66] [gI 67 .mov [tt 9], gI 68 (.pure (.bin .lss)) [tt 67, ti 0], gI 66 .mov [tt 68]])
(.cond (.t 66 false)
(.seq
(RR [2, 3] [gI 2 .mov [.c (AV.sl false 4 [])], gI 3 .mov [.c (AV.bool false)]])
(.ret [2, 3]))
(.seq
(RR [4, 8, 9, 10, 69] [gI 70 .mov [tt 9], gI 71 (.pure (.bin .lss)) [tt 70, ti 4], gI 69 .mov [tt 71]])
(.cond (.t 69 false)
(RR [4, 8, 9, 10] [gI 10 .mov [ti 0]])
.skip)))))
(.cut 100020 [4, 8, 9, 10] [0, 4] k79_20)))))))
def k79_12 : RCode :=
(.seq
(.block 2
(.loop 12 [0, 4] l79_12))
(.seq
(.seq
(RR [0, 4, 92] [gI 91 .mov [tt 0], gI 92 (.call 55) [tt 91, .c (AV.str [45, 114])]])
(.cond (.t 92 false)
(.seq
(RR [4, 12, 13] [gI 94 .mov [tt 0], gI 95 (.pure (.sliceStr true false)) [tt 94, ti 2], gI 96 (.call 90) [tt 95], gI 93 .mov [tt 96], gI 97 (.pure (.extract 0)) [tt 93], gI 98 (.pure (.extract 1)) [tt 93], gI 12 .mov [tt 97], gI 13 .mov [tt 98]])
(.seq
(.seq
(RR [4, 12, 13, 100] [gI 99 .mov [tt 12], gI 100 (.pure (.bin .eql)) [tt 99, .c (AV.str [])]])
(.cond (.t 100 false)
(.seq
(RR [2, 3] [gI 2 .mov [.c (AV.sl false 4 [])], gI 3 .mov [.c (AV.bool false)]])
(.ret [2, 3]))
.skip))
(.seq
(RR [4, 13] [gI 101 .mov [.t 4 true], gI 102 .mov [tt 12], gI 103 (.build [AV.int .i64 0, AV.str [], AV.int .i64 0, AV.bool false] [(0, 1), (1, 1)]) [ti 2, tt 102], gI 104 (.bslice 4 true 1) [tt 103], gI 105 (.append 4 40 false) [.t 101 true, tt 104], gI 4 .mov [.t 105 true]])
(RR [0, 4] [gI 106 .mov [tt 13], gI 0 .mov [tt 106]]))))
.skip))
(.seq
(RR [2, 3] [gI 107 .mov [tt 4], gI 108 .mov [tt 0], gI 109 (.pure (.bin .eql)) [tt 108, .c (AV.str [])], gI 2 .mov [tt 107], gI 3 .mov [tt 109]])
(.ret [2, 3]))))
def l79_2 : RCode :=
(.block 1
(.seq
(RR [4, 5, 6] [gI 15 .mov [tt 0], gI 16 (.call 90) [tt 15], gI 14 .mov [tt 16], gI 17 (.pure (.extract 0)) [tt 14], gI 18 (.pure (.extract 1)) [tt 14], gI 5 .mov [tt 17], gI 6 .mov [tt 18]])
(.seq
(.seq
(RR [4, 5, 6, 20] [gI 19 .mov [tt 5], gI 20 (.pure (.bin .eql)) [tt 19, .c (AV.str [])]])
(.cond (.t 20 false)
(.seq
(RR [2, 3] [gI 2 .mov [.c (AV.sl false 4 [])], gI 3 .mov [.c (AV.bool false)]])
(.ret [2, 3]))
.skip))
(.seq
(RR [4, 6] [gI 21 .mov [.t 4 true], gI 22 .mov [tt 5], gI 23 .mov [tt 4], gI 24 (.pure .lenSl) [tt 23], gI 25 (.pure (.bin .eql)) [tt 24, ti 0], gI 26 (.build [AV.int .i64 0, AV.str [], AV.int .i64 0, AV.bool false] [(0, 1), (1, 1), (3, 1)]) [ti 6, tt 22, tt 25], gI 27 (.bslice 4 true 1) [tt 26], gI 28 (.append 4 40 false) [.t 21 true, tt 27], gI 4 .mov [.t 28 true]])
(.seq
(RR [0, 4] [gI 29 .mov [tt 6], gI 0 .mov [tt 29]])
(.seq
(.seq
(RR [0, 4, 32] [gI 30 .mov [tt 0], gI 31 (.call 91) [tt 30, .c (AV.int .u8 46)], gI 32 (.pure (.un .not)) [tt 31]])
(.cond (.t 32 false)
(.exit 0 [0, 4])
.skip))
(RR [0, 4] [gI 33 .mov [tt 0], gI 34 (.pure (.sliceStr true false)) [tt 33, ti 1], gI 0 .mov [tt 34]])))))))
def r79 : RFunc := ⟨110,
(.seq
(RR [0] [gI 2 .mov [.c (AV.sl false 4 [])], gI 3 .mov [.c (AV.bool false)]])
(.seq
(RR [0, 4] [gI 4 .mov [.c (AV.sl true 4 [])]])
(.seq
(.block 0
(.loop 2 [0, 4] l79_2))
(.seq
(.seq
(RR [0, 4, 46] [gI 35 .mov [tt 0], gI 36 (.pure (.bin .neq)) [tt 35, .c (AV.str [])], gI 37 .mov [tt 36], .sub [(⟨some 38, .mov, [tt 0], some (37, true)⟩, .any),
    (⟨some 39, .pure .idxStr, [tt 38, ti 0], some (37, true)⟩, .any),
    (⟨some 40, .pure (.bin .geq), [tt 39, .c (AV.int .u8 97)], some (37, true)⟩, .any),
    (⟨some 41, .pure .pick, [tt 37, tt 40, .c (AV.bool false)], none⟩, .any)] 41, gI 42 .mov [tt 41], .sub [(⟨some 43, .mov, [tt 0], some (42, true)⟩, .any),
    (⟨some 44, .pure .idxStr, [tt 43, ti 0], some (42, true)⟩, .any),
    (⟨some 45, .pure (.bin .leq), [tt 44, .c (AV.int .u8 122)], some (42, true)⟩, .any),
    (⟨some 46, .pure .pick, [tt 42, tt 45, .c (AV.bool false)], none⟩, .any)] 46])
(.cond (.t 46 false)
(.seq
(RR [0, 4] [gI 47 .mov [.t 4 true], gI 48 .mov [tt 0], gI 49 (.pure (.sliceStr false true)) [tt 48, ti 1], gI 50 (.build [AV.int .i64 0, AV.str [], AV.int .i64 0, AV.bool false] [(0, 1), (1, 1)]) [ti 5, tt 49], gI 51 (.bslice 4 true 1) [tt 50], gI 52 (.append 4 40 false) [.t 47 true, tt 51], gI 4 .mov [.t 52 true]])
(RR [0, 4] [gI 53 .mov [tt 0], gI 54 (.pure (.sliceStr true false)) [tt 53, ti 1], gI 0 .mov [tt 54]]))
.skip))
(.cut 100012 [0, 4] [2, 3] k79_12))))),
 [.tmp 2 false, .tmp 3 false], false⟩
def a79 : Ann := mkAnn [(1, 0, [true]), (5, 0, [true]), (5, 7, [true]), (5, 8, [true]), (10, 0, [true]), (10, 5, [true]), (10, 6, [true]), (20, 0, [true]), (20, 5, [true]), (20, 6, [true]), (23, 0, [true]), (23, 4, [true]), (23, 5, [true]), (29, 0, [true]), (29, 4, [true]), (29, 5, [true])] [(2, [0, 4]), (12, [0, 4])] false [] [] [(0, [0]), (1, [0, 4]), (2, [4, 5, 6]), (3, [4, 5, 6, 20]), (4, [2, 3]), (5, [4, 6]), (6, [0, 4]), (7, [0, 4, 32]), (8, [0, 4]), (9, [0, 4, 46]), (10, [0, 4]), (11, [0, 4]), (12, [0, 4, 56]), (13, [4, 7, 8]), (14, [4, 8, 9]), (15, [4, 8, 9, 10]), (16, [4, 8, 9, 10, 66]), (17, [2, 3]), (18, [4, 8, 9, 10, 69]), (19, [4, 8, 9, 10]), (20, [4, 8]), (21, [4, 8, 11]), (22, [4, 8, 11, 84]), (23, [4, 8]), (24, [0, 4]), (25, [0, 4, 92]), (26, [4, 12, 13]), (27, [4, 12, 13, 100]), (28, [2, 3]), (29, [4, 13]), (30, [0, 4]), (31, [2, 3])] [] [(0, 0, [8]), (1, 0, [9]), (4, 0, [8]), (17, 0, [8]), (28, 0, [8])] [(12, [0, 4], [2, 3]), (20, [4, 8, 9, 10], [0, 4])] [(0, [0, 4]), (1, [0, 4]), (2, [0, 4]), (3, [0, 4]), (4, [4, 8, 9, 10])] [2, 3] [false, false] [(9, [(3, none), (4, some 41), (1, none), (4, some 46)])] [] []
set_option maxRecDepth 100000 in
theorem c79 : convFn Try.prog a79 79 = some r79 := by kernel_rfl

/-- strings.LastIndex -/
def r80 : RFunc := ⟨36,
(.seq
(RR [0, 1] [gI 4 .mov [ti 0]])
(.seq
(RR [0, 1, 5] [gI 6 .mov [tt 1], gI 7 (.pure .lenS) [tt 6], gI 5 .mov [tt 7]])
(.seq
(.block 0
(.seq
(RR [0, 1, 5, 8] [gI 9 .mov [tt 5], gI 10 (.pure (.bin .eql)) [tt 9, ti 0], gI 8 .mov [tt 10]])
(.cond (.t 8 false)
(.seq
(RR [4] [gI 11 .mov [tt 0], gI 12 (.pure .lenS) [tt 11], gI 4 .mov [tt 12]])
(.ret [4]))
(.seq
(RR [0, 1, 5, 13] [gI 14 .mov [tt 5], gI 15 (.pure (.bin .eql)) [tt 14, ti 1], gI 13 .mov [tt 15]])
(.cond (.t 13 false)
(.seq
(RR [4] [gI 16 .mov [tt 0], gI 17 .mov [tt 1], gI 18 (.pure .idxStr) [tt 17, ti 0], gI 19 (.call 93) [tt 16, tt 18], gI 4 .mov [tt 19]])
(.ret [4]))
(.seq
(RR [0, 1, 5, 20] [gI 21 .mov [tt 5], gI 22 .mov [tt 0], gI 23 (.pure .lenS) [tt 22], gI 24 (.pure (.bin .eql)) [tt 21, tt 23], gI 20 .mov [tt 24]])
(.cond (.t 20 false)
(.seq
(.seq
(RR [27] [gI 25 .mov [tt 1], gI 26 .mov [tt 0], gI 27 (.pure (.bin .eql)) [tt 25, tt 26]])
(.cond (.t 27 false)
(.seq
(RR [4] [gI 4 .mov [ti 0]])
(.ret [4]))
.skip))
(.seq
(RR [4] [gI 4 .mov [ti (-1)]])
(.ret [4])))
(.seq
(RR [0, 1, 28] [gI 29 .mov [tt 5], gI 30 .mov [tt 0], gI 31 (.pure .lenS) [tt 30], gI 32 (.pure (.bin .gtr)) [tt 29, tt 31], gI 28 .mov [tt 32]])
(.cond (.t 28 false)
(.seq
(RR [4] [gI 4 .mov [ti (-1)]])
(.ret [4]))
.skip)))))))))
(.seq
(RR [4] [gI 33 .mov [tt 0], gI 34 .mov [tt 1], gI 35 (.call 94) [tt 33, tt 34], gI 4 .mov [tt 35]])
(.ret [4]))))),
 [.tmp 4 false], false⟩
def a80 : Ann := mkAnn [] [] false [] [] [(0, [0, 1]), (1, [0, 1, 5]), (2, [0, 1, 5, 8]), (3, [4]), (4, [0, 1, 5, 13]), (5, [4]), (6, [0, 1, 5, 20]), (7, [27]), (8, [4]), (9, [4]), (10, [0, 1, 28]), (11, [4]), (12, [4])] [] [] [] [(0, [0, 1])] [4] [false] [] [] []
set_option maxRecDepth 100000 in
theorem c80 : convFn Try.prog a80 80 = some r80 := by kernel_rfl

/-- drayage/version.epochs -/
def r81 : RFunc := ⟨37,
(.seq
(RR [0] [gI 2 .mov [.c (AV.str [])], gI 3 .mov [.c (AV.str [])], gI 4 .mov [.c (AV.bool false)]])
(.seq
(RR [0, 5, 6, 7] [gI 11 .mov [tt 0], gI 12 (.call 95) [tt 11, .c (AV.str [58])], gI 10 .mov [tt 12], gI 13 (.pure (.extract 0)) [tt 10], gI 14 (.pure (.extract 1)) [tt 10], gI 15 (.pure (.extract 2)) [tt 10], gI 5 .mov [tt 13], gI 6 .mov [tt 14], gI 7 .mov [tt 15]])
(.seq
(.seq
(RR [0, 5, 6, 17] [gI 16 .mov [tt 7], gI 17 (.pure (.un .not)) [tt 16]])
(.cond (.t 17 false)
(.seq
(RR [2, 3, 4] [gI 18 .mov [tt 0], gI 2 .mov [.c (AV.str [])], gI 3 .mov [tt 18], gI 4 .mov [.c (AV.bool true)]])
(.ret [2, 3, 4]))
.skip))
(.seq
(RR [5, 6, 8, 9] [gI 20 .mov [tt 5], gI 21 (.call 90) [tt 20], gI 19 .mov [tt 21], gI 22 (.pure (.extract 0)) [tt 19], gI 23 (.pure (.extract 1)) [tt 19], gI 8 .mov [tt 22], gI 9 .mov [tt 23]])
(.seq
(RR [2, 3, 4] [gI 24 .mov [tt 5], gI 25 .mov [tt 6], gI 26 .mov [tt 8], gI 27 (.pure (.bin .neq)) [tt 26, .c (AV.str [])], gI 28 .mov [tt 27], .sub [(⟨some 29, .mov, [tt 9], some (28, true)⟩, .any),
    (⟨some 30, .pure (.bin .eql), [tt 29, .c (AV.str [])], some (28, true)⟩, .any),
    (⟨some 31, .pure .pick, [tt 28, tt 30, .c (AV.bool false)], none⟩, .any)] 31, gI 32 .mov [tt 31], .sub [(⟨some 33, .mov, [tt 8], some (32, true)⟩, .any),
    (⟨some 34, .pure .lenS, [tt 33], some (32, true)⟩, .any),
    (⟨some 35, .pure (.bin .lss), [tt 34, ti 10], some (32, true)⟩, .any),
    (⟨some 36, .pure .pick, [tt 32, tt 35, .c (AV.bool false)], none⟩, .any)] 36, gI 2 .mov [tt 24], gI 3 .mov [tt 25], gI 4 .mov [tt 36]])
(.ret [2, 3, 4])))))),
 [.tmp 2 false, .tmp 3 false, .tmp 4 false], false⟩
def a81 : Ann := mkAnn [] [] false [] [] [(0, [0]), (1, [0, 5, 6, 7]), (2, [0, 5, 6, 17]), (3, [2, 3, 4]), (4, [5, 6, 8, 9]), (5, [2, 3, 4])] [] [] [] [] [2, 3, 4] [false, false, false] [(5, [(5, none), (3, some 31), (1, none), (4, some 36)])] [] []
set_option maxRecDepth 100000 in
theorem c81 : convFn Try.prog a81 81 = some r81 := by kernel_rfl

/-- strings.LastIndexByte -/
def r82 : RFunc := ⟨8,
(.seq
(RR [0, 1] [gI 4 .mov [ti 0]])
(.seq
(RR [4] [gI 5 .mov [tt 0], gI 6 .mov [tt 1], gI 7 (.call 93) [tt 5, tt 6], gI 4 .mov [tt 7]])
(.ret [4]))),
 [.tmp 4 false], false⟩
def a82 : Ann := mkAnn [] [] false [] [] [(0, [0, 1]), (1, [4])] [] [] [] [] [4] [false] [] [] []
set_option maxRecDepth 100000 in
theorem c82 : convFn Try.prog a82 82 = some r82 := by kernel_rfl

/-- drayage/version.made -/
def l83_2 : RCode :=
(.seq
(.seq
(RR [0, 1, 5, 9] [gI 6 .mov [tt 5], gI 7 .mov [tt 0], gI 8 (.pure .lenS) [tt 7], gI 9 (.pure (.bin .lss)) [tt 6, tt 8]])
(.cond (.t 9 false)
.skip
(.exit 0 [0])))
(.seq
(.block 1
(.seq
(RR [0, 1, 5, 31] [gI 12 .mov [tt 0], gI 13 .mov [tt 5], gI 14 (.pure .idxStr) [tt 12, tt 13], gI 15 (.call 84) [tt 14], gI 16 (.pure (.un .not)) [tt 15], gI 17 .mov [tt 16], .sub [(⟨some 18, .mov, [tt 0], some (17, true)⟩, .any),
    (⟨some 19, .mov, [tt 5], some (17, true)⟩, .any),
    (⟨some 20, .pure .idxStr, [tt 18, tt 19], some (17, true)⟩, .any),
    (⟨some 21, .call 96, [tt 20], some (17, true)⟩, .any),
    (⟨some 22, .pure (.un .not), [tt 21], some (17, true)⟩, .any),
    (⟨some 23, .pure .pick, [tt 17, tt 22, .c (AV.bool false)], none⟩, .any)] 23, gI 24 .mov [tt 23], .sub [(⟨some 25, .mov, [tt 1], some (24, true)⟩, .any),
    (⟨some 26, .mov, [tt 0], some (24, true)⟩, .any),
    (⟨some 27, .mov, [tt 5], some (24, true)⟩, .any),
    (⟨some 28, .pure .idxStr, [tt 26, tt 27], some (24, true)⟩, .any),
    (⟨some 29, .call 37, [tt 25, tt 28], some (24, true)⟩, .any),
    (⟨some 30, .pure (.bin .lss), [tt 29, ti 0], some (24, true)⟩, .any),
    (⟨some 31, .pure .pick, [tt 24, tt 30, .c (AV.bool false)], none⟩, .any)] 31])
(.cond (.t 31 false)
(.seq
(RR [4] [gI 4 .mov [.c (AV.bool false)]])
(.ret [4]))
.skip)))
(RR [0, 1, 5] [gI 10 .mov [tt 5], gI 11 (.pure (.bin .add)) [tt 10, ti 1], gI 5 .mov [tt 11]])))
def r83 : RFunc := ⟨34,
(.seq
(RR [0, 1] [gI 4 .mov [.c (AV.bool false)]])
(.seq
(.seq
(RR [0, 1, 5] [gI 5 .mov [ti 0]])
(.block 0
(.loop 2 [0, 1, 5] l83_2)))
(.seq
(RR [4] [gI 32 .mov [tt 0], gI 33 (.pure (.bin .neq)) [tt 32, .c (AV.str [])], gI 4 .mov [tt 33]])
(.ret [4])))),
 [.tmp 4 false], false⟩
def a83 : Ann := mkAnn [] [(2, [0, 1, 5])] false [] [] [(0, [0, 1]), (1, [0, 1, 5]), (2, [0, 1, 5, 9]), (3, [0, 1, 5]), (4, [0, 1, 5, 31]), (5, [4]), (6, [4])] [] [] [] [(0, [0]), (1, [0, 1, 5])] [4] [false] [(4, [(6, none), (6, some 23), (1, none), (7, some 31)])] [] []
set_option maxRecDepth 100000 in
theorem c83 : convFn Try.prog a83 83 = some r83 := by kernel_rfl

/-- drayage/version.digit -/
def r84 : RFunc := ⟨9,
(.seq
(RR [0] [gI 2 .mov [.c (AV.bool false)]])
(.seq
(RR [2] [gI 3 .mov [tt 0], gI 4 (.pure (.bin .geq)) [tt 3, .c (AV.int .u8 48)], gI 5 .mov [tt 4], .sub [(⟨some 6, .mov, [tt 0], some (5, true)⟩, .any),
    (⟨some 7, .pure (.bin .leq), [tt 6, .c (AV.int .u8 57)], some (5, true)⟩, .any),
    (⟨some 8, .pure .pick, [tt 5, tt 7, .c (AV.bool false)], none⟩, .any)] 8, gI 2 .mov [tt 8]])
(.ret [2]))),
 [.tmp 2 false], false⟩
def a84 : Ann := mkAnn [] [] false [] [] [(0, [0]), (1, [2])] [] [] [] [] [2] [false] [(1, [(3, none), (3, some 8)])] [] []
set_option maxRecDepth 100000 in
theorem c84 : convFn Try.prog a84 84 = some r84 := by kernel_rfl

/-- drayage/version.number -/
def l90_2 : RCode :=
(.seq
(.seq
(RR [0, 4, 14] [gI 5 .mov [tt 4], gI 6 .mov [tt 0], gI 7 (.pure .lenS) [tt 6], gI 8 (.pure (.bin .lss)) [tt 5, tt 7], gI 9 .mov [tt 8], .sub [(⟨some 10, .mov, [tt 0], some (9, true)⟩, .any),
    (⟨some 11, .mov, [tt 4], some (9, true)⟩, .any),
    (⟨some 12, .pure .idxStr, [tt 10, tt 11], some (9, true)⟩, .any),
    (⟨some 13, .call 84, [tt 12], some (9, true)⟩, .any),
    (⟨some 14, .pure .pick, [tt 9, tt 13, .c (AV.bool false)], none⟩, .any)] 14])
(.cond (.t 14 false)
.skip
(.exit 0 [0, 4])))
(.block 1
(RR [0, 4] [gI 15 .mov [tt 4], gI 16 (.pure (.bin .add)) [tt 15, ti 1], gI 4 .mov [tt 16]])))
def r90 : RFunc := ⟨23,
(.seq
(RR [0] [gI 2 .mov [.c (AV.str [])], gI 3 .mov [.c (AV.str [])]])
(.seq
(RR [0, 4] [gI 4 .mov [ti 0]])
(.seq
(.block 0
(.loop 2 [0, 4] l90_2))
(.seq
(.region (some ([], [])) [2, 3] [gI 17 .mov [tt 0], gI 18 .mov [tt 4], gI 19 (.pure (.sliceStr false true)) [tt 17, tt 18], gI 20 .mov [tt 0], gI 21 .mov [tt 4], gI 22 (.pure (.sliceStr true false)) [tt 20, tt 21], gI 2 .mov [tt 19], gI 3 .mov [tt 22]])
(.ret [2, 3]))))),
 [.tmp 2 false, .tmp 3 false], false⟩
def a90 : Ann := mkAnn [] [(2, [0, 4])] false [(4, [])] [] [(0, [0]), (1, [0, 4]), (2, [0, 4, 14]), (3, [0, 4]), (4, [2, 3])] [] [] [] [(0, [0, 4]), (1, [0, 4])] [2, 3] [false, false] [(2, [(5, none), (5, some 14)])] [] []
set_option maxRecDepth 100000 in
theorem c90 : convFn Try.prog a90 90 = some r90 := by kernel_rfl

/-- drayage/version.begins -/
def r91 : RFunc := ⟨13,
(.seq
(RR [0, 1] [gI 4 .mov [.c (AV.bool false)]])
(.seq
(RR [4] [gI 5 .mov [tt 0], gI 6 (.pure (.bin .neq)) [tt 5, .c (AV.str [])], gI 7 .mov [tt 6], .sub [(⟨some 8, .mov, [tt 0], some (7, true)⟩, .any),
    (⟨some 9, .pure .idxStr, [tt 8, ti 0], some (7, true)⟩, .any),
    (⟨some 10, .mov, [tt 1], some (7, true)⟩, .any),
    (⟨some 11, .pure (.bin .eql), [tt 9, tt 10], some (7, true)⟩, .any),
    (⟨some 12, .pure .pick, [tt 7, tt 11, .c (AV.bool false)], none⟩, .any)] 12, gI 4 .mov [tt 12]])
(.ret [4]))),
 [.tmp 4 false], false⟩
def a91 : Ann := mkAnn [] [] false [] [] [(0, [0, 1]), (1, [4])] [] [] [] [] [4] [false] [(1, [(3, none), (5, some 12)])] [] []
set_option maxRecDepth 100000 in
theorem c91 : convFn Try.prog a91 91 = some r91 := by kernel_rfl

/-- drayage/version.word -/
def l92_2 : RCode :=
(.seq
(.seq
(RR [0, 4, 14] [gI 5 .mov [tt 4], gI 6 .mov [tt 0], gI 7 (.pure .lenS) [tt 6], gI 8 (.pure (.bin .lss)) [tt 5, tt 7], gI 9 .mov [tt 8], .sub [(⟨some 10, .mov, [tt 0], some (9, true)⟩, .any),
    (⟨some 11, .mov, [tt 4], some (9, true)⟩, .any),
    (⟨some 12, .pure .idxStr, [tt 10, tt 11], some (9, true)⟩, .any),
    (⟨some 13, .call 96, [tt 12], some (9, true)⟩, .any),
    (⟨some 14, .pure .pick, [tt 9, tt 13, .c (AV.bool false)], none⟩, .any)] 14])
(.cond (.t 14 false)
.skip
(.exit 0 [0, 4])))
(.block 1
(RR [0, 4] [gI 15 .mov [tt 4], gI 16 (.pure (.bin .add)) [tt 15, ti 1], gI 4 .mov [tt 16]])))
def r92 : RFunc := ⟨23,
(.seq
(RR [0] [gI 2 .mov [.c (AV.str [])], gI 3 .mov [.c (AV.str [])]])
(.seq
(RR [0, 4] [gI 4 .mov [ti 0]])
(.seq
(.block 0
(.loop 2 [0, 4] l92_2))
(.seq
(.region (some ([], [])) [2, 3] [gI 17 .mov [tt 0], gI 18 .mov [tt 4], gI 19 (.pure (.sliceStr false true)) [tt 17, tt 18], gI 20 .mov [tt 0], gI 21 .mov [tt 4], gI 22 (.pure (.sliceStr true false)) [tt 20, tt 21], gI 2 .mov [tt 19], gI 3 .mov [tt 22]])
(.ret [2, 3]))))),
 [.tmp 2 false, .tmp 3 false], false⟩
def a92 : Ann := mkAnn [] [(2, [0, 4])] false [(4, [])] [] [(0, [0]), (1, [0, 4]), (2, [0, 4, 14]), (3, [0, 4]), (4, [2, 3])] [] [] [] [(0, [0, 4]), (1, [0, 4])] [2, 3] [false, false] [(2, [(5, none), (5, some 14)])] [] []
set_option maxRecDepth 100000 in
theorem c92 : convFn Try.prog a92 92 = some r92 := by kernel_rfl

/-- internal/bytealg.LastIndexByteString -/
def l93_2 : RCode :=
(.seq
(.seq
(RR [0, 1, 5, 10] [gI 9 .mov [tt 5], gI 10 (.pure (.bin .geq)) [tt 9, ti 0]])
(.cond (.t 10 false)
.skip
(.exit 0 [])))
(.seq
(.block 1
(.seq
(RR [0, 1, 5, 17] [gI 13 .mov [tt 0], gI 14 .mov [tt 5], gI 15 (.pure .idxStr) [tt 13, tt 14], gI 16 .mov [tt 1], gI 17 (.pure (.bin .eql)) [tt 15, tt 16]])
(.cond (.t 17 false)
(.seq
(RR [4] [gI 18 .mov [tt 5], gI 4 .mov [tt 18]])
(.ret [4]))
.skip)))
(RR [0, 1, 5] [gI 11 .mov [tt 5], gI 12 (.pure (.bin .sub)) [tt 11, ti 1], gI 5 .mov [tt 12]])))
def r93 : RFunc := ⟨19,
(.seq
(RR [0, 1] [gI 4 .mov [ti 0]])
(.seq
(.seq
(RR [0, 1, 5] [gI 6 .mov [tt 0], gI 7 (.pure .lenS) [tt 6], gI 8 (.pure (.bin .sub)) [tt 7, ti 1], gI 5 .mov [tt 8]])
(.block 0
(.loop 2 [0, 1, 5] l93_2)))
(.seq
(RR [4] [gI 4 .mov [ti (-1)]])
(.ret [4])))),
 [.tmp 4 false], false⟩
def a93 : Ann := mkAnn [] [(2, [0, 1, 5])] false [] [] [(0, [0, 1]), (1, [0, 1, 5]), (2, [0, 1, 5, 10]), (3, [0, 1, 5]), (4, [0, 1, 5, 17]), (5, [4]), (6, [4])] [] [] [] [(0, []), (1, [0, 1, 5])] [4] [false] [] [] []
set_option maxRecDepth 100000 in
theorem c93 : convFn Try.prog a93 93 = some r93 := by kernel_rfl

/-- internal/bytealg.LastIndexRabinKarp[string] -/
def l94_12 : RCode :=
(.seq
(.seq
(RR [0, 1, 5, 6, 7, 9, 11, 52] [gI 51 .mov [tt 11], gI 52 (.pure (.bin .geq)) [tt 51, ti 0]])
(.cond (.t 52 false)
.skip
(.exit 2 [])))
(.seq
(.block 3
(.seq
(RR [0, 1, 5, 6, 7, 9, 11] [gI 55 .mov [tt 9], gI 56 (.pure (.bin .mul)) [tt 55, .c (AV.int .u32 16777619)], gI 9 .mov [tt 56]])
(.seq
(RR [0, 1, 5, 6, 7, 9, 11] [gI 57 .mov [tt 9], gI 58 .mov [tt 0], gI 59 .mov [tt 11], gI 60 (.pure .idxStr) [tt 58, tt 59], gI 61 (.pure (.cvInt .u32)) [tt 60], gI 62 (.pure (.bin .add)) [tt 57, tt 61], gI 9 .mov [tt 62]])
(.seq
(RR [0, 1, 5, 6, 7, 9, 11] [gI 63 .mov [tt 9], gI 64 .mov [tt 6], gI 65 .mov [tt 0], gI 66 .mov [tt 11], gI 67 .mov [tt 7], gI 68 (.pure (.bin .add)) [tt 66, tt 67], gI 69 (.pure .idxStr) [tt 65, tt 68], gI 70 (.pure (.cvInt .u32)) [tt 69], gI 71 (.pure (.bin .mul)) [tt 64, tt 70], gI 72 (.pure (.bin .sub)) [tt 63, tt 71], gI 9 .mov [tt 72]])
(.seq
(RR [0, 1, 5, 6, 7, 9, 11, 85] [gI 73 .mov [tt 9], gI 74 .mov [tt 5], gI 75 (.pure (.bin .eql)) [tt 73, tt 74], gI 76 .mov [tt 75], .sub [(⟨some 77, .mov, [tt 0], some (76, true)⟩, .any),
    (⟨some 78, .mov, [tt 11], some (76, true)⟩, .any),
    (⟨some 79, .mov, [tt 11], some (76, true)⟩, .any),
    (⟨some 80, .mov, [tt 7], some (76, true)⟩, .any),
    (⟨some 81, .pure (.bin .add), [tt 79, tt 80], some (76, true)⟩, .any),
    (⟨some 82, .pure (.sliceStr true true), [tt 77, tt 78, tt 81], some (76, true)⟩, .any),
    (⟨some 83, .mov, [tt 1], some (76, true)⟩, .any),
    (⟨some 84, .pure (.bin .eql), [tt 82, tt 83], some (76, true)⟩, .any),
    (⟨some 85, .pure .pick, [tt 76, tt 84, .c (AV.bool false)], none⟩, .any)] 85])
(.cond (.t 85 false)
(.seq
(RR [4] [gI 86 .mov [tt 11], gI 4 .mov [tt 86]])
(.ret [4]))
.skip))))))
(RR [0, 1, 5, 6, 7, 9, 11] [gI 53 .mov [tt 11], gI 54 (.pure (.bin .sub)) [tt 53, ti 1], gI 11 .mov [tt 54]])))
def l94_6 : RCode :=
(.seq
(.seq
(RR [0, 1, 5, 6, 7, 8, 9, 10, 28] [gI 26 .mov [tt 10], gI 27 .mov [tt 8], gI 28 (.pure (.bin .geq)) [tt 26, tt 27]])
(.cond (.t 28 false)
.skip
(.exit 0 [0, 1, 5, 6, 7, 8, 9])))
(.seq
(.block 1
(RR [0, 1, 5, 6, 7, 8, 9, 10] [gI 31 .mov [tt 9], gI 32 (.pure (.bin .mul)) [tt 31, .c (AV.int .u32 16777619)], gI 33 .mov [tt 0], gI 34 .mov [tt 10], gI 35 (.pure .idxStr) [tt 33, tt 34], gI 36 (.pure (.cvInt .u32)) [tt 35], gI 37 (.pure (.bin .add)) [tt 32, tt 36], gI 9 .mov [tt 37]]))
(RR [0, 1, 5, 6, 7, 8, 9, 10] [gI 29 .mov [tt 10], gI 30 (.pure (.bin .sub)) [tt 29, ti 1], gI 10 .mov [tt 30]])))
def r94 : RFunc := ⟨87,
(.seq
(RR [0, 1] [gI 4 .mov [ti 0]])
(.seq
(RR [0, 1, 5, 6] [gI 13 .mov [tt 1], gI 14 (.call 102) [tt 13], gI 12 .mov [tt 14], gI 15 (.pure (.extract 0)) [tt 12], gI 16 (.pure (.extract 1)) [tt 12], gI 5 .mov [tt 15], gI 6 .mov [tt 16]])
(.seq
(RR [0, 1, 5, 6, 7] [gI 17 .mov [tt 1], gI 18 (.pure .lenS) [tt 17], gI 7 .mov [tt 18]])
(.seq
(RR [0, 1, 5, 6, 7, 8] [gI 19 .mov [tt 0], gI 20 (.pure .lenS) [tt 19], gI 21 .mov [tt 7], gI 22 (.pure (.bin .sub)) [tt 20, tt 21], gI 8 .mov [tt 22]])
(.seq
(RR [0, 1, 5, 6, 7, 8, 9] [gI 9 .mov [.c (AV.int .u32 0)]])
(.seq
(.seq
(RR [0, 1, 5, 6, 7, 8, 9, 10] [gI 23 .mov [tt 0], gI 24 (.pure .lenS) [tt 23], gI 25 (.pure (.bin .sub)) [tt 24, ti 1], gI 10 .mov [tt 25]])
(.block 0
(.loop 6 [0, 1, 5, 6, 7, 8, 9, 10] l94_6)))
(.seq
(.seq
(RR [0, 1, 5, 6, 7, 8, 9, 47] [gI 38 .mov [tt 9], gI 39 .mov [tt 5], gI 40 (.pure (.bin .eql)) [tt 38, tt 39], gI 41 .mov [tt 40], .sub [(⟨some 42, .mov, [tt 0], some (41, true)⟩, .any),
    (⟨some 43, .mov, [tt 8], some (41, true)⟩, .any),
    (⟨some 44, .pure (.sliceStr true false), [tt 42, tt 43], some (41, true)⟩, .any),
    (⟨some 45, .mov, [tt 1], some (41, true)⟩, .any),
    (⟨some 46, .pure (.bin .eql), [tt 44, tt 45], some (41, true)⟩, .any),
    (⟨some 47, .pure .pick, [tt 41, tt 46, .c (AV.bool false)], none⟩, .any)] 47])
(.cond (.t 47 false)
(.seq
(RR [4] [gI 48 .mov [tt 8], gI 4 .mov [tt 48]])
(.ret [4]))
.skip))
(.seq
(.seq
(RR [0, 1, 5, 6, 7, 9, 11] [gI 49 .mov [tt 8], gI 50 (.pure (.bin .sub)) [tt 49, ti 1], gI 11 .mov [tt 50]])
(.block 2
(.loop 12 [0, 1, 5, 6, 7, 9, 11] l94_12)))
(.seq
(RR [4] [gI 4 .mov [ti (-1)]])
(.ret [4])))))))))),
 [.tmp 4 false], false⟩
def a94 : Ann := mkAnn [] [(6, [0, 1, 5, 6, 7, 8, 9, 10]), (12, [0, 1, 5, 6, 7, 9, 11])] false [] [] [(0, [0, 1]), (1, [0, 1, 5, 6]), (2, [0, 1, 5, 6, 7]), (3, [0, 1, 5, 6, 7, 8]), (4, [0, 1, 5, 6, 7, 8, 9]), (5, [0, 1, 5, 6, 7, 8, 9, 10]), (6, [0, 1, 5, 6, 7, 8, 9, 10, 28]), (7, [0, 1, 5, 6, 7, 8, 9, 10]), (8, [0, 1, 5, 6, 7, 8, 9, 10]), (9, [0, 1, 5, 6, 7, 8, 9, 47]), (10, [4]), (11, [0, 1, 5, 6, 7, 9, 11]), (12, [0, 1, 5, 6, 7, 9, 11, 52]), (13, [0, 1, 5, 6, 7, 9, 11]), (14, [0, 1, 5, 6, 7, 9, 11]), (15, [0, 1, 5, 6, 7, 9, 11]), (16, [0, 1, 5, 6, 7, 9, 11]), (17, [0, 1, 5, 6, 7, 9, 11, 85]), (18, [4]), (19, [4])] [] [] [] [(0, [0, 1, 5, 6, 7, 8, 9]), (1, [0, 1, 5, 6, 7, 8, 9, 10]), (2, []), (3, [0, 1, 5, 6, 7, 9, 11])] [4] [false] [(9, [(4, none), (6, some 47)]), (17, [(4, none), (9, some 85)])] [] []
set_option maxRecDepth 100000 in
theorem c94 : convFn Try.prog a94 94 = some r94 := by kernel_rfl

/-- strings.Cut -/
def r95 : RFunc := ⟨13,
(.seq
(RR [0, 1] [gI 4 .mov [.c (AV.str [])], gI 5 .mov [.c (AV.str [])], gI 6 .mov [.c (AV.bool false)]])
(.seq
(RR [4, 5, 6] [gI 7 .mov [tt 0], gI 8 .mov [tt 1], gI 9 (.call 103) [tt 7, tt 8], gI 10 (.pure (.extract 0)) [tt 9], gI 11 (.pure (.extract 1)) [tt 9], gI 12 (.pure (.extract 2)) [tt 9], gI 4 .mov [tt 10], gI 5 .mov [tt 11], gI 6 .mov [tt 12]])
(.ret [4, 5, 6]))),
 [.tmp 4 false, .tmp 5 false, .tmp 6 false], false⟩
def a95 : Ann := mkAnn [] [] false [] [] [(0, [0, 1]), (1, [4, 5, 6])] [] [] [] [] [4, 5, 6] [false, false, false] [] [] []
set_option maxRecDepth 100000 in
theorem c95 : convFn Try.prog a95 95 = some r95 := by kernel_rfl

/-- drayage/version.letter -/
def r96 : RFunc := ⟨17,
(.seq
(RR [0] [gI 2 .mov [.c (AV.bool false)]])
(.seq
(RR [2] [gI 3 .mov [tt 0], gI 4 (.pure (.bin .geq)) [tt 3, .c (AV.int .u8 97)], gI 5 .mov [tt 4], .sub [(⟨some 6, .mov, [tt 0], some (5, true)⟩, .any),
    (⟨some 7, .pure (.bin .leq), [tt 6, .c (AV.int .u8 122)], some (5, true)⟩, .any),
    (⟨some 8, .pure .pick, [tt 5, tt 7, .c (AV.bool false)], none⟩, .any)] 8, gI 9 .mov [tt 8], .sub [(⟨some 10, .mov, [tt 0], some (9, false)⟩, .any),
    (⟨some 11, .pure (.bin .geq), [tt 10, .c (AV.int .u8 65)], some (9, false)⟩, .any),
    (⟨some 12, .mov, [tt 11], some (9, false)⟩, .any),
    (⟨some 13, .mov, [tt 0], some (12, true)⟩, .any),
    (⟨some 14, .pure (.bin .leq), [tt 13, .c (AV.int .u8 90)], some (12, true)⟩, .any),
    (⟨some 15, .pure .pick, [tt 12, tt 14, .c (AV.bool false)], some (9, false)⟩, .any),
    (⟨some 16, .pure .pick, [tt 9, .c (AV.bool true), tt 15], none⟩, .any)] 16, gI 2 .mov [tt 16]])
(.ret [2]))),
 [.tmp 2 false], false⟩
def a96 : Ann := mkAnn [] [] false [] [] [(0, [0]), (1, [2])] [] [] [] [] [2] [false] [(1, [(3, none), (3, some 8), (1, none), (7, some 16)])] [] []
set_option maxRecDepth 100000 in
theorem c96 : convFn Try.prog a96 96 = some r96 := by kernel_rfl

/-- internal/bytealg.hashStrRev[string] -/
def l102_8 : RCode :=
(.seq
(.seq
(RR [4, 6, 7, 8, 26] [gI 25 .mov [tt 8], gI 26 (.pure (.bin .gtr)) [tt 25, ti 0]])
(.cond (.t 26 false)
.skip
(.exit 2 [4, 6])))
(.seq
(.block 3
(.seq
(.seq
(RR [4, 6, 7, 8, 31] [gI 29 .mov [tt 8], gI 30 (.pure (.bin .and)) [tt 29, ti 1], gI 31 (.pure (.bin .neq)) [tt 30, ti 0]])
(.cond (.t 31 false)
(RR [4, 6, 7, 8] [gI 32 .mov [tt 6], gI 33 .mov [tt 7], gI 34 (.pure (.bin .mul)) [tt 32, tt 33], gI 6 .mov [tt 34]])
.skip))
(RR [4, 6, 7, 8] [gI 35 .mov [tt 7], gI 36 .mov [tt 7], gI 37 (.pure (.bin .mul)) [tt 35, tt 36], gI 7 .mov [tt 37]])))
(RR [4, 6, 7, 8] [gI 27 .mov [tt 8], gI 28 (.pure (.bin .shr)) [tt 27, .c (AV.int .u64 1)], gI 8 .mov [tt 28]])))
def l102_3 : RCode :=
(.seq
(.seq
(RR [0, 4, 5, 13] [gI 12 .mov [tt 5], gI 13 (.pure (.bin .geq)) [tt 12, ti 0]])
(.cond (.t 13 false)
.skip
(.exit 0 [0, 4])))
(.seq
(.block 1
(RR [0, 4, 5] [gI 16 .mov [tt 4], gI 17 (.pure (.bin .mul)) [tt 16, .c (AV.int .u32 16777619)], gI 18 .mov [tt 0], gI 19 .mov [tt 5], gI 20 (.pure .idxStr) [tt 18, tt 19], gI 21 (.pure (.cvInt .u32)) [tt 20], gI 22 (.pure (.bin .add)) [tt 17, tt 21], gI 4 .mov [tt 22]]))
(RR [0, 4, 5] [gI 14 .mov [tt 5], gI 15 (.pure (.bin .sub)) [tt 14, ti 1], gI 5 .mov [tt 15]])))
def r102 : RFunc := ⟨40,
(.seq
(RR [0] [gI 2 .mov [.c (AV.int .u32 0)], gI 3 .mov [.c (AV.int .u32 0)]])
(.seq
(RR [0, 4] [gI 4 .mov [.c (AV.int .u32 0)]])
(.seq
(.seq
(RR [0, 4, 5] [gI 9 .mov [tt 0], gI 10 (.pure .lenS) [tt 9], gI 11 (.pure (.bin .sub)) [tt 10, ti 1], gI 5 .mov [tt 11]])
(.block 0
(.loop 3 [0, 4, 5] l102_3)))
(.seq
(RR [0, 4, 6, 7] [gI 6 .mov [.c (AV.int .u32 1)], gI 7 .mov [.c (AV.int .u32 16777619)]])
(.seq
(.seq
(RR [4, 6, 7, 8] [gI 23 .mov [tt 0], gI 24 (.pure .lenS) [tt 23], gI 8 .mov [tt 24]])
(.block 2
(.loop 8 [4, 6, 7, 8] l102_8)))
(.seq
(RR [2, 3] [gI 38 .mov [tt 4], gI 39 .mov [tt 6], gI 2 .mov [tt 38], gI 3 .mov [tt 39]])
(.ret [2, 3]))))))),
 [.tmp 2 false, .tmp 3 false], false⟩
def a102 : Ann := mkAnn [] [(3, [0, 4, 5]), (8, [4, 6, 7, 8])] false [] [] [(0, [0]), (1, [0, 4]), (2, [0, 4, 5]), (3, [0, 4, 5, 13]), (4, [0, 4, 5]), (5, [0, 4, 5]), (6, [0, 4, 6, 7]), (7, [4, 6, 7, 8]), (8, [4, 6, 7, 8, 26]), (9, [4, 6, 7, 8]), (10, [4, 6, 7, 8, 31]), (11, [4, 6, 7, 8]), (12, [4, 6, 7, 8]), (13, [2, 3])] [] [] [] [(0, [0, 4]), (1, [0, 4, 5]), (2, [4, 6]), (3, [4, 6, 7, 8])] [2, 3] [false, false] [] [] []
set_option maxRecDepth 100000 in
theorem c102 : convFn Try.prog a102 102 = some r102 := by kernel_rfl

/-- internal/stringslite.Cut -/
def r103 : RFunc := ⟨23,
(.seq
(RR [0, 1] [gI 4 .mov [.c (AV.str [])], gI 5 .mov [.c (AV.str [])], gI 6 .mov [.c (AV.bool false)]])
(.seq
(.seq
(RR [0, 1, 7] [gI 8 .mov [tt 0], gI 9 .mov [tt 1], gI 10 (.call 104) [tt 8, tt 9], gI 7 .mov [tt 10]])
(.seq
(RR [0, 1, 7, 12] [gI 11 .mov [tt 7], gI 12 (.pure (.bin .geq)) [tt 11, ti 0]])
(.cond (.t 12 false)
(.seq
(.region (some ([], [])) [4, 5, 6] [gI 13 .mov [tt 0], gI 14 .mov [tt 7], gI 15 (.pure (.sliceStr false true)) [tt 13, tt 14], gI 16 .mov [tt 0], gI 17 .mov [tt 7], gI 18 .mov [tt 1], gI 19 (.pure .lenS) [tt 18], gI 20 (.pure (.bin .add)) [tt 17, tt 19], gI 21 (.pure (.sliceStr true false)) [tt 16, tt 20], gI 4 .mov [tt 15], gI 5 .mov [tt 21], gI 6 .mov [.c (AV.bool true)]])
(.ret [4, 5, 6]))
.skip)))
(.seq
(RR [4, 5, 6] [gI 22 .mov [tt 0], gI 4 .mov [tt 22], gI 5 .mov [.c (AV.str [])], gI 6 .mov [.c (AV.bool false)]])
(.ret [4, 5, 6])))),
 [.tmp 4 false, .tmp 5 false, .tmp 6 false], false⟩
def a103 : Ann := mkAnn [] [] false [(3, [])] [] [(0, [0, 1]), (1, [0, 1, 7]), (2, [0, 1, 7, 12]), (3, [4, 5, 6]), (4, [4, 5, 6])] [] [] [] [] [4, 5, 6] [false, false, false] [] [] []
set_option maxRecDepth 100000 in
theorem c103 : convFn Try.prog a103 103 = some r103 := by kernel_rfl

/-- internal/stringslite.Index -/
def k104_21 : RCode :=
(.seq
(.seq
(RR [0, 1, 5, 6, 7, 8, 9, 10, 93] [gI 78 .mov [tt 0], gI 79 .mov [tt 8], gI 80 (.pure (.bin .add)) [tt 79, ti 1], gI 81 (.pure .idxStr) [tt 78, tt 80], gI 82 .mov [tt 7], gI 83 (.pure (.bin .eql)) [tt 81, tt 82], gI 84 .mov [tt 83], .sub [(⟨some 85, .mov, [tt 0], some (84, true)⟩, .any),
    (⟨some 86, .mov, [tt 8], some (84, true)⟩, .any),
    (⟨some 87, .mov, [tt 8], some (84, true)⟩, .any),
    (⟨some 88, .mov, [tt 5], some (84, true)⟩, .any),
    (⟨some 89, .pure (.bin .add), [tt 87, tt 88], some (84, true)⟩, .any),
    (⟨some 90, .pure (.sliceStr true true), [tt 85, tt 86, tt 89], some (84, true)⟩, .any),
    (⟨some 91, .mov, [tt 1], some (84, true)⟩, .any),
    (⟨some 92, .pure (.bin .eql), [tt 90, tt 91], some (84, true)⟩, .any),
    (⟨some 93, .pure .pick, [tt 84, tt 92, .c (AV.bool false)], none⟩, .any)] 93])
(.cond (.t 93 false)
(.seq
(RR [4] [gI 94 .mov [tt 8], gI 4 .mov [tt 94]])
(.ret [4]))
.skip))
(.seq
(RR [0, 1, 5, 6, 7, 8, 9, 10] [gI 95 .mov [tt 8], gI 96 (.pure (.bin .add)) [tt 95, ti 1], gI 8 .mov [tt 96]])
(.seq
(RR [0, 1, 5, 6, 7, 8, 9, 10] [gI 97 .mov [tt 10], gI 98 (.pure (.bin .add)) [tt 97, ti 1], gI 10 .mov [tt 98]])
(.seq
(RR [0, 1, 5, 6, 7, 8, 9, 10, 107] [gI 99 .mov [tt 5], gI 100 .bad [], gI 101 (.pure (.bin .leq)) [tt 99, tt 100], gI 102 .mov [tt 101], .sub [(⟨some 103, .mov, [tt 10], some (102, true)⟩, .any),
    (⟨some 104, .mov, [tt 8], some (102, true)⟩, .any),
    (⟨some 105, .call 106, [tt 104], some (102, true)⟩, .any),
    (⟨some 106, .pure (.bin .gtr), [tt 103, tt 105], some (102, true)⟩, .any),
    (⟨some 107, .pure .pick, [tt 102, tt 106, .c (AV.bool false)], none⟩, .any)] 107])
(.cond (.t 107 false)
(.seq
(RR [8, 12] [gI 108 .mov [tt 0], gI 109 .mov [tt 8], gI 110 (.pure (.sliceStr true false)) [tt 108, tt 109], gI 111 .mov [tt 1], gI 112 (.call 105) [tt 110, tt 111], gI 12 .mov [tt 112]])
(.seq
(.seq
(RR [8, 12, 114] [gI 113 .mov [tt 12], gI 114 (.pure (.bin .geq)) [tt 113, ti 0]])
(.cond (.t 114 false)
(.seq
(RR [4] [gI 115 .mov [tt 12], gI 116 .mov [tt 8], gI 117 (.pure (.bin .add)) [tt 115, tt 116], gI 4 .mov [tt 117]])
(.ret [4]))
.skip))
(.seq
(RR [4] [gI 4 .mov [ti (-1)]])
(.ret [4]))))
(.seq
(RR [0, 1, 5, 6, 7, 8, 9, 10, 132] [gI 118 .mov [tt 5], gI 119 .bad [], gI 120 (.pure (.bin .gtr)) [tt 118, tt 119], gI 121 .mov [tt 120], .sub [(⟨some 122, .mov, [tt 10], some (121, true)⟩, .any),
    (⟨some 123, .mov, [tt 8], some (121, true)⟩, .any),
    (⟨some 124, .pure (.bin .shr), [tt 123, .c (AV.int .u64 4)], some (121, true)⟩, .any),
    (⟨some 125, .pure (.bin .add), [ti 4, tt 124], some (121, true)⟩, .any),
    (⟨some 126, .pure (.bin .geq), [tt 122, tt 125], some (121, true)⟩, .any),
    (⟨some 127, .pure .pick, [tt 121, tt 126, .c (AV.bool false)], none⟩, .any)] 127, gI 128 .mov [tt 127], .sub [(⟨some 129, .mov, [tt 8], some (128, true)⟩, .any),
    (⟨some 130, .mov, [tt 9], some (128, true)⟩, .any),
    (⟨some 131, .pure (.bin .lss), [tt 129, tt 130], some (128, true)⟩, .any),
    (⟨some 132, .pure .pick, [tt 128, tt 131, .c (AV.bool false)], none⟩, .any)] 132])
(.cond (.t 132 false)
(.seq
(RR [8, 13] [gI 133 .mov [tt 0], gI 134 .mov [tt 8], gI 135 (.pure (.sliceStr true false)) [tt 133, tt 134], gI 136 .mov [tt 1], gI 137 (.call 107) [tt 135, tt 136], gI 13 .mov [tt 137]])
(.seq
(.seq
(RR [8, 13, 139] [gI 138 .mov [tt 13], gI 139 (.pure (.bin .lss)) [tt 138, ti 0]])
(.cond (.t 139 false)
(.seq
(RR [4] [gI 4 .mov [ti (-1)]])
(.ret [4]))
.skip))
(.seq
(RR [4] [gI 140 .mov [tt 8], gI 141 .mov [tt 13], gI 142 (.pure (.bin .add)) [tt 140, tt 141], gI 4 .mov [tt 142]])
(.ret [4]))))
.skip)))))))
def l104_15 : RCode :=
(.seq
(.seq
(RR [0, 1, 5, 6, 7, 8, 9, 10, 59] [gI 57 .mov [tt 8], gI 58 .mov [tt 9], gI 59 (.pure (.bin .lss)) [tt 57, tt 58]])
(.cond (.t 59 false)
.skip
(.exit 1 [])))
(.block 2
(.seq
(.seq
(RR [0, 1, 5, 6, 7, 8, 9, 10, 64] [gI 60 .mov [tt 0], gI 61 .mov [tt 8], gI 62 (.pure .idxStr) [tt 60, tt 61], gI 63 .mov [tt 6], gI 64 (.pure (.bin .neq)) [tt 62, tt 63]])
(.cond (.t 64 false)
(.seq
(RR [0, 1, 5, 6, 7, 8, 9, 10, 11] [gI 65 .mov [tt 0], gI 66 .mov [tt 8], gI 67 (.pure (.bin .add)) [tt 66, ti 1], gI 68 .mov [tt 9], gI 69 (.pure (.sliceStr true true)) [tt 65, tt 67, tt 68], gI 70 .mov [tt 6], gI 71 (.call 60) [tt 69, tt 70], gI 11 .mov [tt 71]])
(.seq
(.seq
(RR [0, 1, 5, 6, 7, 8, 9, 10, 11, 73] [gI 72 .mov [tt 11], gI 73 (.pure (.bin .lss)) [tt 72, ti 0]])
(.cond (.t 73 false)
(.seq
(RR [4] [gI 4 .mov [ti (-1)]])
(.ret [4]))
.skip))
(RR [0, 1, 5, 6, 7, 8, 9, 10] [gI 74 .mov [tt 8], gI 75 .mov [tt 11], gI 76 (.pure (.bin .add)) [tt 75, ti 1], gI 77 (.pure (.bin .add)) [tt 74, tt 76], gI 8 .mov [tt 77]])))
.skip))
(.cut 100021 [0, 1, 5, 6, 7, 8, 9, 10] [0, 1, 5, 6, 7, 8, 9, 10] k104_21))))
def r104 : RFunc := ⟨143,
(.seq
(RR [0, 1] [gI 4 .mov [ti 0]])
(.seq
(RR [0, 1, 5] [gI 14 .mov [tt 1], gI 15 (.pure .lenS) [tt 14], gI 5 .mov [tt 15]])
(.seq
(.block 0
(.seq
(RR [0, 1, 5, 16] [gI 17 .mov [tt 5], gI 18 (.pure (.bin .eql)) [tt 17, ti 0], gI 19 .mov [tt 18], .sub [(⟨some 20, .mov, [tt 1], some (19, false)⟩, .any),
    (⟨some 21, .mov, [tt 0], some (19, false)⟩, .any),
    (⟨some 22, .pure (.bin .eql), [tt 20, tt 21], some (19, false)⟩, .any),
    (⟨some 23, .pure .pick, [tt 19, .c (AV.bool true), tt 22], none⟩, .any)] 23, gI 16 .mov [tt 23]])
(.cond (.t 16 false)
(.seq
(RR [4] [gI 4 .mov [ti 0]])
(.ret [4]))
(.seq
(RR [0, 1, 5, 24] [gI 25 .mov [tt 5], gI 26 (.pure (.bin .eql)) [tt 25, ti 1], gI 24 .mov [tt 26]])
(.cond (.t 24 false)
(.seq
(RR [4] [gI 27 .mov [tt 0], gI 28 .mov [tt 1], gI 29 (.pure .idxStr) [tt 28, ti 0], gI 30 (.call 60) [tt 27, tt 29], gI 4 .mov [tt 30]])
(.ret [4]))
(.seq
(RR [0, 1, 5, 31] [gI 32 .mov [tt 5], gI 33 .mov [tt 0], gI 34 (.pure .lenS) [tt 33], gI 35 (.pure (.bin .geq)) [tt 32, tt 34], gI 31 .mov [tt 35]])
(.cond (.t 31 false)
(.seq
(RR [4] [gI 4 .mov [ti (-1)]])
(.ret [4]))
(.seq
(RR [0, 1, 5, 36] [gI 37 .mov [tt 5], gI 38 .bad [], gI 39 (.pure (.bin .leq)) [tt 37, tt 38], gI 40 .mov [tt 39], .sub [(⟨some 41, .mov, [tt 0], some (40, true)⟩, .any),
    (⟨some 42, .pure .lenS, [tt 41], some (40, true)⟩, .any),
    (⟨some 43, .pure (.bin .leq), [tt 42, ti 64], some (40, true)⟩, .any),
    (⟨some 44, .pure .pick, [tt 40, tt 43, .c (AV.bool false)], none⟩, .any)] 44, gI 36 .mov [tt 44]])
(.cond (.t 36 false)
(.seq
(RR [4] [gI 45 .mov [tt 0], gI 46 .mov [tt 1], gI 47 (.call 105) [tt 45, tt 46], gI 4 .mov [tt 47]])
(.ret [4]))
.skip)))))))))
(.seq
(RR [0, 1, 5, 6] [gI 48 .mov [tt 1], gI 49 (.pure .idxStr) [tt 48, ti 0], gI 6 .mov [tt 49]])
(.seq
(RR [0, 1, 5, 6, 7] [gI 50 .mov [tt 1], gI 51 (.pure .idxStr) [tt 50, ti 1], gI 7 .mov [tt 51]])
(.seq
(RR [0, 1, 5, 6, 7, 8] [gI 8 .mov [ti 0]])
(.seq
(RR [0, 1, 5, 6, 7, 8, 9] [gI 52 .mov [tt 0], gI 53 (.pure .lenS) [tt 52], gI 54 .mov [tt 5], gI 55 (.pure (.bin .sub)) [tt 53, tt 54], gI 56 (.pure (.bin .add)) [tt 55, ti 1], gI 9 .mov [tt 56]])
(.seq
(RR [0, 1, 5, 6, 7, 8, 9, 10] [gI 10 .mov [ti 0]])
(.seq
(.block 1
(.loop 15 [0, 1, 5, 6, 7, 8, 9, 10] l104_15))
(.seq
(RR [4] [gI 4 .mov [ti (-1)]])
(.ret [4]))))))))))),
 [.tmp 4 false], false⟩
def a104 : Ann := mkAnn [] [(15, [0, 1, 5, 6, 7, 8, 9, 10])] false [] [] [(0, [0, 1]), (1, [0, 1, 5]), (2, [0, 1, 5, 16]), (3, [4]), (4, [0, 1, 5, 24]), (5, [4]), (6, [0, 1, 5, 31]), (7, [4]), (8, [0, 1, 5, 36]), (9, [4]), (10, [0, 1, 5, 6]), (11, [0, 1, 5, 6, 7]), (12, [0, 1, 5, 6, 7, 8]), (13, [0, 1, 5, 6, 7, 8, 9]), (14, [0, 1, 5, 6, 7, 8, 9, 10]), (15, [0, 1, 5, 6, 7, 8, 9, 10, 59]), (16, [0, 1, 5, 6, 7, 8, 9, 10, 64]), (17, [0, 1, 5, 6, 7, 8, 9, 10, 11]), (18, [0, 1, 5, 6, 7, 8, 9, 10, 11, 73]), (19, [4]), (20, [0, 1, 5, 6, 7, 8, 9, 10]), (21, [0, 1, 5, 6, 7, 8, 9, 10, 93]), (22, [4]), (23, [0, 1, 5, 6, 7, 8, 9, 10]), (24, [0, 1, 5, 6, 7, 8, 9, 10]), (25, [0, 1, 5, 6, 7, 8, 9, 10, 107]), (26, [8, 12]), (27, [8, 12, 114]), (28, [4]), (29, [4]), (30, [0, 1, 5, 6, 7, 8, 9, 10, 132]), (31, [8, 13]), (32, [8, 13, 139]), (33, [4]), (34, [4]), (35, [4])] [] [] [(21, [0, 1, 5, 6, 7, 8, 9, 10], [0, 1, 5, 6, 7, 8, 9, 10])] [(0, [0, 1, 5]), (1, []), (2, [0, 1, 5, 6, 7, 8, 9, 10])] [4] [false] [(2, [(3, none), (4, some 23)]), (8, [(4, none), (4, some 44)]), (21, [(7, none), (9, some 93)]), (25, [(4, none), (5, some 107)]), (30, [(4, none), (6, some 127), (1, none), (4, some 132)])] [] []
set_option maxRecDepth 100000 in
theorem c104 : convFn Try.prog a104 104 = some r104 := by kernel_rfl

end Go.Proofs.Ytomaefbhcpmbiaa
