/- The functions' code, checked against the program's. -/
import Derived.Test.YtomaefbhcpmbiaaEl
import Derived.Test.YtomaefbhcpmbiaaChecked
import Derived.KernelRfl
set_option linter.unusedVariables false
set_option maxRecDepth 100000
namespace Go.Proofs.Ytomaefbhcpmbiaa
open Go Go.Eng Go.Proofs

/-- drayage/drayagelaw15.RdepParses -/
def r3 : RFunc := ⟨30,
 (.seq
 (.region none [0] [
   .one ⟨some 2, .mov, [.c (AV.bool false)], none⟩ .any])
 (.seq
 (.seq
 (.region none [0, 8] [
   .one ⟨some 7, .call 6, [], none⟩ .any,
   .one ⟨some 8, .pure (.un .not), [.t 7 false], none⟩ .any])
 (.cond (.t 8 false)
  (.seq
  (.region none [2] [
    .one ⟨some 2, .mov, [.c (AV.bool false)], none⟩ .any])
  (.ret [2]))
  .skip))
 (.seq
 (.seq
 (.region none [0, 11] [
   .one ⟨some 9, .mov, [.t 0 false], none⟩ .any,
   .one ⟨some 10, .pure .lenS, [.t 9 false], none⟩ .any,
   .one ⟨some 11, .pure (.bin .gtr), [.t 10 false, .c (AV.int .i64 4000)], none⟩ .any])
 (.cond (.t 11 false)
  (.seq
  (.region none [2] [
    .one ⟨some 2, .mov, [.c (AV.bool true)], none⟩ .any])
  (.ret [2]))
  .skip))
 (.seq
 (.region none [0, 3, 4] [
   .one ⟨some 13, .mov, [.t 0 false], none⟩ .any,
   .one ⟨some 14, .call 7, [.t 13 false], none⟩ .any,
   .one ⟨some 12, .mov, [.t 14 false], none⟩ .any,
   .one ⟨some 15, .pure (.extract 0), [.t 12 false], none⟩ .any,
   .one ⟨some 16, .pure (.extract 1), [.t 12 false], none⟩ .any,
   .one ⟨some 3, .new 5, [.c (AV.agg [AV.str [], AV.str [], AV.int .i64 0, AV.str [], AV.sl false 5 []])], none⟩ .any,
   .one ⟨some 4, .new 3, [.c (AV.agg [AV.str [], AV.int .i64 0, AV.int .i64 0])], none⟩ .any,
   .one ⟨none, .store 5, [.t 3 false, .t 15 false], none⟩ .any,
   .one ⟨none, .store 3, [.t 4 false, .t 16 false], none⟩ .any])
 (.seq
 (.region none [3, 4, 5, 6] [
   .one ⟨some 18, .mov, [.t 0 false], none⟩ .any,
   .one ⟨some 19, .call 8, [.t 18 false], none⟩ .any,
   .one ⟨some 17, .mov, [.t 19 false], none⟩ .any,
   .one ⟨some 20, .pure (.extract 0), [.t 17 false], none⟩ .any,
   .one ⟨some 21, .pure (.extract 1), [.t 17 false], none⟩ .any,
   .one ⟨some 5, .new 5, [.c (AV.agg [AV.str [], AV.str [], AV.int .i64 0, AV.str [], AV.sl false 5 []])], none⟩ .any,
   .one ⟨some 6, .new 3, [.c (AV.agg [AV.str [], AV.int .i64 0, AV.int .i64 0])], none⟩ .any,
   .one ⟨none, .store 5, [.t 5 false, .t 20 false], none⟩ .any,
   .one ⟨none, .store 3, [.t 6 false, .t 21 false], none⟩ .any])
 (.seq
 (.region none [2] [
   .one ⟨some 22, .load 5 true false, [.t 3 false], none⟩ .any,
   .one ⟨some 23, .load 5 true false, [.t 5 false], none⟩ .any,
   .one ⟨some 24, .call 9, [.t 22 false, .t 23 false], none⟩ .any,
   .one ⟨some 25, .mov, [.t 24 false], none⟩ .any,
   .sub [(⟨some 26, .load 3 true false, [.t 4 false], some (25, true)⟩, .any),
     (⟨some 27, .load 3 true false, [.t 6 false], some (25, true)⟩, .any),
     (⟨some 28, .pure (.eqS false [.s, .i, .i]), [.t 26 false, .t 27 false], some (25, true)⟩, .any),
     (⟨some 29, .pure .pick, [.t 25 false, .t 28 false, .c (AV.bool false)], none⟩, .any)] 29,
   .one ⟨some 2, .mov, [.t 29 false], none⟩ .any])
 (.ret [2]))))))),
 [.tmp 2 false], false⟩
def a3 : Ann := mkAnn [] [] false [] [] [(0, [0]), (1, [0, 8]), (2, [2]), (3, [0, 11]), (4, [2]), (5, [0, 3, 4]), (6, [3, 4, 5, 6]), (7, [2])] [] [(5, 5, [0, 0, 0, 0, 10]), (6, 5, [0, 0, 0, 0, 10])] [] [] [2] [false] [(7, [(4, none), (4, some 29)])] [] []
set_option maxRecDepth 100000 in
theorem c3 : convFn Try.prog a3 3 = some r3 := by kernel_rfl

/-- drayage/drayagelaw15.awake -/
def r6 : RFunc := ⟨44,
 (.seq
 (.region none [] [
   .one ⟨some 0, .mov, [.c (AV.bool false)], none⟩ .any])
 (.seq
 (.region none [1, 2] [
   .one ⟨some 8, .call 7, [.c (AV.str [40, 97, 32, 62, 61, 32, 49, 45, 49, 32, 111, 114, 32, 40, 32, 98, 32, 97, 110, 100, 32, 99, 32, 41, 41])], none⟩ .any,
   .one ⟨some 7, .mov, [.t 8 false], none⟩ .any,
   .one ⟨some 9, .pure (.extract 0), [.t 7 false], none⟩ .any,
   .one ⟨some 10, .pure (.extract 1), [.t 7 false], none⟩ .any,
   .one ⟨some 1, .new 5, [.c (AV.agg [AV.str [], AV.str [], AV.int .i64 0, AV.str [], AV.sl false 5 []])], none⟩ .any,
   .one ⟨some 2, .new 3, [.c (AV.agg [AV.str [], AV.int .i64 0, AV.int .i64 0])], none⟩ .any,
   .one ⟨none, .store 5, [.t 1 false, .t 9 false], none⟩ .any,
   .one ⟨none, .store 3, [.t 2 false, .t 10 false], none⟩ .any])
 (.seq
 (.region none [1, 2, 3, 4] [
   .one ⟨some 12, .load 5 true false, [.t 1 false], none⟩ .any,
   .one ⟨some 13, .call 11, [.t 12 false], none⟩ .any,
   .one ⟨some 11, .mov, [.t 13 false], none⟩ .any,
   .one ⟨some 14, .pure (.extract 0), [.t 11 false], none⟩ .any,
   .one ⟨some 15, .pure (.extract 1), [.t 11 false], none⟩ .any,
   .one ⟨some 3, .mov, [.t 14 false], none⟩ .any,
   .one ⟨some 4, .mov, [.t 15 false], none⟩ .any])
 (.seq
 (.region none [1, 2, 3, 4, 6] [
   .one ⟨some 17, .call 7, [.c (AV.str [40, 97, 32, 97, 110, 100, 32, 98, 32, 111, 114, 32, 99, 41])], none⟩ .any,
   .one ⟨some 16, .mov, [.t 17 false], none⟩ .any,
   .one ⟨some 18, .pure (.extract 0), [.t 16 false], none⟩ .any,
   .one ⟨some 19, .pure (.extract 1), [.t 16 false], none⟩ .any,
   .one ⟨some 5, .new 5, [.c (AV.agg [AV.str [], AV.str [], AV.int .i64 0, AV.str [], AV.sl false 5 []])], none⟩ .any,
   .one ⟨some 6, .new 3, [.c (AV.agg [AV.str [], AV.int .i64 0, AV.int .i64 0])], none⟩ .any,
   .one ⟨none, .store 5, [.t 5 false, .t 18 false], none⟩ .any,
   .one ⟨none, .store 3, [.t 6 false, .t 19 false], none⟩ .any])
 (.seq
 (.region none [0] [
   .one ⟨some 20, .load 3 true false, [.t 2 false], none⟩ .any,
   .one ⟨some 21, .build [AV.str [], AV.int .i64 0, AV.int .i64 0] [], [], none⟩ .any,
   .one ⟨some 22, .pure (.eqS false [.s, .i, .i]), [.t 20 false, .t 21 false], none⟩ .any,
   .one ⟨some 23, .mov, [.t 22 false], none⟩ .any,
   .sub [(⟨some 24, .mov, [.t 4 false], some (23, true)⟩, .any),
     (⟨some 25, .pure (.bin .eql), [.t 24 false, .c (AV.int .i64 0)], some (23, true)⟩, .any),
     (⟨some 26, .pure .pick, [.t 23 false, .t 25 false, .c (AV.bool false)], none⟩, .any)] 26,
   .one ⟨some 27, .mov, [.t 26 false], none⟩ .any,
   .sub [(⟨some 28, .mov, [.t 3 false], some (27, true)⟩, .any),
     (⟨some 29, .pure (.bin .eql), [.t 28 false, .c (AV.str [40, 97, 32, 62, 61, 32, 49, 45, 49, 32, 111, 114, 32, 40, 98, 32, 97, 110, 100, 32, 99, 41, 41])], some (27, true)⟩, .any),
     (⟨some 30, .pure .pick, [.t 27 false, .t 29 false, .c (AV.bool false)], none⟩, .any)] 30,
   .one ⟨some 31, .mov, [.t 30 false], none⟩ .any,
   .sub [(⟨some 32, .load 5 true false, [.t 1 false], some (31, true)⟩, .any),
     (⟨some 33, .call 18, [.t 32 false], some (31, true)⟩, .any),
     (⟨some 34, .pure (.bin .eql), [.t 33 false, .c (AV.int .i64 2)], some (31, true)⟩, .any),
     (⟨some 35, .pure .pick, [.t 31 false, .t 34 false, .c (AV.bool false)], none⟩, .any)] 35,
   .one ⟨some 36, .mov, [.t 35 false], none⟩ .any,
   .sub [(⟨some 37, .load 3 true false, [.t 6 false], some (36, true)⟩, .any),
     (⟨some 38, .build [AV.str [], AV.int .i64 0, AV.int .i64 0] [(1, 1), (2, 1)], [.c (AV.int .i64 9), .c (AV.int .i64 3)], some (36, true)⟩, .any),
     (⟨some 39, .pure (.eqS false [.s, .i, .i]), [.t 37 false, .t 38 false], some (36, true)⟩, .any),
     (⟨some 40, .pure .pick, [.t 36 false, .t 39 false, .c (AV.bool false)], none⟩, .any)] 40,
   .one ⟨some 41, .mov, [.t 40 false], none⟩ .any,
   .sub [(⟨some 42, .call 19, [.c (AV.str [112, 101, 114, 108, 40, 88, 41])], some (41, true)⟩, .any),
     (⟨some 43, .pure .pick, [.t 41 false, .t 42 false, .c (AV.bool false)], none⟩, .any)] 43,
   .one ⟨some 0, .mov, [.t 43 false], none⟩ .any])
 (.ret [0])))))),
 [.tmp 0 false], false⟩
def a6 : Ann := mkAnn [] [] false [] [] [(0, []), (1, [1, 2]), (2, [1, 2, 3, 4]), (3, [1, 2, 3, 4, 6]), (4, [0])] [] [(1, 4, [0, 0, 0, 0, 10]), (3, 4, [0, 0, 0, 0, 10])] [] [] [0] [false] [(4, [(4, none), (3, some 26), (1, none), (3, some 30), (1, none), (4, some 35), (1, none), (4, some 40), (1, none), (2, some 43)])] [] []
set_option maxRecDepth 100000 in
theorem c6 : convFn Try.prog a6 6 = some r6 := by kernel_rfl

/-- drayage/rdep.Parse -/
def k7_7 : RCode :=
 (.seq
 (.seq
 (.region none [2, 3, 4, 6, 28] [
   .one ⟨some 23, .mov, [.t 4 false], none⟩ .any,
   .one ⟨some 24, .pure .nilck, [.t 23 false], none⟩ .any,
   .one ⟨some 25, .pure (.faddr 2), [.t 24 false], none⟩ .any,
   .one ⟨some 26, .pure (.faddr 2), [.t 25 false], none⟩ .any,
   .one ⟨some 27, .load 1 false false, [.t 26 false], none⟩ .any,
   .one ⟨some 28, .pure (.bin .neq), [.t 27 false, .c (AV.int .i64 0)], none⟩ .any])
 (.cond (.t 28 false)
  (.seq
  (.region (some ([5, 6], [(5, [4])])) [2, 3] [
    .one ⟨some 29, .build [AV.str [], AV.str [], AV.int .i64 0, AV.str [], AV.sl false 5 []] [], [], none⟩ .any,
    .one ⟨some 30, .mov, [.t 4 false], none⟩ .any,
    .one ⟨some 31, .pure .nilck, [.t 30 false], none⟩ .any,
    .one ⟨some 32, .pure (.faddr 2), [.t 31 false], none⟩ .any,
    .one ⟨some 33, .load 3 true false, [.t 32 false], none⟩ .any,
    .one ⟨none, .store 5, [.t 2 false, .t 29 false], none⟩ .any,
    .one ⟨none, .store 3, [.t 3 false, .t 33 false], none⟩ .any])
  (.ret [2, 3]))
  .skip))
 (.seq
 (.region none [2, 3] [
   .one ⟨some 34, .load 5 true false, [.t 6 false], none⟩ .any,
   .one ⟨some 35, .build [AV.str [], AV.int .i64 0, AV.int .i64 0] [], [], none⟩ .any,
   .one ⟨none, .store 5, [.t 2 false, .t 34 false], none⟩ .any,
   .one ⟨none, .store 3, [.t 3 false, .t 35 false], none⟩ .any])
 (.ret [2, 3])))
def r7 : RFunc := ⟨36,
 (.seq
 (.region none [0, 2, 3] [
   .one ⟨some 2, .new 5, [.c (AV.agg [AV.str [], AV.str [], AV.int .i64 0, AV.str [], AV.sl false 5 []])], none⟩ .any,
   .one ⟨some 3, .new 3, [.c (AV.agg [AV.str [], AV.int .i64 0, AV.int .i64 0])], none⟩ .any])
 (.seq
 (.region none [2, 3, 4] [
   .one ⟨some 8, .mov, [.t 0 false], none⟩ .any,
   .one ⟨some 9, .call 20, [.t 8 false], none⟩ .any,
   .one ⟨some 10, .build [AV.sl false 2 [], AV.int .i64 0, AV.str [], AV.int .i64 0, AV.int .i64 0] [(0, 1)], [.t 9 false], none⟩ .any,
   .one ⟨some 11, .new 5, [.t 10 false], none⟩ .any,
   .one ⟨some 4, .mov, [.t 11 false], none⟩ .any])
 (.seq
 (.region none [2, 3, 4, 5] [
   .one ⟨some 5, .new 1, [.c (AV.int .i64 0)], none⟩ .any,
   .one ⟨none, .store 1, [.t 5 false, .c (AV.int .i64 0)], none⟩ .any])
 (.seq
 (.region none [2, 3, 4, 6] [
   .one ⟨some 12, .mov, [.t 4 false], none⟩ .any,
   .one ⟨some 13, .call 21, [.t 12 false, .c (AV.int .i64 0), .t 5 false], none⟩ .any,
   .one ⟨some 6, .new 5, [.c (AV.agg [AV.str [], AV.str [], AV.int .i64 0, AV.str [], AV.sl false 5 []])], none⟩ .any,
   .one ⟨none, .store 5, [.t 6 false, .t 13 false], none⟩ .any])
 (.seq
 (.seq
 (.region none [2, 3, 4, 6, 7] [
   .one ⟨some 14, .mov, [.t 4 false], none⟩ .any,
   .one ⟨some 15, .call 22, [.t 14 false], none⟩ .any,
   .one ⟨some 7, .new 2, [.c (AV.agg [AV.str [], AV.int .i64 0])], none⟩ .any,
   .one ⟨none, .store 2, [.t 7 false, .t 15 false], none⟩ .any])
 (.seq
 (.region none [2, 3, 4, 6, 7, 18] [
   .one ⟨some 16, .pure (.faddr 0), [.t 7 false], none⟩ .any,
   .one ⟨some 17, .load 1 false false, [.t 16 false], none⟩ .any,
   .one ⟨some 18, .pure (.bin .neq), [.t 17 false, .c (AV.str [])], none⟩ .any])
 (.cond (.t 18 false)
  (.region none [2, 3, 4, 6] [
    .one ⟨some 19, .mov, [.t 4 false], none⟩ .any,
    .one ⟨some 20, .pure (.faddr 1), [.t 7 false], none⟩ .any,
    .one ⟨some 21, .load 1 false false, [.t 20 false], none⟩ .any,
    .one ⟨some 22, .call 23, [.t 19 false, .t 21 false, .c (AV.int .i64 3)], none⟩ .any])
  .skip)))
 (.cut 100007 [2, 3, 4, 6] [2, 3] k7_7)))))),
 [.cell 2 5 true, .cell 3 3 true], false⟩
def a7 : Ann := mkAnn [] [] false [(8, [5, 6])] [(8, [(5, [4])])] [(0, [0, 2, 3]), (1, [2, 3, 4]), (2, [2, 3, 4, 5]), (3, [2, 3, 4, 6]), (4, [2, 3, 4, 6, 7]), (5, [2, 3, 4, 6, 7, 18]), (6, [2, 3, 4, 6]), (7, [2, 3, 4, 6, 28]), (8, [2, 3]), (9, [2, 3])] [] [(0, 0, [0, 0, 0, 0, 10]), (1, 2, [4]), (3, 2, [0, 0, 0, 0, 10]), (8, 0, [0, 0, 0, 0, 10])] [(7, [2, 3, 4, 6], [2, 3])] [] [2, 3] [false, false] [] [] []
set_option maxRecDepth 100000 in
theorem c7 : convFn Try.prog a7 7 = some r7 := by kernel_rfl

/-- drayage/drayageref15.Parse -/
def r8 : RFunc := ⟨34,
 (.seq
 (.region none [0, 2, 3] [
   .one ⟨some 2, .new 5, [.c (AV.agg [AV.str [], AV.str [], AV.int .i64 0, AV.str [], AV.sl false 5 []])], none⟩ .any,
   .one ⟨some 3, .new 3, [.c (AV.agg [AV.str [], AV.int .i64 0, AV.int .i64 0])], none⟩ .any])
 (.seq
 (.region none [2, 3, 4] [
   .one ⟨some 6, .mov, [.t 0 false], none⟩ .any,
   .one ⟨some 7, .build [AV.str [], AV.int .i64 0, AV.str [], AV.int .i64 0, AV.int .i64 0, AV.int .i64 0] [(0, 1)], [.t 6 false], none⟩ .any,
   .one ⟨some 8, .new 6, [.t 7 false], none⟩ .any,
   .one ⟨some 4, .mov, [.t 8 false], none⟩ .any])
 (.seq
 (.region none [2, 3, 4, 5] [
   .one ⟨some 9, .mov, [.t 4 false], none⟩ .any,
   .one ⟨some 10, .call 24, [.t 9 false, .c (AV.int .i64 0)], none⟩ .any,
   .one ⟨some 5, .new 5, [.c (AV.agg [AV.str [], AV.str [], AV.int .i64 0, AV.str [], AV.sl false 5 []])], none⟩ .any,
   .one ⟨none, .store 5, [.t 5 false, .t 10 false], none⟩ .any])
 (.seq
 (.seq
 (.region none [2, 3, 4, 5, 16] [
   .one ⟨some 11, .mov, [.t 4 false], none⟩ .any,
   .one ⟨some 12, .pure .nilck, [.t 11 false], none⟩ .any,
   .one ⟨some 13, .pure (.faddr 2), [.t 12 false], none⟩ .any,
   .one ⟨some 14, .pure (.faddr 2), [.t 13 false], none⟩ .any,
   .one ⟨some 15, .load 1 false false, [.t 14 false], none⟩ .any,
   .one ⟨some 16, .pure (.bin .neq), [.t 15 false, .c (AV.int .i64 0)], none⟩ .any])
 (.cond (.t 16 false)
  (.seq
  (.region (some ([5, 6], [(5, [4])])) [2, 3] [
    .one ⟨some 17, .build [AV.str [], AV.str [], AV.int .i64 0, AV.str [], AV.sl false 5 []] [], [], none⟩ .any,
    .one ⟨some 18, .mov, [.t 4 false], none⟩ .any,
    .one ⟨some 19, .pure .nilck, [.t 18 false], none⟩ .any,
    .one ⟨some 20, .pure (.faddr 2), [.t 19 false], none⟩ .any,
    .one ⟨some 21, .load 3 true false, [.t 20 false], none⟩ .any,
    .one ⟨none, .store 5, [.t 2 false, .t 17 false], none⟩ .any,
    .one ⟨none, .store 3, [.t 3 false, .t 21 false], none⟩ .any])
  (.ret [2, 3]))
  .skip))
 (.seq
 (.seq
 (.region none [2, 3, 4, 5, 24] [
   .one ⟨some 22, .mov, [.t 4 false], none⟩ .any,
   .one ⟨some 23, .call 25, [.t 22 false], none⟩ .any,
   .one ⟨some 24, .pure (.bin .neq), [.t 23 false, .c (AV.str [])], none⟩ .any])
 (.cond (.t 24 false)
  (.seq
  (.region none [2, 3, 4] [
    .one ⟨some 25, .mov, [.t 4 false], none⟩ .any,
    .one ⟨some 26, .call 26, [.t 25 false, .c (AV.int .i64 3)], none⟩ .any])
  (.seq
  (.region (some ([5, 6], [(5, [4])])) [2, 3] [
    .one ⟨some 27, .build [AV.str [], AV.str [], AV.int .i64 0, AV.str [], AV.sl false 5 []] [], [], none⟩ .any,
    .one ⟨some 28, .mov, [.t 4 false], none⟩ .any,
    .one ⟨some 29, .pure .nilck, [.t 28 false], none⟩ .any,
    .one ⟨some 30, .pure (.faddr 2), [.t 29 false], none⟩ .any,
    .one ⟨some 31, .load 3 true false, [.t 30 false], none⟩ .any,
    .one ⟨none, .store 5, [.t 2 false, .t 27 false], none⟩ .any,
    .one ⟨none, .store 3, [.t 3 false, .t 31 false], none⟩ .any])
  (.ret [2, 3])))
  .skip))
 (.seq
 (.region none [2, 3] [
   .one ⟨some 32, .load 5 true false, [.t 5 false], none⟩ .any,
   .one ⟨some 33, .build [AV.str [], AV.int .i64 0, AV.int .i64 0] [], [], none⟩ .any,
   .one ⟨none, .store 5, [.t 2 false, .t 32 false], none⟩ .any,
   .one ⟨none, .store 3, [.t 3 false, .t 33 false], none⟩ .any])
 (.ret [2, 3]))))))),
 [.cell 2 5 true, .cell 3 3 true], false⟩
def a8 : Ann := mkAnn [] [] false [(4, [5, 6]), (7, [5, 6])] [(4, [(5, [4])]), (7, [(5, [4])])] [(0, [0, 2, 3]), (1, [2, 3, 4]), (2, [2, 3, 4, 5]), (3, [2, 3, 4, 5, 16]), (4, [2, 3]), (5, [2, 3, 4, 5, 24]), (6, [2, 3, 4]), (7, [2, 3]), (8, [2, 3])] [] [(0, 0, [0, 0, 0, 0, 10]), (2, 2, [0, 0, 0, 0, 10]), (4, 0, [0, 0, 0, 0, 10]), (7, 0, [0, 0, 0, 0, 10])] [] [] [2, 3] [false, false] [] [] []
set_option maxRecDepth 100000 in
theorem c8 : convFn Try.prog a8 8 = some r8 := by kernel_rfl

/-- drayage/drayageref15.Same -/
def l9_4 : RCode :=
 (.seq
 (.seq
 (.region none [2, 3, 5, 31] [
   .one ⟨some 27, .mov, [.t 5 false], none⟩ .any,
   .one ⟨some 28, .pure (.faddr 4), [.t 2 false], none⟩ .any,
   .one ⟨some 29, .load 1 false false, [.t 28 false], none⟩ .any,
   .one ⟨some 30, .pure .lenSl, [.t 29 false], none⟩ .any,
   .one ⟨some 31, .pure (.bin .lss), [.t 27 false, .t 30 false], none⟩ .any])
 (.cond (.t 31 false)
  .skip
  (.exit 0 [])))
 (.seq
 (.block 1
  (.seq
  (.region (some ([], [])) [2, 3, 5, 45] [
    .one ⟨some 34, .pure (.faddr 4), [.t 2 false], none⟩ .any,
    .one ⟨some 35, .load 1 false false, [.t 34 false], none⟩ .any,
    .one ⟨some 36, .mov, [.t 5 false], none⟩ .any,
    .one ⟨some 37, .pure (.iaddr 5), [.t 35 false, .t 36 false], none⟩ (.agg [.str, .str, (.int .i64), .str, (.sl false 5)]),
    .one ⟨some 38, .load 5 true false, [.t 37 false], none⟩ .any,
    .one ⟨some 39, .pure (.faddr 4), [.t 3 false], none⟩ .any,
    .one ⟨some 40, .load 1 false false, [.t 39 false], none⟩ .any,
    .one ⟨some 41, .mov, [.t 5 false], none⟩ .any,
    .one ⟨some 42, .pure (.iaddr 5), [.t 40 false, .t 41 false], none⟩ (.agg [.str, .str, (.int .i64), .str, (.sl false 5)]),
    .one ⟨some 43, .load 5 true false, [.t 42 false], none⟩ .any,
    .one ⟨some 44, .call 9, [.t 38 false, .t 43 false], none⟩ .any,
    .one ⟨some 45, .pure (.un .not), [.t 44 false], none⟩ .any])
  (.cond (.t 45 false)
   (.seq
   (.region none [4] [
     .one ⟨some 4, .mov, [.c (AV.bool false)], none⟩ .any])
   (.ret [4]))
   .skip)))
 (.region none [2, 3, 5] [
   .one ⟨some 32, .mov, [.t 5 false], none⟩ .any,
   .one ⟨some 33, .pure (.bin .add), [.t 32 false, .c (AV.int .i64 1)], none⟩ .any,
   .one ⟨some 5, .mov, [.t 33 false], none⟩ .any])))
def r9 : RFunc := ⟨46,
 (.seq
 (.region none [2, 3] [
   .one ⟨some 2, .new 5, [.t 0 false], none⟩ .any,
   .one ⟨some 3, .new 5, [.t 1 false], none⟩ .any,
   .one ⟨some 4, .mov, [.c (AV.bool false)], none⟩ .any])
 (.seq
 (.seq
 (.region none [2, 3, 26] [
   .one ⟨some 6, .pure (.faddr 0), [.t 2 false], none⟩ .any,
   .one ⟨some 7, .load 1 false false, [.t 6 false], none⟩ .any,
   .one ⟨some 8, .pure (.faddr 0), [.t 3 false], none⟩ .any,
   .one ⟨some 9, .load 1 false false, [.t 8 false], none⟩ .any,
   .one ⟨some 10, .pure (.bin .neq), [.t 7 false, .t 9 false], none⟩ .any,
   .one ⟨some 11, .mov, [.t 10 false], none⟩ .any,
   .sub [(⟨some 12, .pure (.faddr 1), [.t 2 false], some (11, false)⟩, .any),
     (⟨some 13, .load 3 true false, [.t 12 false], some (11, false)⟩, .any),
     (⟨some 14, .pure (.faddr 1), [.t 3 false], some (11, false)⟩, .any),
     (⟨some 15, .load 3 true false, [.t 14 false], some (11, false)⟩, .any),
     (⟨some 16, .pure (.eqS true [.s, .i, .s]), [.t 13 false, .t 15 false], some (11, false)⟩, .any),
     (⟨some 17, .pure .pick, [.t 11 false, .c (AV.bool true), .t 16 false], none⟩, .any)] 17,
   .one ⟨some 18, .mov, [.t 17 false], none⟩ .any,
   .sub [(⟨some 19, .pure (.faddr 4), [.t 2 false], some (18, false)⟩, .any),
     (⟨some 20, .load 1 false false, [.t 19 false], some (18, false)⟩, .any),
     (⟨some 21, .pure .lenSl, [.t 20 false], some (18, false)⟩, .any),
     (⟨some 22, .pure (.faddr 4), [.t 3 false], some (18, false)⟩, .any),
     (⟨some 23, .load 1 false false, [.t 22 false], some (18, false)⟩, .any),
     (⟨some 24, .pure .lenSl, [.t 23 false], some (18, false)⟩, .any),
     (⟨some 25, .pure (.bin .neq), [.t 21 false, .t 24 false], some (18, false)⟩, .any),
     (⟨some 26, .pure .pick, [.t 18 false, .c (AV.bool true), .t 25 false], none⟩, .any)] 26])
 (.cond (.t 26 false)
  (.seq
  (.region none [4] [
    .one ⟨some 4, .mov, [.c (AV.bool false)], none⟩ .any])
  (.ret [4]))
  .skip))
 (.seq
 (.seq
 (.region none [2, 3, 5] [
   .one ⟨some 5, .mov, [.c (AV.int .i64 0)], none⟩ .any])
 (.block 0
  (.loop 4 [2, 3, 5] l9_4)))
 (.seq
 (.region none [4] [
   .one ⟨some 4, .mov, [.c (AV.bool true)], none⟩ .any])
 (.ret [4]))))),
 [.tmp 4 false], false⟩
def a9 : Ann := mkAnn [] [(4, [2, 3, 5])] false [(6, [])] [] [(0, [2, 3]), (1, [2, 3, 26]), (2, [4]), (3, [2, 3, 5]), (4, [2, 3, 5, 31]), (5, [2, 3, 5]), (6, [2, 3, 5, 45]), (7, [4]), (8, [4])] [] [] [] [(0, []), (1, [2, 3, 5])] [4] [false] [(1, [(6, none), (6, some 17), (1, none), (8, some 26)])] [(6, 3, (.agg [.str, .str, (.int .i64), .str, (.sl false 5)])), (6, 8, (.agg [.str, .str, (.int .i64), .str, (.sl false 5)]))] []
set_option maxRecDepth 100000 in
theorem c9 : convFn Try.prog a9 9 = some r9 := by kernel_rfl

/-- drayage/rdep.Print -/
def r11 : RFunc := ⟨12,
 (.seq
 (.region none [1] [
   .one ⟨some 1, .new 5, [.t 0 false], none⟩ .any,
   .one ⟨some 2, .mov, [.c (AV.str [])], none⟩ .any,
   .one ⟨some 3, .mov, [.c (AV.int .i64 0)], none⟩ .any])
 (.seq
 (.seq
 (.region none [1, 4] [
   .one ⟨some 5, .load 5 true false, [.t 1 false], none⟩ .any,
   .one ⟨some 6, .call 12, [.t 5 false], none⟩ .any,
   .one ⟨some 4, .mov, [.t 6 false], none⟩ .any])
 (.seq
 (.region none [1, 4, 8] [
   .one ⟨some 7, .mov, [.t 4 false], none⟩ .any,
   .one ⟨some 8, .pure (.bin .neq), [.t 7 false, .c (AV.int .i64 0)], none⟩ .any])
 (.cond (.t 8 false)
  (.seq
  (.region none [2, 3] [
    .one ⟨some 9, .mov, [.t 4 false], none⟩ .any,
    .one ⟨some 2, .mov, [.c (AV.str [])], none⟩ .any,
    .one ⟨some 3, .mov, [.t 9 false], none⟩ .any])
  (.ret [2, 3]))
  .skip)))
 (.seq
 (.region none [2, 3] [
   .one ⟨some 10, .load 5 true false, [.t 1 false], none⟩ .any,
   .one ⟨some 11, .call 27, [.t 10 false], none⟩ .any,
   .one ⟨some 2, .mov, [.t 11 false], none⟩ .any,
   .one ⟨some 3, .mov, [.c (AV.int .i64 0)], none⟩ .any])
 (.ret [2, 3])))),
 [.tmp 2 false, .tmp 3 false], false⟩
def a11 : Ann := mkAnn [] [] false [] [] [(0, [1]), (1, [1, 4]), (2, [1, 4, 8]), (3, [2, 3]), (4, [2, 3])] [] [] [] [] [2, 3] [false, false] [] [] []
set_option maxRecDepth 100000 in
theorem c11 : convFn Try.prog a11 11 = some r11 := by kernel_rfl

/-- drayage/rdep.Check -/
def r12 : RFunc := ⟨13,
 (.seq
 (.region none [1] [
   .one ⟨some 1, .new 5, [.t 0 false], none⟩ .any,
   .one ⟨some 2, .mov, [.c (AV.int .i64 0)], none⟩ .any])
 (.seq
 (.seq
 (.region none [1, 10] [
   .one ⟨some 3, .load 5 true false, [.t 1 false], none⟩ .any,
   .one ⟨some 4, .call 18, [.t 3 false], none⟩ .any,
   .one ⟨some 5, .pure (.bin .gtr), [.t 4 false, .c (AV.int .i64 32)], none⟩ .any,
   .one ⟨some 6, .mov, [.t 5 false], none⟩ .any,
   .sub [(⟨some 7, .load 5 true false, [.t 1 false], some (6, false)⟩, .any),
     (⟨some 8, .call 28, [.t 7 false, .c (AV.int .i64 32)], some (6, false)⟩, .any),
     (⟨some 9, .pure (.bin .gtr), [.t 8 false, .c (AV.int .i64 64)], some (6, false)⟩, .any),
     (⟨some 10, .pure .pick, [.t 6 false, .c (AV.bool true), .t 9 false], none⟩, .any)] 10])
 (.cond (.t 10 false)
  (.seq
  (.region none [2] [
    .one ⟨some 2, .mov, [.c (AV.int .i64 4)], none⟩ .any])
  (.ret [2]))
  .skip))
 (.seq
 (.region none [2] [
   .one ⟨some 11, .load 5 true false, [.t 1 false], none⟩ .any,
   .one ⟨some 12, .call 29, [.t 11 false], none⟩ .any,
   .one ⟨some 2, .mov, [.t 12 false], none⟩ .any])
 (.ret [2])))),
 [.tmp 2 false], false⟩
def a12 : Ann := mkAnn [] [] false [] [] [(0, [1]), (1, [1, 10]), (2, [2]), (3, [2])] [] [] [] [] [2] [false] [(1, [(4, none), (4, some 10)])] [] []
set_option maxRecDepth 100000 in
theorem c12 : convFn Try.prog a12 12 = some r12 := by kernel_rfl

/-- drayage/rdep.Depth -/
def l18_3 : RCode :=
 (.frame
 (.seq
 (.region none [1, 3, 7, 8, 9, 10] [
   .one ⟨some 10, .pure (.bin .lss), [.t 9 false, .t 8 false], none⟩ .any])
 (.seq
 (.cond (.t 10 false)
  .skip
  (.exit 0 [1, 3]))
 (.seq
 (.block 1
  (.seq
  (.region none [1, 3, 5, 7, 8, 9] [
    .one ⟨some 11, .pure (.iaddr 5), [.t 7 false, .t 9 false], none⟩ (.agg [.str, .str, (.int .i64), .str, (.sl false 5)]),
    .one ⟨some 12, .load 5 true false, [.t 11 false], none⟩ .any,
    .one ⟨some 5, .new 5, [.c (AV.agg [AV.str [], AV.str [], AV.int .i64 0, AV.str [], AV.sl false 5 []])], none⟩ .any,
    .one ⟨none, .store 5, [.t 5 false, .t 12 false], none⟩ .any])
  (.region none [1, 3, 7, 8, 9] [
    .one ⟨some 13, .mov, [.t 3 false], none⟩ .any,
    .one ⟨some 14, .load 5 true false, [.t 5 false], none⟩ .any,
    .one ⟨some 15, .call 18, [.t 14 false], none⟩ .any,
    .one ⟨some 16, .pure (.bin .add), [.c (AV.int .i64 1), .t 15 false], none⟩ .any,
    .one ⟨some 17, .pure .maxI, [.t 13 false, .t 16 false], none⟩ .any,
    .one ⟨some 3, .mov, [.t 17 false], none⟩ .any])))
 (.region none [1, 3, 7, 8, 9] [
   .one ⟨some 18, .pure (.bin .add), [.t 9 false, .c (AV.int .i64 1)], none⟩ .any,
   .one ⟨some 9, .mov, [.t 18 false], none⟩ .any])))))
def r18 : RFunc := ⟨25,
 (.seq
 (.region none [1] [
   .one ⟨some 1, .new 5, [.t 0 false], none⟩ .any,
   .one ⟨some 2, .mov, [.c (AV.int .i64 0)], none⟩ .any])
 (.seq
 (.region none [1, 3] [
   .one ⟨some 3, .mov, [.c (AV.int .i64 0)], none⟩ .any])
 (.seq
 (.seq
 (.region none [1, 3, 7, 8, 9] [
   .one ⟨some 6, .pure (.faddr 4), [.t 1 false], none⟩ .any,
   .one ⟨some 7, .load 1 false false, [.t 6 false], none⟩ .any,
   .one ⟨some 8, .pure .lenSl, [.t 7 false], none⟩ .any,
   .one ⟨some 9, .mov, [.c (AV.int .i64 0)], none⟩ .any])
 (.block 0
  (.loop 3 [1, 3, 7, 8, 9] l18_3)))
 (.seq
 (.seq
 (.region none [3, 21] [
   .one ⟨some 19, .pure (.faddr 0), [.t 1 false], none⟩ .any,
   .one ⟨some 20, .load 1 false false, [.t 19 false], none⟩ .any,
   .one ⟨some 21, .pure (.bin .neq), [.t 20 false, .c (AV.str [])], none⟩ .any])
 (.cond (.t 21 false)
  (.region none [3] [
    .one ⟨some 22, .mov, [.t 3 false], none⟩ .any,
    .one ⟨some 23, .pure .maxI, [.t 22 false, .c (AV.int .i64 1)], none⟩ .any,
    .one ⟨some 3, .mov, [.t 23 false], none⟩ .any])
  .skip))
 (.seq
 (.region none [2] [
   .one ⟨some 24, .mov, [.t 3 false], none⟩ .any,
   .one ⟨some 2, .mov, [.t 24 false], none⟩ .any])
 (.ret [2])))))),
 [.tmp 2 false], false⟩
def a18 : Ann := mkAnn [] [(3, [1, 3, 7, 8, 9])] false [] [] [(0, [1]), (1, [1, 3]), (2, [1, 3, 7, 8, 9]), (3, [1, 3, 7, 8, 9, 10]), (4, [1, 3, 5, 7, 8, 9]), (5, [1, 3, 7, 8, 9]), (6, [1, 3, 7, 8, 9]), (7, [3, 21]), (8, [3]), (9, [2])] [] [(4, 2, [0, 0, 0, 0, 10])] [] [(0, [1, 3]), (1, [1, 3, 7, 8, 9])] [2] [false] [] [(4, 0, (.agg [.str, .str, (.int .i64), .str, (.sl false 5)]))] [3]
set_option maxRecDepth 100000 in
theorem c18 : convFn Try.prog a18 18 = some r18 := by kernel_rfl

/-- drayage/rdep.Name -/
def l19_3 : RCode :=
 (.seq
 (.seq
 (.region none [0, 3, 4, 10] [
   .one ⟨some 7, .mov, [.t 4 false], none⟩ .any,
   .one ⟨some 8, .mov, [.t 0 false], none⟩ .any,
   .one ⟨some 9, .pure .lenS, [.t 8 false], none⟩ .any,
   .one ⟨some 10, .pure (.bin .lss), [.t 7 false, .t 9 false], none⟩ .any])
 (.cond (.t 10 false)
  .skip
  (.exit 0 [0, 3])))
 (.seq
 (.block 1
  (.seq
  (.region none [0, 3, 4, 5] [
    .one ⟨some 13, .mov, [.t 0 false], none⟩ .any,
    .one ⟨some 14, .mov, [.t 4 false], none⟩ .any,
    .one ⟨some 15, .pure .idxStr, [.t 13 false, .t 14 false], none⟩ .any,
    .one ⟨some 5, .mov, [.t 15 false], none⟩ .any])
  (.seq
  (.region none [0, 3, 4, 5, 6] [
    .one ⟨some 16, .mov, [.t 5 false], none⟩ .any,
    .one ⟨some 17, .pure (.bin .geq), [.t 16 false, .c (AV.int .u8 97)], none⟩ .any,
    .one ⟨some 18, .mov, [.t 17 false], none⟩ .any,
    .sub [(⟨some 19, .mov, [.t 5 false], some (18, true)⟩, .any),
      (⟨some 20, .pure (.bin .leq), [.t 19 false, .c (AV.int .u8 122)], some (18, true)⟩, .any),
      (⟨some 21, .pure .pick, [.t 18 false, .t 20 false, .c (AV.bool false)], none⟩, .any)] 21,
    .one ⟨some 22, .mov, [.t 21 false], none⟩ .any,
    .sub [(⟨some 23, .mov, [.t 5 false], some (22, false)⟩, .any),
      (⟨some 24, .pure (.bin .geq), [.t 23 false, .c (AV.int .u8 65)], some (22, false)⟩, .any),
      (⟨some 25, .mov, [.t 24 false], some (22, false)⟩, .any),
      (⟨some 26, .mov, [.t 5 false], some (25, true)⟩, .any),
      (⟨some 27, .pure (.bin .leq), [.t 26 false, .c (AV.int .u8 90)], some (25, true)⟩, .any),
      (⟨some 28, .pure .pick, [.t 25 false, .t 27 false, .c (AV.bool false)], some (22, false)⟩, .any),
      (⟨some 29, .pure .pick, [.t 22 false, .c (AV.bool true), .t 28 false], none⟩, .any)] 29,
    .one ⟨some 30, .mov, [.t 29 false], none⟩ .any,
    .sub [(⟨some 31, .mov, [.t 5 false], some (30, false)⟩, .any),
      (⟨some 32, .pure (.bin .geq), [.t 31 false, .c (AV.int .u8 48)], some (30, false)⟩, .any),
      (⟨some 33, .mov, [.t 32 false], some (30, false)⟩, .any),
      (⟨some 34, .mov, [.t 5 false], some (33, true)⟩, .any),
      (⟨some 35, .pure (.bin .leq), [.t 34 false, .c (AV.int .u8 57)], some (33, true)⟩, .any),
      (⟨some 36, .pure .pick, [.t 33 false, .t 35 false, .c (AV.bool false)], some (30, false)⟩, .any),
      (⟨some 37, .pure .pick, [.t 30 false, .c (AV.bool true), .t 36 false], none⟩, .any)] 37,
    .one ⟨some 38, .mov, [.t 37 false], none⟩ .any,
    .sub [(⟨some 39, .mov, [.t 5 false], some (38, false)⟩, .any),
      (⟨some 40, .pure (.bin .eql), [.t 39 false, .c (AV.int .u8 47)], some (38, false)⟩, .any),
      (⟨some 41, .pure .pick, [.t 38 false, .c (AV.bool true), .t 40 false], none⟩, .any)] 41,
    .one ⟨some 6, .mov, [.t 41 false], none⟩ .any])
  (.block 2
   (.seq
   (.region none [0, 3, 4, 5, 6, 42] [
     .one ⟨some 43, .mov, [.t 5 false], none⟩ .any,
     .one ⟨some 44, .pure (.bin .eql), [.t 43 false, .c (AV.int .u8 40)], none⟩ .any,
     .one ⟨some 45, .mov, [.t 44 false], none⟩ .any,
     .sub [(⟨some 46, .mov, [.t 4 false], some (45, true)⟩, .any),
       (⟨some 47, .pure (.bin .gtr), [.t 46 false, .c (AV.int .i64 0)], some (45, true)⟩, .any),
       (⟨some 48, .pure .pick, [.t 45 false, .t 47 false, .c (AV.bool false)], none⟩, .any)] 48,
     .one ⟨some 42, .mov, [.t 48 false], none⟩ .any])
   (.cond (.t 42 false)
    (.region none [0, 3, 4] [
      .one ⟨some 49, .mov, [.t 3 false], none⟩ .any,
      .one ⟨some 50, .pure (.bin .add), [.t 49 false, .c (AV.int .i64 1)], none⟩ .any,
      .one ⟨some 3, .mov, [.t 50 false], none⟩ .any])
    (.seq
    (.region none [0, 3, 4, 5, 6, 51] [
      .one ⟨some 52, .mov, [.t 5 false], none⟩ .any,
      .one ⟨some 53, .pure (.bin .eql), [.t 52 false, .c (AV.int .u8 41)], none⟩ .any,
      .one ⟨some 54, .mov, [.t 53 false], none⟩ .any,
      .sub [(⟨some 55, .mov, [.t 3 false], some (54, true)⟩, .any),
        (⟨some 56, .pure (.bin .gtr), [.t 55 false, .c (AV.int .i64 0)], some (54, true)⟩, .any),
        (⟨some 57, .pure .pick, [.t 54 false, .t 56 false, .c (AV.bool false)], none⟩, .any)] 57,
      .one ⟨some 51, .mov, [.t 57 false], none⟩ .any])
    (.cond (.t 51 false)
     (.region none [0, 3, 4] [
       .one ⟨some 58, .mov, [.t 3 false], none⟩ .any,
       .one ⟨some 59, .pure (.bin .sub), [.t 58 false, .c (AV.int .i64 1)], none⟩ .any,
       .one ⟨some 3, .mov, [.t 59 false], none⟩ .any])
     (.seq
     (.region none [0, 3, 4, 60] [
       .one ⟨some 61, .mov, [.t 6 false], none⟩ .any,
       .one ⟨some 62, .pure (.un .not), [.t 61 false], none⟩ .any,
       .one ⟨some 63, .mov, [.t 62 false], none⟩ .any,
       .sub [(⟨some 64, .mov, [.t 4 false], some (63, true)⟩, .any),
         (⟨some 65, .pure (.bin .eql), [.t 64 false, .c (AV.int .i64 0)], some (63, true)⟩, .any),
         (⟨some 66, .mov, [.t 65 false], some (63, true)⟩, .any),
         (⟨some 67, .mov, [.t 5 false], some (66, false)⟩, .any),
         (⟨some 68, .call 37, [.c (AV.str [46, 95, 43, 45, 58]), .t 67 false], some (66, false)⟩, .any),
         (⟨some 69, .pure (.bin .lss), [.t 68 false, .c (AV.int .i64 0)], some (66, false)⟩, .any),
         (⟨some 70, .pure .pick, [.t 66 false, .c (AV.bool true), .t 69 false], some (63, true)⟩, .any),
         (⟨some 71, .pure .pick, [.t 63 false, .t 70 false, .c (AV.bool false)], none⟩, .any)] 71,
       .one ⟨some 60, .mov, [.t 71 false], none⟩ .any])
     (.cond (.t 60 false)
      (.seq
      (.region none [2] [
        .one ⟨some 2, .mov, [.c (AV.bool false)], none⟩ .any])
      (.ret [2]))
      .skip))))))))))
 (.region none [0, 3, 4] [
   .one ⟨some 11, .mov, [.t 4 false], none⟩ .any,
   .one ⟨some 12, .pure (.bin .add), [.t 11 false, .c (AV.int .i64 1)], none⟩ .any,
   .one ⟨some 4, .mov, [.t 12 false], none⟩ .any])))
def r19 : RFunc := ⟨83,
 (.seq
 (.region none [0] [
   .one ⟨some 2, .mov, [.c (AV.bool false)], none⟩ .any])
 (.seq
 (.region none [0, 3] [
   .one ⟨some 3, .mov, [.c (AV.int .i64 0)], none⟩ .any])
 (.seq
 (.seq
 (.region none [0, 3, 4] [
   .one ⟨some 4, .mov, [.c (AV.int .i64 0)], none⟩ .any])
 (.block 0
  (.loop 3 [0, 3, 4] l19_3)))
 (.seq
 (.region none [2] [
   .one ⟨some 72, .mov, [.t 0 false], none⟩ .any,
   .one ⟨some 73, .pure (.bin .neq), [.t 72 false, .c (AV.str [])], none⟩ .any,
   .one ⟨some 74, .mov, [.t 73 false], none⟩ .any,
   .sub [(⟨some 75, .mov, [.t 0 false], some (74, true)⟩, .any),
     (⟨some 76, .pure .lenS, [.t 75 false], some (74, true)⟩, .any),
     (⟨some 77, .pure (.bin .leq), [.t 76 false, .c (AV.int .i64 64)], some (74, true)⟩, .any),
     (⟨some 78, .pure .pick, [.t 74 false, .t 77 false, .c (AV.bool false)], none⟩, .any)] 78,
   .one ⟨some 79, .mov, [.t 78 false], none⟩ .any,
   .sub [(⟨some 80, .mov, [.t 3 false], some (79, true)⟩, .any),
     (⟨some 81, .pure (.bin .eql), [.t 80 false, .c (AV.int .i64 0)], some (79, true)⟩, .any),
     (⟨some 82, .pure .pick, [.t 79 false, .t 81 false, .c (AV.bool false)], none⟩, .any)] 82,
   .one ⟨some 2, .mov, [.t 82 false], none⟩ .any])
 (.ret [2]))))),
 [.tmp 2 false], false⟩
def a19 : Ann := mkAnn [] [(3, [0, 3, 4])] false [] [] [(0, [0]), (1, [0, 3]), (2, [0, 3, 4]), (3, [0, 3, 4, 10]), (4, [0, 3, 4]), (5, [0, 3, 4, 5]), (6, [0, 3, 4, 5, 6]), (7, [0, 3, 4, 5, 6, 42]), (8, [0, 3, 4]), (9, [0, 3, 4, 5, 6, 51]), (10, [0, 3, 4]), (11, [0, 3, 4, 60]), (12, [2]), (13, [2])] [] [] [] [(0, [0, 3]), (1, [0, 3, 4]), (2, [0, 3, 4])] [2] [false] [(6, [(3, none), (3, some 21), (1, none), (7, some 29), (1, none), (7, some 37), (1, none), (3, some 41)]), (7, [(3, none), (3, some 48)]), (9, [(3, none), (3, some 57)]), (11, [(3, none), (8, some 71)]), (13, [(3, none), (4, some 78), (1, none), (3, some 82)])] [] []
set_option maxRecDepth 100000 in
theorem c19 : convFn Try.prog a19 19 = some r19 := by kernel_rfl

/-- drayage/rdep.parts -/
def k20_17 : RCode :=
  (.region none [0, 3, 4] [
    .one ⟨some 58, .mov, [.t 3 true], none⟩ .any,
    .one ⟨some 59, .mov, [.t 0 false], none⟩ .any,
    .one ⟨some 60, .mov, [.t 5 false], none⟩ .any,
    .one ⟨some 61, .mov, [.t 4 false], none⟩ .any,
    .one ⟨some 62, .pure (.sliceStr true true), [.t 59 false, .t 60 false, .t 61 false], none⟩ .any,
    .one ⟨some 63, .mov, [.t 5 false], none⟩ .any,
    .one ⟨some 64, .build [AV.str [], AV.int .i64 0] [(0, 1), (1, 1)], [.t 62 false, .t 63 false], none⟩ .any,
    .one ⟨some 65, .bslice 2 true 1, [.t 64 false], none⟩ .any,
    .one ⟨some 66, .append 2 24 false, [.t 58 true, .t 65 false], none⟩ .any,
    .one ⟨some 3, .mov, [.t 66 true], none⟩ .any])
def l20_6 : RCode :=
 (.seq
 (.seq
 (.region none [0, 3, 4, 5, 6, 34] [
   .one ⟨some 15, .mov, [.t 4 false], none⟩ .any,
   .one ⟨some 16, .mov, [.t 0 false], none⟩ .any,
   .one ⟨some 17, .pure .lenS, [.t 16 false], none⟩ .any,
   .one ⟨some 18, .pure (.bin .lss), [.t 15 false, .t 17 false], none⟩ .any,
   .one ⟨some 19, .mov, [.t 18 false], none⟩ .any,
   .sub [(⟨some 20, .mov, [.t 0 false], some (19, true)⟩, .any),
     (⟨some 21, .mov, [.t 4 false], some (19, true)⟩, .any),
     (⟨some 22, .pure .idxStr, [.t 20 false, .t 21 false], some (19, true)⟩, .any),
     (⟨some 23, .pure (.bin .neq), [.t 22 false, .c (AV.int .u8 32)], some (19, true)⟩, .any),
     (⟨some 24, .pure .pick, [.t 19 false, .t 23 false, .c (AV.bool false)], none⟩, .any)] 24,
   .one ⟨some 25, .mov, [.t 24 false], none⟩ .any,
   .sub [(⟨some 26, .mov, [.t 0 false], some (25, true)⟩, .any),
     (⟨some 27, .mov, [.t 4 false], some (25, true)⟩, .any),
     (⟨some 28, .pure .idxStr, [.t 26 false, .t 27 false], some (25, true)⟩, .any),
     (⟨some 29, .pure (.bin .neq), [.t 28 false, .c (AV.int .u8 41)], some (25, true)⟩, .any),
     (⟨some 30, .mov, [.t 29 false], some (25, true)⟩, .any),
     (⟨some 31, .mov, [.t 6 false], some (30, false)⟩, .any),
     (⟨some 32, .pure (.bin .gtr), [.t 31 false, .c (AV.int .i64 0)], some (30, false)⟩, .any),
     (⟨some 33, .pure .pick, [.t 30 false, .c (AV.bool true), .t 32 false], some (25, true)⟩, .any),
     (⟨some 34, .pure .pick, [.t 25 false, .t 33 false, .c (AV.bool false)], none⟩, .any)] 34])
 (.cond (.t 34 false)
  .skip
  (.exit 3 [0, 3, 4, 5])))
 (.block 4
  (.seq
  (.seq
  (.region none [0, 3, 4, 5, 6, 38] [
    .one ⟨some 35, .mov, [.t 0 false], none⟩ .any,
    .one ⟨some 36, .mov, [.t 4 false], none⟩ .any,
    .one ⟨some 37, .pure .idxStr, [.t 35 false, .t 36 false], none⟩ .any,
    .one ⟨some 38, .pure (.bin .eql), [.t 37 false, .c (AV.int .u8 40)], none⟩ .any])
  (.cond (.t 38 false)
   (.region none [0, 3, 4, 5, 6] [
     .one ⟨some 39, .mov, [.t 6 false], none⟩ .any,
     .one ⟨some 40, .pure (.bin .add), [.t 39 false, .c (AV.int .i64 1)], none⟩ .any,
     .one ⟨some 6, .mov, [.t 40 false], none⟩ .any])
   (.seq
   (.region none [0, 3, 4, 5, 6, 44] [
     .one ⟨some 41, .mov, [.t 0 false], none⟩ .any,
     .one ⟨some 42, .mov, [.t 4 false], none⟩ .any,
     .one ⟨some 43, .pure .idxStr, [.t 41 false, .t 42 false], none⟩ .any,
     .one ⟨some 44, .pure (.bin .eql), [.t 43 false, .c (AV.int .u8 41)], none⟩ .any])
   (.cond (.t 44 false)
    (.region none [0, 3, 4, 5, 6] [
      .one ⟨some 45, .mov, [.t 6 false], none⟩ .any,
      .one ⟨some 46, .pure (.bin .sub), [.t 45 false, .c (AV.int .i64 1)], none⟩ .any,
      .one ⟨some 6, .mov, [.t 46 false], none⟩ .any])
    .skip))))
  (.region none [0, 3, 4, 5, 6] [
    .one ⟨some 47, .mov, [.t 4 false], none⟩ .any,
    .one ⟨some 48, .pure (.bin .add), [.t 47 false, .c (AV.int .i64 1)], none⟩ .any,
    .one ⟨some 4, .mov, [.t 48 false], none⟩ .any]))))
def l20_3 : RCode :=
 (.seq
 (.seq
 (.region none [0, 3, 4, 10] [
   .one ⟨some 7, .mov, [.t 4 false], none⟩ .any,
   .one ⟨some 8, .mov, [.t 0 false], none⟩ .any,
   .one ⟨some 9, .pure .lenS, [.t 8 false], none⟩ .any,
   .one ⟨some 10, .pure (.bin .lss), [.t 7 false, .t 9 false], none⟩ .any])
 (.cond (.t 10 false)
  .skip
  (.exit 0 [0, 3])))
 (.block 1
  (.seq
  (.region none [0, 3, 4, 5, 6] [
    .one ⟨some 11, .mov, [.t 4 false], none⟩ .any,
    .one ⟨some 5, .mov, [.t 11 false], none⟩ .any,
    .one ⟨some 6, .mov, [.c (AV.int .i64 0)], none⟩ .any])
  (.seq
  (.seq
  (.region none [0, 3, 4, 5, 6, 14] [
    .one ⟨some 12, .mov, [.t 0 false], none⟩ .any,
    .one ⟨some 13, .mov, [.t 4 false], none⟩ .any,
    .one ⟨some 14, .pure .idxStr, [.t 12 false, .t 13 false], none⟩ .any])
  (.block 2
   (.seq
   (.region none [0, 3, 4, 5, 6, 14, 49] [
     .one ⟨some 50, .pure (.bin .eql), [.t 14 false, .c (AV.int .u8 32)], none⟩ .any,
     .one ⟨some 49, .mov, [.t 50 false], none⟩ .any])
   (.cond (.t 49 false)
    (.seq
    (.region none [0, 3, 4] [
      .one ⟨some 51, .mov, [.t 4 false], none⟩ .any,
      .one ⟨some 52, .pure (.bin .add), [.t 51 false, .c (AV.int .i64 1)], none⟩ .any,
      .one ⟨some 4, .mov, [.t 52 false], none⟩ .any])
    (.exit 1 [0, 3, 4]))
    (.seq
    (.seq
    (.region none [0, 3, 4, 5, 6, 14, 53] [
      .one ⟨some 54, .pure (.bin .eql), [.t 14 false, .c (AV.int .u8 40)], none⟩ .any,
      .one ⟨some 53, .mov, [.t 54 false], none⟩ .any])
    (.cond (.t 53 false)
     .skip
     (.region none [0, 3, 4, 5, 6, 53] [
       .one ⟨some 55, .pure (.bin .eql), [.t 14 false, .c (AV.int .u8 41)], none⟩ .any,
       .one ⟨some 53, .mov, [.t 55 false], none⟩ .any])))
    (.cond (.t 53 false)
     (.region none [0, 3, 4, 5] [
       .one ⟨some 56, .mov, [.t 4 false], none⟩ .any,
       .one ⟨some 57, .pure (.bin .add), [.t 56 false, .c (AV.int .i64 1)], none⟩ .any,
       .one ⟨some 4, .mov, [.t 57 false], none⟩ .any])
     (.block 3
      (.loop 6 [0, 3, 4, 5, 6] l20_6))))))))
  (.cut 100017 [0, 3, 4, 5] [0, 3, 4] k20_17)))))
def r20 : RFunc := ⟨73,
 (.seq
 (.region none [0] [
   .one ⟨some 2, .mov, [.c (AV.sl false 2 [])], none⟩ .any])
 (.seq
 (.region none [0, 3] [
   .one ⟨some 3, .mov, [.c (AV.sl true 2 [])], none⟩ .any])
 (.seq
 (.seq
 (.region none [0, 3, 4] [
   .one ⟨some 4, .mov, [.c (AV.int .i64 0)], none⟩ .any])
 (.block 0
  (.loop 3 [0, 3, 4] l20_3)))
 (.seq
 (.region none [2] [
   .one ⟨some 67, .mov, [.t 3 true], none⟩ .any,
   .one ⟨some 68, .mov, [.t 0 false], none⟩ .any,
   .one ⟨some 69, .pure .lenS, [.t 68 false], none⟩ .any,
   .one ⟨some 70, .build [AV.str [], AV.int .i64 0] [(0, 1), (1, 1)], [.c (AV.str []), .t 69 false], none⟩ .any,
   .one ⟨some 71, .bslice 2 true 1, [.t 70 false], none⟩ .any,
   .one ⟨some 72, .append 2 24 false, [.t 67 true, .t 71 false], none⟩ .any,
   .one ⟨some 2, .mov, [.t 72 false], none⟩ .any])
 (.ret [2]))))),
 [.tmp 2 false], false⟩
def a20 : Ann := mkAnn [(1, 0, [true]), (17, 0, [true]), (17, 8, [true]), (17, 9, [true]), (18, 0, [true]), (18, 5, [true])] [(3, [0, 3, 4]), (6, [0, 3, 4, 5, 6])] false [] [] [(0, [0]), (1, [0, 3]), (2, [0, 3, 4]), (3, [0, 3, 4, 10]), (4, [0, 3, 4, 5, 6]), (5, [0, 3, 4, 5, 6, 14]), (6, [0, 3, 4, 5, 6, 34]), (7, [0, 3, 4, 5, 6, 38]), (8, [0, 3, 4, 5, 6]), (9, [0, 3, 4, 5, 6, 44]), (10, [0, 3, 4, 5, 6]), (11, [0, 3, 4, 5, 6]), (12, [0, 3, 4, 5, 6, 14, 49]), (13, [0, 3, 4]), (14, [0, 3, 4, 5, 6, 14, 53]), (15, [0, 3, 4, 5, 6, 53]), (16, [0, 3, 4, 5]), (17, [0, 3, 4]), (18, [2])] [] [(0, 0, [4]), (1, 0, [5])] [(17, [0, 3, 4, 5], [0, 3, 4])] [(0, [0, 3]), (1, [0, 3, 4]), (2, [0, 3, 4, 5]), (3, [0, 3, 4, 5]), (4, [0, 3, 4, 5, 6])] [2] [false] [(6, [(5, none), (5, some 24), (1, none), (9, some 34)])] [] []
set_option maxRecDepth 100000 in
theorem c20 : convFn Try.prog a20 20 = some r20 := by kernel_rfl

/-- (*drayage/rdep.reader).dep -/
def r21 : RFunc := ⟨39,
 (.seq
 (.region none [0, 1, 2, 6] [
   .one ⟨some 6, .new 5, [.c (AV.agg [AV.str [], AV.str [], AV.int .i64 0, AV.str [], AV.sl true 5 []])], none⟩ .any])
 (.seq
 (.region none [0, 1, 2, 6, 7] [
   .one ⟨some 8, .mov, [.t 0 false], none⟩ .any,
   .one ⟨some 9, .call 38, [.t 8 false], none⟩ .any,
   .one ⟨some 7, .new 2, [.c (AV.agg [AV.str [], AV.int .i64 0])], none⟩ .any,
   .one ⟨none, .store 2, [.t 7 false, .t 9 false], none⟩ .any])
 (.seq
 (.block 0
  (.seq
  (.region none [0, 1, 2, 6, 7, 15] [
    .one ⟨some 16, .load 2 true false, [.t 7 false], none⟩ .any,
    .one ⟨some 17, .call 39, [.t 16 false], none⟩ .any,
    .one ⟨some 15, .mov, [.t 17 false], none⟩ .any])
  (.cond (.t 15 false)
   (.region none [6] [
     .one ⟨some 18, .mov, [.t 0 false], none⟩ .any,
     .one ⟨some 19, .load 2 true false, [.t 7 false], none⟩ .any,
     .one ⟨some 20, .mov, [.t 2 false], none⟩ .any,
     .one ⟨some 21, .call 40, [.t 18 false, .t 19 false, .t 20 false], none⟩ .any,
     .one ⟨some 22, .pure (.faddr 1), [.t 6 false], none⟩ .any,
     .one ⟨none, .store 3, [.t 22 false, .t 21 false], none⟩ .any])
   (.seq
   (.region none [0, 1, 2, 6, 7, 23] [
     .one ⟨some 24, .pure (.faddr 0), [.t 7 false], none⟩ .any,
     .one ⟨some 25, .load 1 false false, [.t 24 false], none⟩ .any,
     .one ⟨some 26, .pure (.bin .neq), [.t 25 false, .c (AV.str [40])], none⟩ .any,
     .one ⟨some 23, .mov, [.t 26 false], none⟩ .any])
   (.cond (.t 23 false)
    (.region none [6] [
      .one ⟨some 27, .mov, [.t 0 false], none⟩ .any,
      .one ⟨some 28, .pure (.faddr 1), [.t 7 false], none⟩ .any,
      .one ⟨some 29, .load 1 false false, [.t 28 false], none⟩ .any,
      .one ⟨some 30, .call 23, [.t 27 false, .t 29 false, .c (AV.int .i64 3)], none⟩ .any])
    (.seq
    (.region none [0, 1, 2, 6, 7, 31] [
      .one ⟨some 32, .mov, [.t 1 false], none⟩ .any,
      .one ⟨some 33, .pure (.bin .eql), [.t 32 false, .c (AV.int .i64 32)], none⟩ .any,
      .one ⟨some 31, .mov, [.t 33 false], none⟩ .any])
    (.cond (.t 31 false)
     (.region none [6] [
       .one ⟨some 34, .mov, [.t 0 false], none⟩ .any,
       .one ⟨some 35, .pure (.faddr 1), [.t 7 false], none⟩ .any,
       .one ⟨some 36, .load 1 false false, [.t 35 false], none⟩ .any,
       .one ⟨some 37, .call 23, [.t 34 false, .t 36 false, .c (AV.int .i64 4)], none⟩ .any])
     (.region none [6] [
       .one ⟨some 10, .mov, [.t 0 false], none⟩ .any,
       .one ⟨some 11, .mov, [.t 1 false], none⟩ .any,
       .one ⟨some 12, .pure (.bin .add), [.t 11 false, .c (AV.int .i64 1)], none⟩ .any,
       .one ⟨some 13, .mov, [.t 2 false], none⟩ .any,
       .one ⟨some 14, .call 41, [.t 10 false, .t 6 false, .t 12 false, .t 13 false], none⟩ .any]))))))))
 (.seq
 (.region none [6] [
   .one ⟨some 38, .load 5 true false, [.t 6 false], none⟩ .any,
   .one ⟨none, .store 5, [.t 6 false, .t 38 true], none⟩ .any])
 (.ret [6]))))),
 [.cell 6 5 true], false⟩
def a21 : Ann := mkAnn [(9, 1, [false, true])] [] false [] [] [(0, [0, 1, 2, 6]), (1, [0, 1, 2, 6, 7]), (2, [6]), (3, [0, 1, 2, 6, 7, 15]), (4, [6]), (5, [0, 1, 2, 6, 7, 23]), (6, [6]), (7, [0, 1, 2, 6, 7, 31]), (8, [6]), (9, [6])] [] [(0, 0, [0, 0, 0, 0, 11])] [] [(0, [6])] [6] [false] [] [] []
set_option maxRecDepth 100000 in
theorem c21 : convFn Try.prog a21 21 = some r21 := by kernel_rfl

/-- (*drayage/rdep.reader).look -/
def r22 : RFunc := ⟨13,
 (.seq
 (.region none [0, 2] [
   .one ⟨some 2, .new 2, [.c (AV.agg [AV.str [], AV.int .i64 0])], none⟩ .any])
 (.seq
 (.region (some ([10], [])) [2] [
   .one ⟨some 3, .mov, [.t 0 false], none⟩ .any,
   .one ⟨some 4, .pure .nilck, [.t 3 false], none⟩ .any,
   .one ⟨some 5, .pure (.faddr 0), [.t 4 false], none⟩ .any,
   .one ⟨some 6, .load 1 false false, [.t 5 false], none⟩ .any,
   .one ⟨some 7, .mov, [.t 0 false], none⟩ .any,
   .one ⟨some 8, .pure .nilck, [.t 7 false], none⟩ .any,
   .one ⟨some 9, .pure (.faddr 1), [.t 8 false], none⟩ .any,
   .one ⟨some 10, .load 1 false false, [.t 9 false], none⟩ .any,
   .one ⟨some 11, .pure (.iaddr 2), [.t 6 false, .t 10 false], none⟩ (.agg [.str, (.int .i64)]),
   .one ⟨some 12, .load 2 true false, [.t 11 false], none⟩ .any,
   .one ⟨none, .store 2, [.t 2 false, .t 12 false], none⟩ .any])
 (.ret [2]))),
 [.cell 2 2 true], false⟩
def a22 : Ann := mkAnn [] [] false [(1, [10])] [] [(0, [0, 2]), (1, [2])] [] [] [] [] [2] [false] [] [(1, 8, (.agg [.str, (.int .i64)]))] []
set_option maxRecDepth 100000 in
theorem c22 : convFn Try.prog a22 22 = some r22 := by kernel_rfl

/-- (*drayage/rdep.reader).fail -/
def r23 : RFunc := ⟨22,
 (.seq
 (.region none [0, 1, 2, 15] [
   .one ⟨some 6, .mov, [.t 0 false], none⟩ .any,
   .one ⟨some 7, .pure .nilck, [.t 6 false], none⟩ .any,
   .one ⟨some 8, .pure (.faddr 2), [.t 7 false], none⟩ .any,
   .one ⟨some 9, .pure (.faddr 2), [.t 8 false], none⟩ .any,
   .one ⟨some 10, .load 1 false false, [.t 9 false], none⟩ .any,
   .one ⟨some 11, .pure (.bin .eql), [.t 10 false, .c (AV.int .i64 0)], none⟩ .any,
   .one ⟨some 12, .mov, [.t 11 false], none⟩ .any,
   .sub [(⟨some 13, .mov, [.t 2 false], some (12, true)⟩, .any),
     (⟨some 14, .pure (.bin .neq), [.t 13 false, .c (AV.int .i64 0)], some (12, true)⟩, .any),
     (⟨some 15, .pure .pick, [.t 12 false, .t 14 false, .c (AV.bool false)], none⟩, .any)] 15])
 (.cond (.t 15 false)
  (.region none [] [
    .one ⟨some 16, .mov, [.t 0 false], none⟩ .any,
    .one ⟨some 17, .mov, [.t 1 false], none⟩ .any,
    .one ⟨some 18, .mov, [.t 2 false], none⟩ .any,
    .one ⟨some 19, .build [AV.str [], AV.int .i64 0, AV.int .i64 0] [(1, 1), (2, 1)], [.t 17 false, .t 18 false], none⟩ .any,
    .one ⟨some 20, .pure .nilck, [.t 16 false], none⟩ .any,
    .one ⟨some 21, .pure (.faddr 2), [.t 20 false], none⟩ .any,
    .one ⟨none, .store 3, [.t 21 false, .t 19 false], none⟩ .any])
  .skip)),
 [], false⟩
def a23 : Ann := mkAnn [] [] false [] [] [(0, [0, 1, 2, 15]), (1, [])] [] [] [] [] [] [] [(0, [(7, none), (3, some 15)])] [] []
set_option maxRecDepth 100000 in
theorem c23 : convFn Try.prog a23 23 = some r23 := by kernel_rfl

/-- (*drayage/drayageref15.State).dep -/
def k24_28 : RCode :=
  (.region none [0, 1, 4, 6] [
    .one ⟨some 120, .mov, [.t 0 false], none⟩ .any,
    .one ⟨some 121, .mov, [.t 0 false], none⟩ .any,
    .one ⟨some 122, .pure .nilck, [.t 121 false], none⟩ .any,
    .one ⟨some 123, .pure (.faddr 1), [.t 122 false], none⟩ .any,
    .one ⟨some 124, .load 1 false false, [.t 123 false], none⟩ .any,
    .one ⟨some 125, .mov, [.t 8 false], none⟩ .any,
    .one ⟨some 126, .pure .lenS, [.t 125 false], none⟩ .any,
    .one ⟨some 127, .pure (.bin .add), [.t 124 false, .t 126 false], none⟩ .any,
    .one ⟨some 128, .pure .nilck, [.t 120 false], none⟩ .any,
    .one ⟨some 129, .pure (.faddr 1), [.t 128 false], none⟩ .any,
    .one ⟨none, .store 1, [.t 129 false, .t 127 false], none⟩ .any])
def l24_12 : RCode :=
 (.frame
 (.block 1
  (.seq
  (.region none [0, 1, 4, 6, 7] [
    .one ⟨some 40, .mov, [.t 0 false], none⟩ .any,
    .one ⟨some 41, .mov, [.t 1 false], none⟩ .any,
    .one ⟨some 42, .pure (.bin .add), [.t 41 false, .c (AV.int .i64 1)], none⟩ .any,
    .one ⟨some 43, .call 24, [.t 40 false, .t 42 false], none⟩ .any,
    .one ⟨some 7, .new 5, [.c (AV.agg [AV.str [], AV.str [], AV.int .i64 0, AV.str [], AV.sl false 5 []])], none⟩ .any,
    .one ⟨none, .store 5, [.t 7 false, .t 43 false], none⟩ .any])
  (.seq
  (.seq
  (.region none [0, 1, 4, 6, 7, 49] [
    .one ⟨some 44, .mov, [.t 0 false], none⟩ .any,
    .one ⟨some 45, .pure .nilck, [.t 44 false], none⟩ .any,
    .one ⟨some 46, .pure (.faddr 2), [.t 45 false], none⟩ .any,
    .one ⟨some 47, .pure (.faddr 2), [.t 46 false], none⟩ .any,
    .one ⟨some 48, .load 1 false false, [.t 47 false], none⟩ .any,
    .one ⟨some 49, .pure (.bin .neq), [.t 48 false, .c (AV.int .i64 0)], none⟩ .any])
  (.cond (.t 49 false)
   (.seq
   (.region none [4] [
     .one ⟨some 50, .load 5 true false, [.t 6 false], none⟩ .any,
     .one ⟨none, .store 5, [.t 4 false, .t 50 false], none⟩ .any])
   (.ret [4]))
   .skip))
  (.seq
  (.region none [0, 1, 4, 6] [
    .one ⟨some 51, .pure (.faddr 4), [.t 6 false], none⟩ .any,
    .one ⟨some 52, .load 1 false true, [.t 51 true], none⟩ .any,
    .one ⟨some 53, .load 5 true false, [.t 7 false], none⟩ .any,
    .one ⟨some 54, .bslice 5 true 1, [.t 53 false], none⟩ .any,
    .one ⟨some 55, .append 5 80 false, [.t 52 true, .t 54 false], none⟩ .any,
    .one ⟨some 56, .pure (.faddr 4), [.t 6 false], none⟩ .any,
    .one ⟨none, .store 1, [.t 56 false, .t 55 true], none⟩ .any])
  (.seq
  (.region none [0, 1, 4, 6, 8] [
    .one ⟨some 57, .mov, [.t 0 false], none⟩ .any,
    .one ⟨some 58, .call 25, [.t 57 false], none⟩ .any,
    .one ⟨some 8, .mov, [.t 58 false], none⟩ .any])
  (.seq
  (.region none [0, 1, 4, 6, 8, 9] [
    .one ⟨some 59, .pure (.faddr 4), [.t 6 false], none⟩ .any,
    .one ⟨some 60, .load 1 false false, [.t 59 false], none⟩ .any,
    .one ⟨some 61, .pure .lenSl, [.t 60 false], none⟩ .any,
    .one ⟨some 9, .mov, [.t 61 false], none⟩ .any])
  (.seq
  (.seq
  (.region none [0, 1, 4, 6, 8, 9, 67] [
    .one ⟨some 62, .mov, [.t 9 false], none⟩ .any,
    .one ⟨some 63, .pure (.bin .gtr), [.t 62 false, .c (AV.int .i64 1)], none⟩ .any,
    .one ⟨some 64, .mov, [.t 63 false], none⟩ .any,
    .sub [(⟨some 65, .mov, [.t 8 false], some (64, true)⟩, .any),
      (⟨some 66, .pure (.bin .eql), [.t 65 false, .c (AV.str [41])], some (64, true)⟩, .any),
      (⟨some 67, .pure .pick, [.t 64 false, .t 66 false, .c (AV.bool false)], none⟩, .any)] 67])
  (.cond (.t 67 false)
   (.seq
   (.region none [4, 6] [
     .one ⟨some 68, .mov, [.t 0 false], none⟩ .any,
     .one ⟨some 69, .mov, [.t 0 false], none⟩ .any,
     .one ⟨some 70, .pure .nilck, [.t 69 false], none⟩ .any,
     .one ⟨some 71, .pure (.faddr 1), [.t 70 false], none⟩ .any,
     .one ⟨some 72, .load 1 false false, [.t 71 false], none⟩ .any,
     .one ⟨some 73, .pure (.bin .add), [.t 72 false, .c (AV.int .i64 1)], none⟩ .any,
     .one ⟨some 74, .pure .nilck, [.t 68 false], none⟩ .any,
     .one ⟨some 75, .pure (.faddr 1), [.t 74 false], none⟩ .any,
     .one ⟨none, .store 1, [.t 75 false, .t 73 false], none⟩ .any])
   (.seq
   (.region none [4] [
     .one ⟨some 76, .load 5 true false, [.t 6 false], none⟩ .any,
     .one ⟨none, .store 5, [.t 4 false, .t 76 false], none⟩ .any])
   (.ret [4])))
   .skip))
  (.seq
  (.seq
  (.region none [0, 1, 4, 6, 8, 9, 82] [
    .one ⟨some 77, .mov, [.t 9 false], none⟩ .any,
    .one ⟨some 78, .pure (.bin .eql), [.t 77 false, .c (AV.int .i64 1)], none⟩ .any,
    .one ⟨some 79, .mov, [.t 78 false], none⟩ .any,
    .sub [(⟨some 80, .mov, [.t 8 false], some (79, true)⟩, .any),
      (⟨some 81, .call 43, [.t 80 false], some (79, true)⟩, .any),
      (⟨some 82, .pure .pick, [.t 79 false, .t 81 false, .c (AV.bool false)], none⟩, .any)] 82])
  (.cond (.t 82 false)
   (.region none [0, 1, 4, 6, 8] [
     .one ⟨some 83, .mov, [.t 8 false], none⟩ .any,
     .one ⟨some 84, .pure (.faddr 0), [.t 6 false], none⟩ .any,
     .one ⟨none, .store 1, [.t 84 false, .t 83 false], none⟩ .any])
   (.seq
   (.region none [0, 1, 4, 6, 8, 9, 100] [
     .one ⟨some 85, .mov, [.t 9 false], none⟩ .any,
     .one ⟨some 86, .pure (.bin .eql), [.t 85 false, .c (AV.int .i64 2)], none⟩ .any,
     .one ⟨some 87, .mov, [.t 86 false], none⟩ .any,
     .sub [(⟨some 88, .mov, [.t 8 false], some (87, true)⟩, .any),
       (⟨some 89, .pure (.bin .eql), [.t 88 false, .c (AV.str [101, 108, 115, 101])], some (87, true)⟩, .any),
       (⟨some 90, .pure .pick, [.t 87 false, .t 89 false, .c (AV.bool false)], none⟩, .any)] 90,
     .one ⟨some 91, .mov, [.t 90 false], none⟩ .any,
     .sub [(⟨some 92, .pure (.faddr 0), [.t 6 false], some (91, true)⟩, .any),
       (⟨some 93, .load 1 false false, [.t 92 false], some (91, true)⟩, .any),
       (⟨some 94, .pure (.bin .eql), [.t 93 false, .c (AV.str [105, 102])], some (91, true)⟩, .any),
       (⟨some 95, .mov, [.t 94 false], some (91, true)⟩, .any),
       (⟨some 96, .pure (.faddr 0), [.t 6 false], some (95, false)⟩, .any),
       (⟨some 97, .load 1 false false, [.t 96 false], some (95, false)⟩, .any),
       (⟨some 98, .pure (.bin .eql), [.t 97 false, .c (AV.str [117, 110, 108, 101, 115, 115])], some (95, false)⟩, .any),
       (⟨some 99, .pure .pick, [.t 95 false, .c (AV.bool true), .t 98 false], some (91, true)⟩, .any),
       (⟨some 100, .pure .pick, [.t 91 false, .t 99 false, .c (AV.bool false)], none⟩, .any)] 100])
   (.cond (.t 100 false)
    (.region none [0, 1, 4, 6, 8] [
      .one ⟨some 8, .mov, [.c (AV.str [101, 108, 115, 101])], none⟩ .any])
    (.seq
    (.region none [0, 1, 4, 6, 8, 116] [
      .one ⟨some 101, .mov, [.t 9 false], none⟩ .any,
      .one ⟨some 102, .pure (.bin .lss), [.t 101 false, .c (AV.int .i64 2)], none⟩ .any,
      .one ⟨some 103, .mov, [.t 102 false], none⟩ .any,
      .sub [(⟨some 104, .mov, [.t 8 false], some (103, false)⟩, .any),
        (⟨some 105, .pure (.faddr 0), [.t 6 false], some (103, false)⟩, .any),
        (⟨some 106, .load 1 false false, [.t 105 false], some (103, false)⟩, .any),
        (⟨some 107, .pure (.bin .neq), [.t 104 false, .t 106 false], some (103, false)⟩, .any),
        (⟨some 108, .pure .pick, [.t 103 false, .c (AV.bool true), .t 107 false], none⟩, .any)] 108,
      .one ⟨some 109, .mov, [.t 108 false], none⟩ .any,
      .sub [(⟨some 110, .mov, [.t 8 false], some (109, false)⟩, .any),
        (⟨some 111, .pure (.bin .neq), [.t 110 false, .c (AV.str [97, 110, 100])], some (109, false)⟩, .any),
        (⟨some 112, .mov, [.t 111 false], some (109, false)⟩, .any),
        (⟨some 113, .mov, [.t 8 false], some (112, true)⟩, .any),
        (⟨some 114, .pure (.bin .neq), [.t 113 false, .c (AV.str [111, 114])], some (112, true)⟩, .any),
        (⟨some 115, .pure .pick, [.t 112 false, .t 114 false, .c (AV.bool false)], some (109, false)⟩, .any),
        (⟨some 116, .pure .pick, [.t 109 false, .c (AV.bool true), .t 115 false], none⟩, .any)] 116])
    (.cond (.t 116 false)
     (.seq
     (.region none [4, 6] [
       .one ⟨some 117, .mov, [.t 0 false], none⟩ .any,
       .one ⟨some 118, .call 26, [.t 117 false, .c (AV.int .i64 3)], none⟩ .any])
     (.seq
     (.region none [4] [
       .one ⟨some 119, .load 5 true false, [.t 6 false], none⟩ .any,
       .one ⟨none, .store 5, [.t 4 false, .t 119 false], none⟩ .any])
     (.ret [4])))
     .skip))))))
  (.cut 100028 [0, 1, 4, 6, 8] [0, 1, 4, 6] k24_28))))))))))
def r24 : RFunc := ⟨130,
 (.seq
 (.region none [0, 1, 4] [
   .one ⟨some 4, .new 5, [.c (AV.agg [AV.str [], AV.str [], AV.int .i64 0, AV.str [], AV.sl false 5 []])], none⟩ .any])
 (.seq
 (.region none [0, 1, 4, 5] [
   .one ⟨some 10, .mov, [.t 0 false], none⟩ .any,
   .one ⟨some 11, .call 25, [.t 10 false], none⟩ .any,
   .one ⟨some 5, .mov, [.t 11 false], none⟩ .any])
 (.seq
 (.seq
 (.region none [0, 1, 4, 5, 17] [
   .one ⟨some 12, .mov, [.t 5 false], none⟩ .any,
   .one ⟨some 13, .pure (.bin .eql), [.t 12 false, .c (AV.str [])], none⟩ .any,
   .one ⟨some 14, .mov, [.t 13 false], none⟩ .any,
   .sub [(⟨some 15, .mov, [.t 5 false], some (14, false)⟩, .any),
     (⟨some 16, .pure (.bin .eql), [.t 15 false, .c (AV.str [41])], some (14, false)⟩, .any),
     (⟨some 17, .pure .pick, [.t 14 false, .c (AV.bool true), .t 16 false], none⟩, .any)] 17])
 (.cond (.t 17 false)
  (.seq
  (.region none [4] [
    .one ⟨some 18, .mov, [.t 0 false], none⟩ .any,
    .one ⟨some 19, .call 26, [.t 18 false, .c (AV.int .i64 3)], none⟩ .any])
  (.seq
  (.region none [4] [
    .one ⟨some 20, .build [AV.str [], AV.str [], AV.int .i64 0, AV.str [], AV.sl false 5 []] [], [], none⟩ .any,
    .one ⟨none, .store 5, [.t 4 false, .t 20 false], none⟩ .any])
  (.ret [4])))
  .skip))
 (.seq
 (.seq
 (.region none [0, 1, 4, 5, 22] [
   .one ⟨some 21, .mov, [.t 5 false], none⟩ .any,
   .one ⟨some 22, .pure (.bin .neq), [.t 21 false, .c (AV.str [40])], none⟩ .any])
 (.cond (.t 22 false)
  (.seq
  (.region none [4] [
    .one ⟨some 23, .mov, [.t 0 false], none⟩ .any,
    .one ⟨some 24, .mov, [.t 5 false], none⟩ .any,
    .one ⟨some 25, .call 42, [.t 23 false, .t 24 false], none⟩ .any,
    .one ⟨none, .store 5, [.t 4 false, .t 25 false], none⟩ .any])
  (.ret [4]))
  .skip))
 (.seq
 (.seq
 (.region none [0, 1, 4, 27] [
   .one ⟨some 26, .mov, [.t 1 false], none⟩ .any,
   .one ⟨some 27, .pure (.bin .eql), [.t 26 false, .c (AV.int .i64 32)], none⟩ .any])
 (.cond (.t 27 false)
  (.seq
  (.region none [4] [
    .one ⟨some 28, .mov, [.t 0 false], none⟩ .any,
    .one ⟨some 29, .call 26, [.t 28 false, .c (AV.int .i64 4)], none⟩ .any])
  (.seq
  (.region none [4] [
    .one ⟨some 30, .build [AV.str [], AV.str [], AV.int .i64 0, AV.str [], AV.sl false 5 []] [], [], none⟩ .any,
    .one ⟨none, .store 5, [.t 4 false, .t 30 false], none⟩ .any])
  (.ret [4])))
  .skip))
 (.seq
 (.region none [0, 1, 4] [
   .one ⟨some 31, .mov, [.t 0 false], none⟩ .any,
   .one ⟨some 32, .mov, [.t 0 false], none⟩ .any,
   .one ⟨some 33, .pure .nilck, [.t 32 false], none⟩ .any,
   .one ⟨some 34, .pure (.faddr 1), [.t 33 false], none⟩ .any,
   .one ⟨some 35, .load 1 false false, [.t 34 false], none⟩ .any,
   .one ⟨some 36, .pure (.bin .add), [.t 35 false, .c (AV.int .i64 1)], none⟩ .any,
   .one ⟨some 37, .pure .nilck, [.t 31 false], none⟩ .any,
   .one ⟨some 38, .pure (.faddr 1), [.t 37 false], none⟩ .any,
   .one ⟨none, .store 1, [.t 38 false, .t 36 false], none⟩ .any])
 (.seq
 (.region none [0, 1, 4, 6] [
   .one ⟨some 39, .build [AV.str [], AV.str [], AV.int .i64 0, AV.str [], AV.sl true 5 []] [], [], none⟩ .any,
   .one ⟨some 6, .new 5, [.c (AV.agg [AV.str [], AV.str [], AV.int .i64 0, AV.str [], AV.sl true 5 []])], none⟩ .any,
   .one ⟨none, .store 5, [.t 6 false, .t 39 true], none⟩ .any])
 (.block 0
  (.loop 12 [0, 1, 4, 6] l24_12))))))))),
 [.cell 4 5 true], false⟩
def a24 : Ann := mkAnn [(11, 2, [false, true]), (15, 1, [true]), (15, 4, [true]), (15, 6, [false, true])] [(12, [0, 1, 4, 6])] false [] [] [(0, [0, 1, 4]), (1, [0, 1, 4, 5]), (2, [0, 1, 4, 5, 17]), (3, [4]), (4, [4]), (5, [0, 1, 4, 5, 22]), (6, [4]), (7, [0, 1, 4, 27]), (8, [4]), (9, [4]), (10, [0, 1, 4]), (11, [0, 1, 4, 6]), (12, [0, 1, 4, 6, 7]), (13, [0, 1, 4, 6, 7, 49]), (14, [4]), (15, [0, 1, 4, 6]), (16, [0, 1, 4, 6, 8]), (17, [0, 1, 4, 6, 8, 9]), (18, [0, 1, 4, 6, 8, 9, 67]), (19, [4, 6]), (20, [4]), (21, [0, 1, 4, 6, 8, 9, 82]), (22, [0, 1, 4, 6, 8]), (23, [0, 1, 4, 6, 8, 9, 100]), (24, [0, 1, 4, 6, 8]), (25, [0, 1, 4, 6, 8, 116]), (26, [4, 6]), (27, [4]), (28, [0, 1, 4, 6])] [] [(0, 0, [0, 0, 0, 0, 10]), (4, 0, [0, 0, 0, 0, 10]), (9, 0, [0, 0, 0, 0, 10]), (11, 0, [0, 0, 0, 0, 11]), (11, 1, [0, 0, 0, 0, 11]), (12, 4, [0, 0, 0, 0, 10])] [(28, [0, 1, 4, 6, 8], [0, 1, 4, 6])] [(0, [4]), (1, [0, 1, 4, 6])] [4] [false] [(2, [(3, none), (3, some 17)]), (18, [(3, none), (3, some 67)]), (21, [(3, none), (3, some 82)]), (23, [(3, none), (3, some 90), (1, none), (9, some 100)]), (25, [(3, none), (5, some 108), (1, none), (7, some 116)])] [] [12]
set_option maxRecDepth 100000 in
theorem c24 : convFn Try.prog a24 24 = some r24 := by kernel_rfl

/-- (*drayage/drayageref15.State).look -/
def k25_11 : RCode :=
  (.seq
  (.seq
  (.region none [0, 3, 4, 73] [
    .one ⟨some 67, .mov, [.t 0 false], none⟩ .any,
    .one ⟨some 68, .pure .nilck, [.t 67 false], none⟩ .any,
    .one ⟨some 69, .pure (.faddr 0), [.t 68 false], none⟩ .any,
    .one ⟨some 70, .load 1 false false, [.t 69 false], none⟩ .any,
    .one ⟨some 71, .mov, [.t 3 false], none⟩ .any,
    .one ⟨some 72, .pure .idxStr, [.t 70 false, .t 71 false], none⟩ .any,
    .one ⟨some 73, .pure (.bin .eql), [.t 72 false, .c (AV.int .u8 41)], none⟩ .any])
  (.cond (.t 73 false)
   (.seq
   (.region none [0, 3, 4] [
     .one ⟨some 74, .mov, [.t 4 false], none⟩ .any,
     .one ⟨some 75, .pure (.bin .sub), [.t 74 false, .c (AV.int .i64 1)], none⟩ .any,
     .one ⟨some 4, .mov, [.t 75 false], none⟩ .any])
   (.seq
   (.region none [0, 3, 4, 77] [
     .one ⟨some 76, .mov, [.t 4 false], none⟩ .any,
     .one ⟨some 77, .pure (.bin .lss), [.t 76 false, .c (AV.int .i64 0)], none⟩ .any])
   (.cond (.t 77 false)
    (.exit 0 [0, 3])
    .skip)))
   .skip))
  (.region none [0, 3, 4] [
    .one ⟨some 78, .mov, [.t 3 false], none⟩ .any,
    .one ⟨some 79, .pure (.bin .add), [.t 78 false, .c (AV.int .i64 1)], none⟩ .any,
    .one ⟨some 3, .mov, [.t 79 false], none⟩ .any]))
def l25_8 : RCode :=
 (.seq
 (.seq
 (.region none [0, 3, 4, 57] [
   .one ⟨some 42, .mov, [.t 3 false], none⟩ .any,
   .one ⟨some 43, .mov, [.t 0 false], none⟩ .any,
   .one ⟨some 44, .pure .nilck, [.t 43 false], none⟩ .any,
   .one ⟨some 45, .pure (.faddr 0), [.t 44 false], none⟩ .any,
   .one ⟨some 46, .load 1 false false, [.t 45 false], none⟩ .any,
   .one ⟨some 47, .pure .lenS, [.t 46 false], none⟩ .any,
   .one ⟨some 48, .pure (.bin .lss), [.t 42 false, .t 47 false], none⟩ .any,
   .one ⟨some 49, .mov, [.t 48 false], none⟩ .any,
   .sub [(⟨some 50, .mov, [.t 0 false], some (49, true)⟩, .any),
     (⟨some 51, .pure .nilck, [.t 50 false], some (49, true)⟩, .any),
     (⟨some 52, .pure (.faddr 0), [.t 51 false], some (49, true)⟩, .any),
     (⟨some 53, .load 1 false false, [.t 52 false], some (49, true)⟩, .any),
     (⟨some 54, .mov, [.t 3 false], some (49, true)⟩, .any),
     (⟨some 55, .pure .idxStr, [.t 53 false, .t 54 false], some (49, true)⟩, .any),
     (⟨some 56, .pure (.bin .neq), [.t 55 false, .c (AV.int .u8 32)], some (49, true)⟩, .any),
     (⟨some 57, .pure .pick, [.t 49 false, .t 56 false, .c (AV.bool false)], none⟩, .any)] 57])
 (.cond (.t 57 false)
  .skip
  (.exit 0 [0, 3])))
 (.block 1
  (.seq
  (.seq
  (.region none [0, 3, 4, 64] [
    .one ⟨some 58, .mov, [.t 0 false], none⟩ .any,
    .one ⟨some 59, .pure .nilck, [.t 58 false], none⟩ .any,
    .one ⟨some 60, .pure (.faddr 0), [.t 59 false], none⟩ .any,
    .one ⟨some 61, .load 1 false false, [.t 60 false], none⟩ .any,
    .one ⟨some 62, .mov, [.t 3 false], none⟩ .any,
    .one ⟨some 63, .pure .idxStr, [.t 61 false, .t 62 false], none⟩ .any,
    .one ⟨some 64, .pure (.bin .eql), [.t 63 false, .c (AV.int .u8 40)], none⟩ .any])
  (.cond (.t 64 false)
   (.region none [0, 3, 4] [
     .one ⟨some 65, .mov, [.t 4 false], none⟩ .any,
     .one ⟨some 66, .pure (.bin .add), [.t 65 false, .c (AV.int .i64 1)], none⟩ .any,
     .one ⟨some 4, .mov, [.t 66 false], none⟩ .any])
   .skip))
  (.cut 100011 [0, 3, 4] [0, 3, 4] k25_11))))
def r25 : RFunc := ⟨90,
 (.seq
 (.region none [0] [
   .one ⟨some 2, .mov, [.c (AV.str [])], none⟩ .any])
 (.seq
 (.region none [0] [
   .one ⟨some 5, .mov, [.t 0 false], none⟩ .any,
   .one ⟨some 6, .call 44, [.t 5 false], none⟩ .any])
 (.seq
 (.region none [0, 3] [
   .one ⟨some 7, .mov, [.t 0 false], none⟩ .any,
   .one ⟨some 8, .pure .nilck, [.t 7 false], none⟩ .any,
   .one ⟨some 9, .pure (.faddr 1), [.t 8 false], none⟩ .any,
   .one ⟨some 10, .load 1 false false, [.t 9 false], none⟩ .any,
   .one ⟨some 3, .mov, [.t 10 false], none⟩ .any])
 (.seq
 (.seq
 (.region none [0, 3, 17] [
   .one ⟨some 11, .mov, [.t 3 false], none⟩ .any,
   .one ⟨some 12, .mov, [.t 0 false], none⟩ .any,
   .one ⟨some 13, .pure .nilck, [.t 12 false], none⟩ .any,
   .one ⟨some 14, .pure (.faddr 0), [.t 13 false], none⟩ .any,
   .one ⟨some 15, .load 1 false false, [.t 14 false], none⟩ .any,
   .one ⟨some 16, .pure .lenS, [.t 15 false], none⟩ .any,
   .one ⟨some 17, .pure (.bin .eql), [.t 11 false, .t 16 false], none⟩ .any])
 (.cond (.t 17 false)
  (.seq
  (.region none [2] [
    .one ⟨some 2, .mov, [.c (AV.str [])], none⟩ .any])
  (.ret [2]))
  .skip))
 (.seq
 (.seq
 (.region none [0, 3, 33] [
   .one ⟨some 18, .mov, [.t 0 false], none⟩ .any,
   .one ⟨some 19, .pure .nilck, [.t 18 false], none⟩ .any,
   .one ⟨some 20, .pure (.faddr 0), [.t 19 false], none⟩ .any,
   .one ⟨some 21, .load 1 false false, [.t 20 false], none⟩ .any,
   .one ⟨some 22, .mov, [.t 3 false], none⟩ .any,
   .one ⟨some 23, .pure .idxStr, [.t 21 false, .t 22 false], none⟩ .any,
   .one ⟨some 24, .pure (.bin .eql), [.t 23 false, .c (AV.int .u8 40)], none⟩ .any,
   .one ⟨some 25, .mov, [.t 24 false], none⟩ .any,
   .sub [(⟨some 26, .mov, [.t 0 false], some (25, false)⟩, .any),
     (⟨some 27, .pure .nilck, [.t 26 false], some (25, false)⟩, .any),
     (⟨some 28, .pure (.faddr 0), [.t 27 false], some (25, false)⟩, .any),
     (⟨some 29, .load 1 false false, [.t 28 false], some (25, false)⟩, .any),
     (⟨some 30, .mov, [.t 3 false], some (25, false)⟩, .any),
     (⟨some 31, .pure .idxStr, [.t 29 false, .t 30 false], some (25, false)⟩, .any),
     (⟨some 32, .pure (.bin .eql), [.t 31 false, .c (AV.int .u8 41)], some (25, false)⟩, .any),
     (⟨some 33, .pure .pick, [.t 25 false, .c (AV.bool true), .t 32 false], none⟩, .any)] 33])
 (.cond (.t 33 false)
  (.seq
  (.region none [2] [
    .one ⟨some 34, .mov, [.t 0 false], none⟩ .any,
    .one ⟨some 35, .pure .nilck, [.t 34 false], none⟩ .any,
    .one ⟨some 36, .pure (.faddr 0), [.t 35 false], none⟩ .any,
    .one ⟨some 37, .load 1 false false, [.t 36 false], none⟩ .any,
    .one ⟨some 38, .mov, [.t 3 false], none⟩ .any,
    .one ⟨some 39, .mov, [.t 3 false], none⟩ .any,
    .one ⟨some 40, .pure (.bin .add), [.t 39 false, .c (AV.int .i64 1)], none⟩ .any,
    .one ⟨some 41, .pure (.sliceStr true true), [.t 37 false, .t 38 false, .t 40 false], none⟩ .any,
    .one ⟨some 2, .mov, [.t 41 false], none⟩ .any])
  (.ret [2]))
  .skip))
 (.seq
 (.region none [0, 3, 4] [
   .one ⟨some 4, .mov, [.c (AV.int .i64 0)], none⟩ .any])
 (.seq
 (.block 0
  (.loop 8 [0, 3, 4] l25_8))
 (.seq
 (.region (some ([], [])) [2] [
   .one ⟨some 80, .mov, [.t 0 false], none⟩ .any,
   .one ⟨some 81, .pure .nilck, [.t 80 false], none⟩ .any,
   .one ⟨some 82, .pure (.faddr 0), [.t 81 false], none⟩ .any,
   .one ⟨some 83, .load 1 false false, [.t 82 false], none⟩ .any,
   .one ⟨some 84, .mov, [.t 0 false], none⟩ .any,
   .one ⟨some 85, .pure .nilck, [.t 84 false], none⟩ .any,
   .one ⟨some 86, .pure (.faddr 1), [.t 85 false], none⟩ .any,
   .one ⟨some 87, .load 1 false false, [.t 86 false], none⟩ .any,
   .one ⟨some 88, .mov, [.t 3 false], none⟩ .any,
   .one ⟨some 89, .pure (.sliceStr true true), [.t 83 false, .t 87 false, .t 88 false], none⟩ .any,
   .one ⟨some 2, .mov, [.t 89 false], none⟩ .any])
 (.ret [2]))))))))),
 [.tmp 2 false], false⟩
def a25 : Ann := mkAnn [] [(8, [0, 3, 4])] false [(15, [])] [] [(0, [0]), (1, [0]), (2, [0, 3]), (3, [0, 3, 17]), (4, [2]), (5, [0, 3, 33]), (6, [2]), (7, [0, 3, 4]), (8, [0, 3, 4, 57]), (9, [0, 3, 4, 64]), (10, [0, 3, 4]), (11, [0, 3, 4, 73]), (12, [0, 3, 4]), (13, [0, 3, 4, 77]), (14, [0, 3, 4]), (15, [2])] [] [] [(11, [0, 3, 4], [0, 3, 4])] [(0, [0, 3]), (1, [0, 3, 4])] [2] [false] [(5, [(8, none), (8, some 33)]), (8, [(8, none), (8, some 57)])] [] []
set_option maxRecDepth 100000 in
theorem c25 : convFn Try.prog a25 25 = some r25 := by kernel_rfl

/-- (*drayage/drayageref15.State).bad -/
def r26 : RFunc := ⟨13,
 (.region none [] [
   .one ⟨some 4, .mov, [.t 0 false], none⟩ .any,
   .one ⟨some 5, .mov, [.t 0 false], none⟩ .any,
   .one ⟨some 6, .pure .nilck, [.t 5 false], none⟩ .any,
   .one ⟨some 7, .pure (.faddr 1), [.t 6 false], none⟩ .any,
   .one ⟨some 8, .load 1 false false, [.t 7 false], none⟩ .any,
   .one ⟨some 9, .mov, [.t 1 false], none⟩ .any,
   .one ⟨some 10, .build [AV.str [], AV.int .i64 0, AV.int .i64 0] [(1, 1), (2, 1)], [.t 8 false, .t 9 false], none⟩ .any,
   .one ⟨some 11, .pure .nilck, [.t 4 false], none⟩ .any,
   .one ⟨some 12, .pure (.faddr 2), [.t 11 false], none⟩ .any,
   .one ⟨none, .store 3, [.t 12 false, .t 10 false], none⟩ .any]),
 [], false⟩
def a26 : Ann := mkAnn [] [] false [] [] [(0, [])] [] [] [] [] [] [] [] [] []
set_option maxRecDepth 100000 in
theorem c26 : convFn Try.prog a26 26 = some r26 := by kernel_rfl

/-- drayage/rdep.text -/
def l27_7 : RCode :=
 (.frame
 (.seq
 (.region none [1, 3, 40, 41, 42, 43] [
   .one ⟨some 43, .pure (.bin .lss), [.t 42 false, .t 41 false], none⟩ .any])
 (.seq
 (.cond (.t 43 false)
  .skip
  (.exit 1 [3]))
 (.seq
 (.block 2
  (.seq
  (.region none [1, 3, 4, 5, 40, 41, 42] [
    .one ⟨some 44, .mov, [.t 42 false], none⟩ .any,
    .one ⟨some 45, .pure (.iaddr 5), [.t 40 false, .t 42 false], none⟩ (.agg [.str, .str, (.int .i64), .str, (.sl false 5)]),
    .one ⟨some 46, .load 5 true false, [.t 45 false], none⟩ .any,
    .one ⟨some 5, .new 5, [.c (AV.agg [AV.str [], AV.str [], AV.int .i64 0, AV.str [], AV.sl false 5 []])], none⟩ .any,
    .one ⟨some 4, .mov, [.t 44 false], none⟩ .any,
    .one ⟨none, .store 5, [.t 5 false, .t 46 false], none⟩ .any])
  (.seq
  (.block 3
   (.seq
   (.region none [1, 3, 4, 5, 40, 41, 42, 47] [
     .one ⟨some 48, .mov, [.t 4 false], none⟩ .any,
     .one ⟨some 49, .pure (.bin .eql), [.t 48 false, .c (AV.int .i64 2)], none⟩ .any,
     .one ⟨some 50, .mov, [.t 49 false], none⟩ .any,
     .sub [(⟨some 51, .pure (.faddr 0), [.t 1 false], some (50, true)⟩, .any),
       (⟨some 52, .load 1 false false, [.t 51 false], some (50, true)⟩, .any),
       (⟨some 53, .pure (.bin .eql), [.t 52 false, .c (AV.str [105, 102])], some (50, true)⟩, .any),
       (⟨some 54, .mov, [.t 53 false], some (50, true)⟩, .any),
       (⟨some 55, .pure (.faddr 0), [.t 1 false], some (54, false)⟩, .any),
       (⟨some 56, .load 1 false false, [.t 55 false], some (54, false)⟩, .any),
       (⟨some 57, .pure (.bin .eql), [.t 56 false, .c (AV.str [117, 110, 108, 101, 115, 115])], some (54, false)⟩, .any),
       (⟨some 58, .pure .pick, [.t 54 false, .c (AV.bool true), .t 57 false], some (50, true)⟩, .any),
       (⟨some 59, .pure .pick, [.t 50 false, .t 58 false, .c (AV.bool false)], none⟩, .any)] 59,
     .one ⟨some 47, .mov, [.t 59 false], none⟩ .any])
   (.cond (.t 47 false)
    (.region none [1, 3, 5, 40, 41, 42] [
      .one ⟨some 60, .call 46, [.t 3 false, .c (AV.str [32, 101, 108, 115, 101, 32])], none⟩ .any])
    (.seq
    (.region none [1, 3, 5, 40, 41, 42, 61] [
      .one ⟨some 62, .mov, [.t 4 false], none⟩ .any,
      .one ⟨some 63, .pure (.bin .gtr), [.t 62 false, .c (AV.int .i64 0)], none⟩ .any,
      .one ⟨some 61, .mov, [.t 63 false], none⟩ .any])
    (.cond (.t 61 false)
     (.region none [1, 3, 5, 40, 41, 42] [
       .one ⟨some 64, .pure (.faddr 0), [.t 1 false], none⟩ .any,
       .one ⟨some 65, .load 1 false false, [.t 64 false], none⟩ .any,
       .one ⟨some 66, .pure (.bin .add), [.c (AV.str [32]), .t 65 false], none⟩ .any,
       .one ⟨some 67, .pure (.bin .add), [.t 66 false, .c (AV.str [32])], none⟩ .any,
       .one ⟨some 68, .call 46, [.t 3 false, .t 67 false], none⟩ .any])
     .skip)))))
  (.region none [1, 3, 40, 41, 42] [
    .one ⟨some 69, .load 5 true false, [.t 5 false], none⟩ .any,
    .one ⟨some 70, .call 27, [.t 69 false], none⟩ .any,
    .one ⟨some 71, .call 46, [.t 3 false, .t 70 false], none⟩ .any]))))
 (.region none [1, 3, 40, 41, 42] [
   .one ⟨some 72, .pure (.bin .add), [.t 42 false, .c (AV.int .i64 1)], none⟩ .any,
   .one ⟨some 42, .mov, [.t 72 false], none⟩ .any])))))
def r27 : RFunc := ⟨76,
 (.seq
 (.region none [1] [
   .one ⟨some 1, .new 5, [.t 0 false], none⟩ .any,
   .one ⟨some 2, .mov, [.c (AV.str [])], none⟩ .any])
 (.seq
 (.block 0
  (.seq
  (.region none [1, 6] [
    .one ⟨some 7, .pure (.faddr 0), [.t 1 false], none⟩ .any,
    .one ⟨some 8, .load 1 false false, [.t 7 false], none⟩ .any,
    .one ⟨some 9, .pure (.bin .eql), [.t 8 false, .c (AV.str [])], none⟩ .any,
    .one ⟨some 10, .mov, [.t 9 false], none⟩ .any,
    .sub [(⟨some 11, .pure (.faddr 1), [.t 1 false], some (10, true)⟩, .any),
      (⟨some 12, .pure (.faddr 1), [.t 11 false], some (10, true)⟩, .any),
      (⟨some 13, .load 1 false false, [.t 12 false], some (10, true)⟩, .any),
      (⟨some 14, .pure (.bin .eql), [.t 13 false, .c (AV.int .i64 0)], some (10, true)⟩, .any),
      (⟨some 15, .pure .pick, [.t 10 false, .t 14 false, .c (AV.bool false)], none⟩, .any)] 15,
    .one ⟨some 6, .mov, [.t 15 false], none⟩ .any])
  (.cond (.t 6 false)
   (.seq
   (.region none [2] [
     .one ⟨some 16, .pure (.faddr 1), [.t 1 false], none⟩ .any,
     .one ⟨some 17, .pure (.faddr 0), [.t 16 false], none⟩ .any,
     .one ⟨some 18, .load 1 false false, [.t 17 false], none⟩ .any,
     .one ⟨some 2, .mov, [.t 18 false], none⟩ .any])
   (.ret [2]))
   (.seq
   (.region none [1, 19] [
     .one ⟨some 20, .pure (.faddr 0), [.t 1 false], none⟩ .any,
     .one ⟨some 21, .load 1 false false, [.t 20 false], none⟩ .any,
     .one ⟨some 22, .pure (.bin .eql), [.t 21 false, .c (AV.str [])], none⟩ .any,
     .one ⟨some 19, .mov, [.t 22 false], none⟩ .any])
   (.cond (.t 19 false)
    (.seq
    (.region (some ([], [])) [2] [
      .one ⟨some 23, .pure (.faddr 1), [.t 1 false], none⟩ .any,
      .one ⟨some 24, .pure (.faddr 0), [.t 23 false], none⟩ .any,
      .one ⟨some 25, .load 1 false false, [.t 24 false], none⟩ .any,
      .one ⟨some 26, .pure (.bin .add), [.t 25 false, .c (AV.str [32])], none⟩ .any,
      .one ⟨some 27, .call 45, [], none⟩ .any,
      .one ⟨some 28, .pure (.faddr 1), [.t 1 false], none⟩ .any,
      .one ⟨some 29, .pure (.faddr 1), [.t 28 false], none⟩ .any,
      .one ⟨some 30, .load 1 false false, [.t 29 false], none⟩ .any,
      .one ⟨some 31, .pure (.iaddr 1), [.t 27 false, .t 30 false], none⟩ .str,
      .one ⟨some 32, .load 1 false false, [.t 31 false], none⟩ .any,
      .one ⟨some 33, .pure (.bin .add), [.t 26 false, .t 32 false], none⟩ .any,
      .one ⟨some 34, .pure (.bin .add), [.t 33 false, .c (AV.str [32])], none⟩ .any,
      .one ⟨some 35, .pure (.faddr 1), [.t 1 false], none⟩ .any,
      .one ⟨some 36, .pure (.faddr 2), [.t 35 false], none⟩ .any,
      .one ⟨some 37, .load 1 false false, [.t 36 false], none⟩ .any,
      .one ⟨some 38, .pure (.bin .add), [.t 34 false, .t 37 false], none⟩ .any,
      .one ⟨some 2, .mov, [.t 38 false], none⟩ .any])
    (.ret [2]))
    .skip)))))
 (.seq
 (.region none [1, 3] [
   .one ⟨some 3, .newB 85 5, [.c (AV.agg [AV.nilp, AV.sl false 0 []])], none⟩ .any])
 (.seq
 (.seq
 (.region none [1, 3, 40, 41, 42] [
   .one ⟨some 39, .pure (.faddr 4), [.t 1 false], none⟩ .any,
   .one ⟨some 40, .load 1 false false, [.t 39 false], none⟩ .any,
   .one ⟨some 41, .pure .lenSl, [.t 40 false], none⟩ .any,
   .one ⟨some 42, .mov, [.c (AV.int .i64 0)], none⟩ .any])
 (.block 1
  (.loop 7 [1, 3, 40, 41, 42] l27_7)))
 (.seq
 (.region none [2] [
   .one ⟨some 73, .call 47, [.t 3 false], none⟩ .any,
   .one ⟨some 74, .pure (.bin .add), [.c (AV.str [40]), .t 73 false], none⟩ .any,
   .one ⟨some 75, .pure (.bin .add), [.t 74 false, .c (AV.str [41])], none⟩ .any,
   .one ⟨some 2, .mov, [.t 75 false], none⟩ .any])
 (.ret [2])))))),
 [.tmp 2 false], false⟩
def a27 : Ann := mkAnn [(5, 0, [true])] [(7, [1, 3, 40, 41, 42])] false [(4, [])] [] [(0, [1]), (1, [1, 6]), (2, [2]), (3, [1, 19]), (4, [2]), (5, [1, 3]), (6, [1, 3, 40, 41, 42]), (7, [1, 3, 40, 41, 42, 43]), (8, [1, 3, 4, 5, 40, 41, 42]), (9, [1, 3, 4, 5, 40, 41, 42, 47]), (10, [1, 3, 5, 40, 41, 42]), (11, [1, 3, 5, 40, 41, 42, 61]), (12, [1, 3, 5, 40, 41, 42]), (13, [1, 3, 40, 41, 42]), (14, [1, 3, 40, 41, 42]), (15, [2])] [] [(8, 3, [0, 0, 0, 0, 10])] [] [(0, [1]), (1, [3]), (2, [1, 3, 40, 41, 42]), (3, [1, 3, 5, 40, 41, 42])] [2] [false] [(1, [(4, none), (5, some 15)]), (9, [(3, none), (9, some 59)])] [(4, 8, .str), (8, 1, (.agg [.str, .str, (.int .i64), .str, (.sl false 5)]))] [7]
set_option maxRecDepth 100000 in
theorem c27 : convFn Try.prog a27 27 = some r27 := by kernel_rfl

/-- drayage/rdep.atoms -/
def l28_5 : RCode :=
 (.frame
 (.seq
 (.region none [1, 5, 12, 13, 14, 15] [
   .one ⟨some 15, .pure (.bin .lss), [.t 14 false, .t 13 false], none⟩ .any])
 (.seq
 (.cond (.t 15 false)
  .skip
  (.exit 0 [5]))
 (.seq
 (.block 1
  (.seq
  (.region none [1, 5, 7, 12, 13, 14] [
    .one ⟨some 16, .pure (.iaddr 5), [.t 12 false, .t 14 false], none⟩ (.agg [.str, .str, (.int .i64), .str, (.sl false 5)]),
    .one ⟨some 17, .load 5 true false, [.t 16 false], none⟩ .any,
    .one ⟨some 7, .new 5, [.c (AV.agg [AV.str [], AV.str [], AV.int .i64 0, AV.str [], AV.sl false 5 []])], none⟩ .any,
    .one ⟨none, .store 5, [.t 7 false, .t 17 false], none⟩ .any])
  (.seq
  (.region none [1, 5, 7, 12, 13, 14, 23] [
    .one ⟨some 18, .mov, [.t 5 false], none⟩ .any,
    .one ⟨some 19, .pure (.bin .leq), [.t 18 false, .c (AV.int .i64 64)], none⟩ .any,
    .one ⟨some 20, .mov, [.t 19 false], none⟩ .any,
    .sub [(⟨some 21, .mov, [.t 1 false], some (20, true)⟩, .any),
      (⟨some 22, .pure (.bin .gtr), [.t 21 false, .c (AV.int .i64 0)], some (20, true)⟩, .any),
      (⟨some 23, .pure .pick, [.t 20 false, .t 22 false, .c (AV.bool false)], none⟩, .any)] 23])
  (.cond (.t 23 false)
   (.region none [1, 5, 12, 13, 14] [
     .one ⟨some 24, .mov, [.t 5 false], none⟩ .any,
     .one ⟨some 25, .load 5 true false, [.t 7 false], none⟩ .any,
     .one ⟨some 26, .mov, [.t 1 false], none⟩ .any,
     .one ⟨some 27, .pure (.bin .sub), [.t 26 false, .c (AV.int .i64 1)], none⟩ .any,
     .one ⟨some 28, .call 28, [.t 25 false, .t 27 false], none⟩ .any,
     .one ⟨some 29, .pure (.bin .add), [.t 24 false, .t 28 false], none⟩ .any,
     .one ⟨some 5, .mov, [.t 29 false], none⟩ .any])
   .skip))))
 (.region none [1, 5, 12, 13, 14] [
   .one ⟨some 30, .pure (.bin .add), [.t 14 false, .c (AV.int .i64 1)], none⟩ .any,
   .one ⟨some 14, .mov, [.t 30 false], none⟩ .any])))))
def r28 : RFunc := ⟨32,
 (.seq
 (.region none [1, 2] [
   .one ⟨some 2, .new 5, [.t 0 false], none⟩ .any,
   .one ⟨some 4, .mov, [.c (AV.int .i64 0)], none⟩ .any])
 (.seq
 (.seq
 (.region none [1, 2, 10] [
   .one ⟨some 8, .pure (.faddr 0), [.t 2 false], none⟩ .any,
   .one ⟨some 9, .load 1 false false, [.t 8 false], none⟩ .any,
   .one ⟨some 10, .pure (.bin .eql), [.t 9 false, .c (AV.str [])], none⟩ .any])
 (.cond (.t 10 false)
  (.seq
  (.region none [4] [
    .one ⟨some 4, .mov, [.c (AV.int .i64 1)], none⟩ .any])
  (.ret [4]))
  .skip))
 (.seq
 (.region none [1, 2, 5] [
   .one ⟨some 5, .mov, [.c (AV.int .i64 0)], none⟩ .any])
 (.seq
 (.seq
 (.region none [1, 5, 12, 13, 14] [
   .one ⟨some 11, .pure (.faddr 4), [.t 2 false], none⟩ .any,
   .one ⟨some 12, .load 1 false false, [.t 11 false], none⟩ .any,
   .one ⟨some 13, .pure .lenSl, [.t 12 false], none⟩ .any,
   .one ⟨some 14, .mov, [.c (AV.int .i64 0)], none⟩ .any])
 (.block 0
  (.loop 5 [1, 5, 12, 13, 14] l28_5)))
 (.seq
 (.region none [4] [
   .one ⟨some 31, .mov, [.t 5 false], none⟩ .any,
   .one ⟨some 4, .mov, [.t 31 false], none⟩ .any])
 (.ret [4])))))),
 [.tmp 4 false], false⟩
def a28 : Ann := mkAnn [] [(5, [1, 5, 12, 13, 14])] false [] [] [(0, [1, 2]), (1, [1, 2, 10]), (2, [4]), (3, [1, 2, 5]), (4, [1, 5, 12, 13, 14]), (5, [1, 5, 12, 13, 14, 15]), (6, [1, 5, 7, 12, 13, 14]), (7, [1, 5, 7, 12, 13, 14, 23]), (8, [1, 5, 12, 13, 14]), (9, [1, 5, 12, 13, 14]), (10, [4])] [] [(6, 2, [0, 0, 0, 0, 10])] [] [(0, [5]), (1, [1, 5, 12, 13, 14])] [4] [false] [(7, [(3, none), (3, some 23)])] [(6, 0, (.agg [.str, .str, (.int .i64), .str, (.sl false 5)]))] [5]
set_option maxRecDepth 100000 in
theorem c28 : convFn Try.prog a28 28 = some r28 := by kernel_rfl

/-- drayage/rdep.check -/
def l29_12 : RCode :=
 (.frame
 (.seq
 (.region none [43, 44, 45, 46] [
   .one ⟨some 46, .pure (.bin .lss), [.t 45 false, .t 44 false], none⟩ .any])
 (.seq
 (.cond (.t 46 false)
  .skip
  (.exit 1 []))
 (.seq
 (.block 2
  (.seq
  (.region none [4, 43, 44, 45] [
    .one ⟨some 47, .pure (.iaddr 5), [.t 43 false, .t 45 false], none⟩ (.agg [.str, .str, (.int .i64), .str, (.sl false 5)]),
    .one ⟨some 48, .load 5 true false, [.t 47 false], none⟩ .any,
    .one ⟨some 4, .new 5, [.c (AV.agg [AV.str [], AV.str [], AV.int .i64 0, AV.str [], AV.sl false 5 []])], none⟩ .any,
    .one ⟨none, .store 5, [.t 4 false, .t 48 false], none⟩ .any])
  (.seq
  (.region none [5, 43, 44, 45] [
    .one ⟨some 49, .load 5 true false, [.t 4 false], none⟩ .any,
    .one ⟨some 50, .call 29, [.t 49 false], none⟩ .any,
    .one ⟨some 5, .mov, [.t 50 false], none⟩ .any])
  (.seq
  (.region none [5, 43, 44, 45, 52] [
    .one ⟨some 51, .mov, [.t 5 false], none⟩ .any,
    .one ⟨some 52, .pure (.bin .neq), [.t 51 false, .c (AV.int .i64 0)], none⟩ .any])
  (.cond (.t 52 false)
   (.seq
   (.region none [2] [
     .one ⟨some 53, .mov, [.t 5 false], none⟩ .any,
     .one ⟨some 2, .mov, [.t 53 false], none⟩ .any])
   (.ret [2]))
   .skip)))))
 (.region none [43, 44, 45] [
   .one ⟨some 54, .pure (.bin .add), [.t 45 false, .c (AV.int .i64 1)], none⟩ .any,
   .one ⟨some 45, .mov, [.t 54 false], none⟩ .any])))))
def r29 : RFunc := ⟨55,
 (.seq
 (.region none [1] [
   .one ⟨some 1, .new 5, [.t 0 false], none⟩ .any,
   .one ⟨some 2, .mov, [.c (AV.int .i64 0)], none⟩ .any])
 (.seq
 (.block 0
  (.seq
  (.region none [1, 6] [
    .one ⟨some 7, .pure (.faddr 0), [.t 1 false], none⟩ .any,
    .one ⟨some 8, .load 1 false false, [.t 7 false], none⟩ .any,
    .one ⟨some 9, .pure (.bin .eql), [.t 8 false, .c (AV.str [])], none⟩ .any,
    .one ⟨some 10, .mov, [.t 9 false], none⟩ .any,
    .sub [(⟨some 11, .pure (.faddr 4), [.t 1 false], some (10, true)⟩, .any),
      (⟨some 12, .load 1 false false, [.t 11 false], some (10, true)⟩, .any),
      (⟨some 13, .pure .lenSl, [.t 12 false], some (10, true)⟩, .any),
      (⟨some 14, .pure (.bin .gtr), [.t 13 false, .c (AV.int .i64 0)], some (10, true)⟩, .any),
      (⟨some 15, .pure .pick, [.t 10 false, .t 14 false, .c (AV.bool false)], none⟩, .any)] 15,
    .one ⟨some 6, .mov, [.t 15 false], none⟩ .any])
  (.cond (.t 6 false)
   (.seq
   (.region none [2] [
     .one ⟨some 2, .mov, [.c (AV.int .i64 3)], none⟩ .any])
   (.ret [2]))
   (.seq
   (.region none [1, 16] [
     .one ⟨some 17, .pure (.faddr 0), [.t 1 false], none⟩ .any,
     .one ⟨some 18, .load 1 false false, [.t 17 false], none⟩ .any,
     .one ⟨some 19, .pure (.bin .eql), [.t 18 false, .c (AV.str [])], none⟩ .any,
     .one ⟨some 16, .mov, [.t 19 false], none⟩ .any])
   (.cond (.t 16 false)
    (.seq
    (.region none [2] [
      .one ⟨some 20, .pure (.faddr 1), [.t 1 false], none⟩ .any,
      .one ⟨some 21, .load 3 true false, [.t 20 false], none⟩ .any,
      .one ⟨some 22, .call 48, [.t 21 false], none⟩ .any,
      .one ⟨some 2, .mov, [.t 22 false], none⟩ .any])
    (.ret [2]))
    (.seq
    (.region (some ([], [])) [1, 23] [
      .one ⟨some 24, .call 50, [], none⟩ .any,
      .one ⟨some 25, .pure (.faddr 0), [.t 1 false], none⟩ .any,
      .one ⟨some 26, .load 1 false false, [.t 25 false], none⟩ .any,
      .one ⟨some 27, .call 49, [.t 24 false, .t 26 false], none⟩ .any,
      .one ⟨some 28, .pure (.un .not), [.t 27 false], none⟩ .any,
      .one ⟨some 23, .mov, [.t 28 false], none⟩ .any])
    (.cond (.t 23 false)
     (.seq
     (.region none [2] [
       .one ⟨some 2, .mov, [.c (AV.int .i64 9)], none⟩ .any])
     (.ret [2]))
     (.seq
     (.region none [1, 29] [
       .one ⟨some 30, .pure (.faddr 1), [.t 1 false], none⟩ .any,
       .one ⟨some 31, .load 3 true false, [.t 30 false], none⟩ .any,
       .one ⟨some 32, .build [AV.str [], AV.int .i64 0, AV.str []] [], [], none⟩ .any,
       .one ⟨some 33, .pure (.eqS true [.s, .i, .s]), [.t 31 false, .t 32 false], none⟩ .any,
       .one ⟨some 29, .mov, [.t 33 false], none⟩ .any])
     (.cond (.t 29 false)
      (.seq
      (.region none [2] [
        .one ⟨some 2, .mov, [.c (AV.int .i64 1)], none⟩ .any])
      (.ret [2]))
      (.seq
      (.region none [1, 34] [
        .one ⟨some 35, .pure (.faddr 0), [.t 1 false], none⟩ .any,
        .one ⟨some 36, .load 1 false false, [.t 35 false], none⟩ .any,
        .one ⟨some 37, .pure (.faddr 4), [.t 1 false], none⟩ .any,
        .one ⟨some 38, .load 1 false false, [.t 37 false], none⟩ .any,
        .one ⟨some 39, .pure .lenSl, [.t 38 false], none⟩ .any,
        .one ⟨some 40, .call 51, [.t 36 false, .t 39 false], none⟩ .any,
        .one ⟨some 41, .pure (.un .not), [.t 40 false], none⟩ .any,
        .one ⟨some 34, .mov, [.t 41 false], none⟩ .any])
      (.cond (.t 34 false)
       (.seq
       (.region none [2] [
         .one ⟨some 2, .mov, [.c (AV.int .i64 3)], none⟩ .any])
       (.ret [2]))
       .skip)))))))))))
 (.seq
 (.seq
 (.region none [43, 44, 45] [
   .one ⟨some 42, .pure (.faddr 4), [.t 1 false], none⟩ .any,
   .one ⟨some 43, .load 1 false false, [.t 42 false], none⟩ .any,
   .one ⟨some 44, .pure .lenSl, [.t 43 false], none⟩ .any,
   .one ⟨some 45, .mov, [.c (AV.int .i64 0)], none⟩ .any])
 (.block 1
  (.loop 12 [43, 44, 45] l29_12)))
 (.seq
 (.region none [2] [
   .one ⟨some 2, .mov, [.c (AV.int .i64 0)], none⟩ .any])
 (.ret [2]))))),
 [.tmp 2 false], false⟩
def a29 : Ann := mkAnn [] [(12, [43, 44, 45])] false [(5, [])] [] [(0, [1]), (1, [1, 6]), (2, [2]), (3, [1, 16]), (4, [2]), (5, [1, 23]), (6, [2]), (7, [1, 29]), (8, [2]), (9, [1, 34]), (10, [2]), (11, [43, 44, 45]), (12, [43, 44, 45, 46]), (13, [4, 43, 44, 45]), (14, [5, 43, 44, 45]), (15, [5, 43, 44, 45, 52]), (16, [2]), (17, [43, 44, 45]), (18, [2])] [] [(13, 2, [0, 0, 0, 0, 10])] [] [(0, [1]), (1, []), (2, [43, 44, 45])] [2] [false] [(1, [(4, none), (5, some 15)])] [(13, 0, (.agg [.str, .str, (.int .i64), .str, (.sl false 5)]))] [12]
set_option maxRecDepth 100000 in
theorem c29 : convFn Try.prog a29 29 = some r29 := by kernel_rfl

/-- strings.IndexByte -/
def r37 : RFunc := ⟨8,
 (.seq
 (.region none [0, 1] [
   .one ⟨some 4, .mov, [.c (AV.int .i64 0)], none⟩ .any])
 (.seq
 (.region none [4] [
   .one ⟨some 5, .mov, [.t 0 false], none⟩ .any,
   .one ⟨some 6, .mov, [.t 1 false], none⟩ .any,
   .one ⟨some 7, .call 60, [.t 5 false, .t 6 false], none⟩ .any,
   .one ⟨some 4, .mov, [.t 7 false], none⟩ .any])
 (.ret [4]))),
 [.tmp 4 false], false⟩
def a37 : Ann := mkAnn [] [] false [] [] [(0, [0, 1]), (1, [4])] [] [] [] [] [4] [false] [] [] []
set_option maxRecDepth 100000 in
theorem c37 : convFn Try.prog a37 37 = some r37 := by kernel_rfl

/-- (*drayage/rdep.reader).take -/
def r38 : RFunc := ⟨30,
 (.seq
 (.region none [0, 2] [
   .one ⟨some 2, .new 2, [.c (AV.agg [AV.str [], AV.int .i64 0])], none⟩ .any])
 (.seq
 (.region (some ([10, 11], [])) [0, 2, 3] [
   .one ⟨some 4, .mov, [.t 0 false], none⟩ .any,
   .one ⟨some 5, .pure .nilck, [.t 4 false], none⟩ .any,
   .one ⟨some 6, .pure (.faddr 0), [.t 5 false], none⟩ .any,
   .one ⟨some 7, .load 1 false false, [.t 6 false], none⟩ .any,
   .one ⟨some 8, .mov, [.t 0 false], none⟩ .any,
   .one ⟨some 9, .pure .nilck, [.t 8 false], none⟩ .any,
   .one ⟨some 10, .pure (.faddr 1), [.t 9 false], none⟩ .any,
   .one ⟨some 11, .load 1 false false, [.t 10 false], none⟩ .any,
   .one ⟨some 12, .pure (.iaddr 2), [.t 7 false, .t 11 false], none⟩ (.agg [.str, (.int .i64)]),
   .one ⟨some 13, .load 2 true false, [.t 12 false], none⟩ .any,
   .one ⟨some 3, .new 2, [.c (AV.agg [AV.str [], AV.int .i64 0])], none⟩ .any,
   .one ⟨none, .store 2, [.t 3 false, .t 13 false], none⟩ .any])
 (.seq
 (.region (some ([15], [])) [2, 3] [
   .one ⟨some 14, .mov, [.t 0 false], none⟩ .any,
   .one ⟨some 15, .mov, [.t 0 false], none⟩ .any,
   .one ⟨some 16, .pure .nilck, [.t 15 false], none⟩ .any,
   .one ⟨some 17, .pure (.faddr 1), [.t 16 false], none⟩ .any,
   .one ⟨some 18, .load 1 false false, [.t 17 false], none⟩ .any,
   .one ⟨some 19, .pure (.bin .add), [.t 18 false, .c (AV.int .i64 1)], none⟩ .any,
   .one ⟨some 20, .mov, [.t 0 false], none⟩ .any,
   .one ⟨some 21, .pure .nilck, [.t 20 false], none⟩ .any,
   .one ⟨some 22, .pure (.faddr 0), [.t 21 false], none⟩ .any,
   .one ⟨some 23, .load 1 false false, [.t 22 false], none⟩ .any,
   .one ⟨some 24, .pure .lenSl, [.t 23 false], none⟩ .any,
   .one ⟨some 25, .pure (.bin .sub), [.t 24 false, .c (AV.int .i64 1)], none⟩ .any,
   .one ⟨some 26, .pure .minI, [.t 19 false, .t 25 false], none⟩ .any,
   .one ⟨some 27, .pure .nilck, [.t 14 false], none⟩ .any,
   .one ⟨some 28, .pure (.faddr 1), [.t 27 false], none⟩ .any,
   .one ⟨none, .store 1, [.t 28 false, .t 26 false], none⟩ .any])
 (.seq
 (.region none [2] [
   .one ⟨some 29, .load 2 true false, [.t 3 false], none⟩ .any,
   .one ⟨none, .store 2, [.t 2 false, .t 29 false], none⟩ .any])
 (.ret [2]))))),
 [.cell 2 2 true], false⟩
def a38 : Ann := mkAnn [] [] false [(1, [10, 11]), (2, [15])] [] [(0, [0, 2]), (1, [0, 2, 3]), (2, [2, 3]), (3, [2])] [] [] [] [] [2] [false] [] [(1, 8, (.agg [.str, (.int .i64)]))] []
set_option maxRecDepth 100000 in
theorem c38 : convFn Try.prog a38 38 = some r38 := by kernel_rfl

/-- (drayage/rdep.part).plain -/
def r39 : RFunc := ⟨16,
 (.seq
 (.region none [1] [
   .one ⟨some 1, .new 2, [.t 0 false], none⟩ .any,
   .one ⟨some 2, .mov, [.c (AV.bool false)], none⟩ .any])
 (.seq
 (.region none [2] [
   .one ⟨some 3, .pure (.faddr 0), [.t 1 false], none⟩ .any,
   .one ⟨some 4, .load 1 false false, [.t 3 false], none⟩ .any,
   .one ⟨some 5, .pure (.bin .neq), [.t 4 false, .c (AV.str [])], none⟩ .any,
   .one ⟨some 6, .mov, [.t 5 false], none⟩ .any,
   .sub [(⟨some 7, .pure (.faddr 0), [.t 1 false], some (6, true)⟩, .any),
     (⟨some 8, .load 1 false false, [.t 7 false], some (6, true)⟩, .any),
     (⟨some 9, .pure (.bin .neq), [.t 8 false, .c (AV.str [40])], some (6, true)⟩, .any),
     (⟨some 10, .pure .pick, [.t 6 false, .t 9 false, .c (AV.bool false)], none⟩, .any)] 10,
   .one ⟨some 11, .mov, [.t 10 false], none⟩ .any,
   .sub [(⟨some 12, .pure (.faddr 0), [.t 1 false], some (11, true)⟩, .any),
     (⟨some 13, .load 1 false false, [.t 12 false], some (11, true)⟩, .any),
     (⟨some 14, .pure (.bin .neq), [.t 13 false, .c (AV.str [41])], some (11, true)⟩, .any),
     (⟨some 15, .pure .pick, [.t 11 false, .t 14 false, .c (AV.bool false)], none⟩, .any)] 15,
   .one ⟨some 2, .mov, [.t 15 false], none⟩ .any])
 (.ret [2]))),
 [.tmp 2 false], false⟩
def a39 : Ann := mkAnn [] [] false [] [] [(0, [1]), (1, [2])] [] [] [] [] [2] [false] [(1, [(4, none), (4, some 10), (1, none), (4, some 15)])] [] []
set_option maxRecDepth 100000 in
theorem c39 : convFn Try.prog a39 39 = some r39 := by kernel_rfl

/-- (*drayage/rdep.reader).atom -/
def k40_7 : RCode :=
 (.frame
 (.seq
 (.region (some ([9], [])) [0, 6, 7] [
   .one ⟨some 33, .call 45, [], none⟩ .any,
   .one ⟨some 34, .pure (.sliceSl 1 true false), [.t 33 false, .c (AV.int .i64 1)], none⟩ .any,
   .one ⟨some 35, .mov, [.t 0 false], none⟩ .any,
   .one ⟨some 36, .call 22, [.t 35 false], none⟩ .any,
   .one ⟨some 37, .pure (.field 0 1 false), [.t 36 false], none⟩ .any,
   .one ⟨some 38, .call 61, [.t 34 false, .t 37 false], none⟩ .any,
   .one ⟨some 39, .pure (.bin .add), [.t 38 false, .c (AV.int .i64 1)], none⟩ .any,
   .one ⟨some 40, .pure .maxI, [.t 39 false, .c (AV.int .i64 0)], none⟩ .any,
   .one ⟨some 41, .pure (.faddr 1), [.t 7 false], none⟩ .any,
   .one ⟨none, .store 1, [.t 41 false, .t 40 false], none⟩ .any])
 (.seq
 (.seq
 (.region none [0, 6, 7, 44] [
   .one ⟨some 42, .pure (.faddr 1), [.t 7 false], none⟩ .any,
   .one ⟨some 43, .load 1 false false, [.t 42 false], none⟩ .any,
   .one ⟨some 44, .pure (.bin .eql), [.t 43 false, .c (AV.int .i64 0)], none⟩ .any])
 (.cond (.t 44 false)
  (.seq
  (.region none [6] [
    .one ⟨some 45, .load 3 true false, [.t 7 false], none⟩ .any,
    .one ⟨none, .store 3, [.t 6 false, .t 45 false], none⟩ .any])
  (.ret [6]))
  .skip))
 (.seq
 (.region none [0, 6, 7] [
   .one ⟨some 46, .mov, [.t 0 false], none⟩ .any,
   .one ⟨some 47, .call 38, [.t 46 false], none⟩ .any])
 (.seq
 (.region none [0, 6, 7, 8] [
   .one ⟨some 48, .mov, [.t 0 false], none⟩ .any,
   .one ⟨some 49, .call 38, [.t 48 false], none⟩ .any,
   .one ⟨some 8, .new 2, [.c (AV.agg [AV.str [], AV.int .i64 0])], none⟩ .any,
   .one ⟨none, .store 2, [.t 8 false, .t 49 false], none⟩ .any])
 (.seq
 (.seq
 (.region none [0, 6, 7, 8, 52] [
   .one ⟨some 50, .load 2 true false, [.t 8 false], none⟩ .any,
   .one ⟨some 51, .call 39, [.t 50 false], none⟩ .any,
   .one ⟨some 52, .pure (.un .not), [.t 51 false], none⟩ .any])
 (.cond (.t 52 false)
  (.seq
  (.region none [6, 7] [
    .one ⟨some 53, .mov, [.t 0 false], none⟩ .any,
    .one ⟨some 54, .pure (.faddr 1), [.t 8 false], none⟩ .any,
    .one ⟨some 55, .load 1 false false, [.t 54 false], none⟩ .any,
    .one ⟨some 56, .call 23, [.t 53 false, .t 55 false, .c (AV.int .i64 3)], none⟩ .any])
  (.seq
  (.region none [6] [
    .one ⟨some 57, .load 3 true false, [.t 7 false], none⟩ .any,
    .one ⟨none, .store 3, [.t 6 false, .t 57 false], none⟩ .any])
  (.ret [6])))
  .skip))
 (.seq
 (.region none [0, 6, 7, 8] [
   .one ⟨some 58, .pure (.faddr 0), [.t 8 false], none⟩ .any,
   .one ⟨some 59, .load 1 false false, [.t 58 false], none⟩ .any,
   .one ⟨some 60, .pure (.faddr 2), [.t 7 false], none⟩ .any,
   .one ⟨none, .store 1, [.t 60 false, .t 59 false], none⟩ .any])
 (.seq
 (.region (some ([6], [])) [6, 7] [
   .one ⟨some 61, .mov, [.t 0 false], none⟩ .any,
   .one ⟨some 62, .pure (.faddr 1), [.t 8 false], none⟩ .any,
   .one ⟨some 63, .load 1 false false, [.t 62 false], none⟩ .any,
   .one ⟨some 64, .pure (.faddr 0), [.t 8 false], none⟩ .any,
   .one ⟨some 65, .load 1 false false, [.t 64 false], none⟩ .any,
   .one ⟨some 66, .call 62, [.c (AV.int .i64 2), .t 65 false], none⟩ .any,
   .one ⟨some 67, .call 23, [.t 61 false, .t 63 false, .t 66 false], none⟩ .any])
 (.seq
 (.region none [6] [
   .one ⟨some 68, .load 3 true false, [.t 7 false], none⟩ .any,
   .one ⟨none, .store 3, [.t 6 false, .t 68 false], none⟩ .any])
 (.ret [6]))))))))))
def k40_5 : RCode :=
 (.seq
 (.seq
 (.region none [0, 4, 6, 7, 28] [
   .one ⟨some 25, .pure (.faddr 0), [.t 4 false], none⟩ .any,
   .one ⟨some 26, .load 1 false false, [.t 25 false], none⟩ .any,
   .one ⟨some 27, .call 19, [.t 26 false], none⟩ .any,
   .one ⟨some 28, .pure (.un .not), [.t 27 false], none⟩ .any])
 (.cond (.t 28 false)
  (.region none [0, 6, 7] [
    .one ⟨some 29, .mov, [.t 0 false], none⟩ .any,
    .one ⟨some 30, .pure (.faddr 1), [.t 4 false], none⟩ .any,
    .one ⟨some 31, .load 1 false false, [.t 30 false], none⟩ .any,
    .one ⟨some 32, .call 23, [.t 29 false, .t 31 false, .c (AV.int .i64 10)], none⟩ .any])
  .skip))
 (.cut 100007 [0, 6, 7] [6] k40_7))
def r40 : RFunc := ⟨69,
 (.seq
 (.region none [0, 2, 4, 6] [
   .one ⟨some 4, .new 2, [.t 1 false], none⟩ .any,
   .one ⟨some 6, .new 3, [.c (AV.agg [AV.str [], AV.int .i64 0, AV.str []])], none⟩ .any])
 (.seq
 (.region none [0, 2, 4, 6, 7] [
   .one ⟨some 9, .pure (.faddr 0), [.t 4 false], none⟩ .any,
   .one ⟨some 10, .load 1 false false, [.t 9 false], none⟩ .any,
   .one ⟨some 11, .build [AV.str [], AV.int .i64 0, AV.str []] [(0, 1)], [.t 10 false], none⟩ .any,
   .one ⟨some 7, .new 3, [.c (AV.agg [AV.str [], AV.int .i64 0, AV.str []])], none⟩ .any,
   .one ⟨none, .store 3, [.t 7 false, .t 11 false], none⟩ .any])
 (.seq
 (.seq
 (.region none [0, 2, 4, 6, 7] [
   .one ⟨some 12, .mov, [.t 2 false], none⟩ .any,
   .one ⟨some 13, .pure .nilck, [.t 12 false], none⟩ .any,
   .one ⟨some 14, .load 1 false false, [.t 13 false], none⟩ .any,
   .one ⟨some 15, .pure (.bin .add), [.t 14 false, .c (AV.int .i64 1)], none⟩ .any,
   .one ⟨some 16, .pure .nilck, [.t 12 false], none⟩ .any,
   .one ⟨none, .store 1, [.t 16 false, .t 15 false], none⟩ .any])
 (.seq
 (.region none [0, 4, 6, 7, 20] [
   .one ⟨some 17, .mov, [.t 2 false], none⟩ .any,
   .one ⟨some 18, .pure .nilck, [.t 17 false], none⟩ .any,
   .one ⟨some 19, .load 1 false false, [.t 18 false], none⟩ .any,
   .one ⟨some 20, .pure (.bin .gtr), [.t 19 false, .c (AV.int .i64 64)], none⟩ .any])
 (.cond (.t 20 false)
  (.region none [0, 4, 6, 7] [
    .one ⟨some 21, .mov, [.t 0 false], none⟩ .any,
    .one ⟨some 22, .pure (.faddr 1), [.t 4 false], none⟩ .any,
    .one ⟨some 23, .load 1 false false, [.t 22 false], none⟩ .any,
    .one ⟨some 24, .call 23, [.t 21 false, .t 23 false, .c (AV.int .i64 4)], none⟩ .any])
  .skip)))
 (.cut 100005 [0, 4, 6, 7] [6] k40_5)))),
 [.cell 6 3 true], false⟩
def a40 : Ann := mkAnn [] [] false [(7, [9]), (16, [6])] [] [(0, [0, 2, 4, 6]), (1, [0, 2, 4, 6, 7]), (2, [0, 2, 4, 6, 7]), (3, [0, 4, 6, 7, 20]), (4, [0, 4, 6, 7]), (5, [0, 4, 6, 7, 28]), (6, [0, 6, 7]), (7, [0, 6, 7]), (8, [0, 6, 7, 44]), (9, [6]), (10, [0, 6, 7]), (11, [0, 6, 7, 8]), (12, [0, 6, 7, 8, 52]), (13, [6, 7]), (14, [6]), (15, [0, 6, 7, 8]), (16, [6, 7]), (17, [6])] [] [] [(5, [0, 4, 6, 7], [6]), (7, [0, 6, 7], [6])] [] [6] [false] [] [] [100007]
set_option maxRecDepth 100000 in
theorem c40 : convFn Try.prog a40 40 = some r40 := by kernel_rfl

/-- (*drayage/rdep.reader).rich -/
def l41_0 : RCode :=
 (.frame
 (.seq
 (.seq
 (.region none [0, 1, 2, 3, 16] [
   .one ⟨some 11, .mov, [.t 0 false], none⟩ .any,
   .one ⟨some 12, .pure .nilck, [.t 11 false], none⟩ .any,
   .one ⟨some 13, .pure (.faddr 2), [.t 12 false], none⟩ .any,
   .one ⟨some 14, .pure (.faddr 2), [.t 13 false], none⟩ .any,
   .one ⟨some 15, .load 1 false false, [.t 14 false], none⟩ .any,
   .one ⟨some 16, .pure (.bin .eql), [.t 15 false, .c (AV.int .i64 0)], none⟩ .any])
 (.cond (.t 16 false)
  .skip
  (.exit 0 [])))
 (.block 1
  (.seq
  (.region none [0, 1, 2, 3, 8] [
    .one ⟨some 17, .mov, [.t 0 false], none⟩ .any,
    .one ⟨some 18, .mov, [.t 2 false], none⟩ .any,
    .one ⟨some 19, .mov, [.t 3 false], none⟩ .any,
    .one ⟨some 20, .call 21, [.t 17 false, .t 18 false, .t 19 false], none⟩ .any,
    .one ⟨some 8, .new 5, [.c (AV.agg [AV.str [], AV.str [], AV.int .i64 0, AV.str [], AV.sl false 5 []])], none⟩ .any,
    .one ⟨none, .store 5, [.t 8 false, .t 20 false], none⟩ .any])
  (.seq
  (.region (some ([3, 12], [])) [0, 1, 2, 3] [
    .one ⟨some 21, .mov, [.t 1 false], none⟩ .any,
    .one ⟨some 22, .pure .nilck, [.t 21 false], none⟩ .any,
    .one ⟨some 23, .pure (.faddr 4), [.t 22 false], none⟩ .any,
    .one ⟨some 24, .load 1 false true, [.t 23 true], none⟩ .any,
    .one ⟨some 25, .load 5 true false, [.t 8 false], none⟩ .any,
    .one ⟨some 26, .pure .lenSl, [.t 24 false], none⟩ .any,
    .one ⟨some 27, .bslice 5 true 1, [.c (AV.agg [AV.str [], AV.str [], AV.int .i64 0, AV.str [], AV.sl false 0 []])], none⟩ .any,
    .one ⟨some 28, .appendZ 5 80 true, [.t 27 false, .t 26 false, .t 24 true, .t 25 false], none⟩ .any,
    .one ⟨some 29, .pure (.iaddr 5), [.t 28 false, .t 26 false], none⟩ (.agg [.str, .str, (.int .i64), .str, (.sl false 5)]),
    .one ⟨none, .chk, [.t 29 false], none⟩ .any,
    .one ⟨some 30, .pure .nilck, [.t 21 false], none⟩ .any,
    .one ⟨some 31, .pure (.faddr 4), [.t 30 false], none⟩ .any,
    .one ⟨none, .store 1, [.t 31 false, .t 28 true], none⟩ .any])
  (.seq
  (.region none [0, 1, 2, 3, 9] [
    .one ⟨some 32, .mov, [.t 0 false], none⟩ .any,
    .one ⟨some 33, .call 38, [.t 32 false], none⟩ .any,
    .one ⟨some 9, .new 2, [.c (AV.agg [AV.str [], AV.int .i64 0])], none⟩ .any,
    .one ⟨none, .store 2, [.t 9 false, .t 33 false], none⟩ .any])
  (.seq
  (.region none [0, 1, 2, 3, 9, 10] [
    .one ⟨some 34, .mov, [.t 1 false], none⟩ .any,
    .one ⟨some 35, .pure .nilck, [.t 34 false], none⟩ .any,
    .one ⟨some 36, .pure (.faddr 4), [.t 35 false], none⟩ .any,
    .one ⟨some 37, .load 1 false false, [.t 36 false], none⟩ .any,
    .one ⟨some 38, .pure .lenSl, [.t 37 false], none⟩ .any,
    .one ⟨some 10, .mov, [.t 38 false], none⟩ .any])
  (.block 2
   (.seq
   (.region (some ([], [])) [0, 1, 2, 3, 9, 10, 43] [
     .one ⟨some 44, .mov, [.t 10 false], none⟩ .any,
     .one ⟨some 45, .pure (.bin .eql), [.t 44 false, .c (AV.int .i64 1)], none⟩ .any,
     .one ⟨some 46, .mov, [.t 45 false], none⟩ .any,
     .sub [(⟨some 47, .call 50, [], some (46, true)⟩, .any),
       (⟨some 48, .pure (.faddr 0), [.t 9 false], some (46, true)⟩, .any),
       (⟨some 49, .load 1 false false, [.t 48 false], some (46, true)⟩, .any),
       (⟨some 50, .call 49, [.t 47 false, .t 49 false], some (46, true)⟩, .any),
       (⟨some 51, .pure .pick, [.t 46 false, .t 50 false, .c (AV.bool false)], none⟩, .any)] 51,
     .one ⟨some 43, .mov, [.t 51 false], none⟩ .any])
   (.cond (.t 43 false)
    (.region none [0, 1, 2, 3] [
      .one ⟨some 52, .mov, [.t 1 false], none⟩ .any,
      .one ⟨some 53, .pure (.faddr 0), [.t 9 false], none⟩ .any,
      .one ⟨some 54, .load 1 false false, [.t 53 false], none⟩ .any,
      .one ⟨some 55, .pure .nilck, [.t 52 false], none⟩ .any,
      .one ⟨some 56, .pure (.faddr 0), [.t 55 false], none⟩ .any,
      .one ⟨none, .store 1, [.t 56 false, .t 54 false], none⟩ .any])
    (.seq
    (.region none [0, 1, 2, 3, 9, 10, 57] [
      .one ⟨some 58, .mov, [.t 10 false], none⟩ .any,
      .one ⟨some 59, .pure (.bin .gtr), [.t 58 false, .c (AV.int .i64 1)], none⟩ .any,
      .one ⟨some 60, .mov, [.t 59 false], none⟩ .any,
      .sub [(⟨some 61, .pure (.faddr 0), [.t 9 false], some (60, true)⟩, .any),
        (⟨some 62, .load 1 false false, [.t 61 false], some (60, true)⟩, .any),
        (⟨some 63, .pure (.bin .eql), [.t 62 false, .c (AV.str [41])], some (60, true)⟩, .any),
        (⟨some 64, .pure .pick, [.t 60 false, .t 63 false, .c (AV.bool false)], none⟩, .any)] 64,
      .one ⟨some 57, .mov, [.t 64 false], none⟩ .any])
    (.cond (.t 57 false)
     (.ret [])
     (.seq
     (.region (some ([], [])) [0, 1, 2, 3, 9, 10, 65] [
       .one ⟨some 66, .mov, [.t 10 false], none⟩ .any,
       .one ⟨some 67, .pure (.bin .gtr), [.t 66 false, .c (AV.int .i64 1)], none⟩ .any,
       .one ⟨some 68, .mov, [.t 67 false], none⟩ .any,
       .sub [(⟨some 69, .mov, [.t 1 false], some (68, true)⟩, .any),
         (⟨some 70, .pure .nilck, [.t 69 false], some (68, true)⟩, .any),
         (⟨some 71, .pure (.faddr 0), [.t 70 false], some (68, true)⟩, .any),
         (⟨some 72, .load 1 false false, [.t 71 false], some (68, true)⟩, .any),
         (⟨some 73, .pure (.bin .eql), [.t 72 false, .c (AV.str [97, 110, 100])], some (68, true)⟩, .any),
         (⟨some 74, .mov, [.t 73 false], some (68, true)⟩, .any),
         (⟨some 75, .mov, [.t 1 false], some (74, false)⟩, .any),
         (⟨some 76, .pure .nilck, [.t 75 false], some (74, false)⟩, .any),
         (⟨some 77, .pure (.faddr 0), [.t 76 false], some (74, false)⟩, .any),
         (⟨some 78, .load 1 false false, [.t 77 false], some (74, false)⟩, .any),
         (⟨some 79, .pure (.bin .eql), [.t 78 false, .c (AV.str [111, 114])], some (74, false)⟩, .any),
         (⟨some 80, .pure .pick, [.t 74 false, .c (AV.bool true), .t 79 false], some (68, true)⟩, .any),
         (⟨some 81, .pure .pick, [.t 68 false, .t 80 false, .c (AV.bool false)], none⟩, .any)] 81,
       .one ⟨some 82, .mov, [.t 81 false], none⟩ .any,
       .sub [(⟨some 83, .pure (.faddr 0), [.t 9 false], some (82, true)⟩, .any),
         (⟨some 84, .load 1 false false, [.t 83 false], some (82, true)⟩, .any),
         (⟨some 85, .mov, [.t 1 false], some (82, true)⟩, .any),
         (⟨some 86, .pure .nilck, [.t 85 false], some (82, true)⟩, .any),
         (⟨some 87, .pure (.faddr 0), [.t 86 false], some (82, true)⟩, .any),
         (⟨some 88, .load 1 false false, [.t 87 false], some (82, true)⟩, .any),
         (⟨some 89, .pure (.bin .eql), [.t 84 false, .t 88 false], some (82, true)⟩, .any),
         (⟨some 90, .pure .pick, [.t 82 false, .t 89 false, .c (AV.bool false)], none⟩, .any)] 90,
       .one ⟨some 65, .mov, [.t 90 false], none⟩ .any])
     (.cond (.t 65 false)
      .skip
      (.seq
      (.region none [0, 1, 2, 3, 9, 91] [
        .one ⟨some 92, .mov, [.t 10 false], none⟩ .any,
        .one ⟨some 93, .pure (.bin .eql), [.t 92 false, .c (AV.int .i64 2)], none⟩ .any,
        .one ⟨some 94, .mov, [.t 93 false], none⟩ .any,
        .sub [(⟨some 95, .mov, [.t 1 false], some (94, true)⟩, .any),
          (⟨some 96, .pure .nilck, [.t 95 false], some (94, true)⟩, .any),
          (⟨some 97, .pure (.faddr 0), [.t 96 false], some (94, true)⟩, .any),
          (⟨some 98, .load 1 false false, [.t 97 false], some (94, true)⟩, .any),
          (⟨some 99, .pure (.bin .eql), [.t 98 false, .c (AV.str [105, 102])], some (94, true)⟩, .any),
          (⟨some 100, .mov, [.t 99 false], some (94, true)⟩, .any),
          (⟨some 101, .mov, [.t 1 false], some (100, false)⟩, .any),
          (⟨some 102, .pure .nilck, [.t 101 false], some (100, false)⟩, .any),
          (⟨some 103, .pure (.faddr 0), [.t 102 false], some (100, false)⟩, .any),
          (⟨some 104, .load 1 false false, [.t 103 false], some (100, false)⟩, .any),
          (⟨some 105, .pure (.bin .eql), [.t 104 false, .c (AV.str [117, 110, 108, 101, 115, 115])], some (100, false)⟩, .any),
          (⟨some 106, .pure .pick, [.t 100 false, .c (AV.bool true), .t 105 false], some (94, true)⟩, .any),
          (⟨some 107, .pure .pick, [.t 94 false, .t 106 false, .c (AV.bool false)], none⟩, .any)] 107,
        .one ⟨some 108, .mov, [.t 107 false], none⟩ .any,
        .sub [(⟨some 109, .pure (.faddr 0), [.t 9 false], some (108, true)⟩, .any),
          (⟨some 110, .load 1 false false, [.t 109 false], some (108, true)⟩, .any),
          (⟨some 111, .pure (.bin .eql), [.t 110 false, .c (AV.str [101, 108, 115, 101])], some (108, true)⟩, .any),
          (⟨some 112, .pure .pick, [.t 108 false, .t 111 false, .c (AV.bool false)], none⟩, .any)] 112,
        .one ⟨some 91, .mov, [.t 112 false], none⟩ .any])
      (.cond (.t 91 false)
       .skip
       (.region none [0, 1, 2, 3] [
         .one ⟨some 39, .mov, [.t 0 false], none⟩ .any,
         .one ⟨some 40, .pure (.faddr 1), [.t 9 false], none⟩ .any,
         .one ⟨some 41, .load 1 false false, [.t 40 false], none⟩ .any,
         .one ⟨some 42, .call 23, [.t 39 false, .t 41 false, .c (AV.int .i64 3)], none⟩ .any])))))))))))))))))
def r41 : RFunc := ⟨113,
 (.block 0
  (.loop 0 [0, 1, 2, 3] l41_0)),
 [], false⟩
def a41 : Ann := mkAnn [(2, 3, [true]), (2, 7, [true]), (2, 12, [false, true])] [(0, [0, 1, 2, 3])] false [(2, [3, 12]), (6, []), (9, [])] [] [(0, [0, 1, 2, 3, 16]), (1, [0, 1, 2, 3, 8]), (2, [0, 1, 2, 3]), (3, [0, 1, 2, 3, 9]), (4, [0, 1, 2, 3, 9, 10]), (5, [0, 1, 2, 3]), (6, [0, 1, 2, 3, 9, 10, 43]), (7, [0, 1, 2, 3]), (8, [0, 1, 2, 3, 9, 10, 57]), (9, [0, 1, 2, 3, 9, 10, 65]), (10, [0, 1, 2, 3, 9, 91])] [(2, 7)] [(1, 4, [0, 0, 0, 0, 10])] [] [(0, []), (1, [0, 1, 2, 3]), (2, [0, 1, 2, 3])] [] [] [(6, [(3, none), (5, some 51)]), (8, [(3, none), (4, some 64)]), (9, [(3, none), (13, some 81), (1, none), (8, some 90)]), (10, [(3, none), (13, some 107), (1, none), (4, some 112)])] [(2, 8, (.agg [.str, .str, (.int .i64), .str, (.sl false 5)]))] [0]
set_option maxRecDepth 100000 in
theorem c41 : convFn Try.prog a41 41 = some r41 := by kernel_rfl

/-- (*drayage/drayageref15.State).atom -/
def r42 : RFunc := ⟨98,
 (.seq
 (.region none [0, 1, 4] [
   .one ⟨some 4, .new 5, [.c (AV.agg [AV.str [], AV.str [], AV.int .i64 0, AV.str [], AV.sl false 5 []])], none⟩ .any])
 (.seq
 (.region none [0, 1, 4] [
   .one ⟨some 9, .mov, [.t 0 false], none⟩ .any,
   .one ⟨some 10, .mov, [.t 0 false], none⟩ .any,
   .one ⟨some 11, .pure .nilck, [.t 10 false], none⟩ .any,
   .one ⟨some 12, .pure (.faddr 5), [.t 11 false], none⟩ .any,
   .one ⟨some 13, .load 1 false false, [.t 12 false], none⟩ .any,
   .one ⟨some 14, .pure (.bin .add), [.t 13 false, .c (AV.int .i64 1)], none⟩ .any,
   .one ⟨some 15, .pure .nilck, [.t 9 false], none⟩ .any,
   .one ⟨some 16, .pure (.faddr 5), [.t 15 false], none⟩ .any,
   .one ⟨none, .store 1, [.t 16 false, .t 14 false], none⟩ .any])
 (.seq
 (.seq
 (.region none [0, 1, 4, 21] [
   .one ⟨some 17, .mov, [.t 0 false], none⟩ .any,
   .one ⟨some 18, .pure .nilck, [.t 17 false], none⟩ .any,
   .one ⟨some 19, .pure (.faddr 5), [.t 18 false], none⟩ .any,
   .one ⟨some 20, .load 1 false false, [.t 19 false], none⟩ .any,
   .one ⟨some 21, .pure (.bin .gtr), [.t 20 false, .c (AV.int .i64 64)], none⟩ .any])
 (.cond (.t 21 false)
  (.seq
  (.region none [4] [
    .one ⟨some 22, .mov, [.t 0 false], none⟩ .any,
    .one ⟨some 23, .call 26, [.t 22 false, .c (AV.int .i64 4)], none⟩ .any])
  (.seq
  (.region none [4] [
    .one ⟨some 24, .build [AV.str [], AV.str [], AV.int .i64 0, AV.str [], AV.sl false 5 []] [], [], none⟩ .any,
    .one ⟨none, .store 5, [.t 4 false, .t 24 false], none⟩ .any])
  (.ret [4])))
  .skip))
 (.seq
 (.seq
 (.region none [0, 1, 4, 27] [
   .one ⟨some 25, .mov, [.t 1 false], none⟩ .any,
   .one ⟨some 26, .call 63, [.t 25 false], none⟩ .any,
   .one ⟨some 27, .pure (.un .not), [.t 26 false], none⟩ .any])
 (.cond (.t 27 false)
  (.seq
  (.region none [4] [
    .one ⟨some 28, .mov, [.t 0 false], none⟩ .any,
    .one ⟨some 29, .call 26, [.t 28 false, .c (AV.int .i64 10)], none⟩ .any])
  (.seq
  (.region none [4] [
    .one ⟨some 30, .build [AV.str [], AV.str [], AV.int .i64 0, AV.str [], AV.sl false 5 []] [], [], none⟩ .any,
    .one ⟨none, .store 5, [.t 4 false, .t 30 false], none⟩ .any])
  (.ret [4])))
  .skip))
 (.seq
 (.region none [0, 1, 4, 5] [
   .one ⟨some 31, .mov, [.t 1 false], none⟩ .any,
   .one ⟨some 32, .build [AV.str [], AV.int .i64 0, AV.str []] [(0, 1)], [.t 31 false], none⟩ .any,
   .one ⟨some 5, .new 3, [.c (AV.agg [AV.str [], AV.int .i64 0, AV.str []])], none⟩ .any,
   .one ⟨none, .store 3, [.t 5 false, .t 32 false], none⟩ .any])
 (.seq
 (.region none [0, 4, 5] [
   .one ⟨some 33, .mov, [.t 0 false], none⟩ .any,
   .one ⟨some 34, .mov, [.t 0 false], none⟩ .any,
   .one ⟨some 35, .pure .nilck, [.t 34 false], none⟩ .any,
   .one ⟨some 36, .pure (.faddr 1), [.t 35 false], none⟩ .any,
   .one ⟨some 37, .load 1 false false, [.t 36 false], none⟩ .any,
   .one ⟨some 38, .mov, [.t 1 false], none⟩ .any,
   .one ⟨some 39, .pure .lenS, [.t 38 false], none⟩ .any,
   .one ⟨some 40, .pure (.bin .add), [.t 37 false, .t 39 false], none⟩ .any,
   .one ⟨some 41, .pure .nilck, [.t 33 false], none⟩ .any,
   .one ⟨some 42, .pure (.faddr 1), [.t 41 false], none⟩ .any,
   .one ⟨none, .store 1, [.t 42 false, .t 40 false], none⟩ .any])
 (.seq
 (.region none [0, 4, 5, 6] [
   .one ⟨some 43, .mov, [.t 0 false], none⟩ .any,
   .one ⟨some 44, .call 25, [.t 43 false], none⟩ .any,
   .one ⟨some 6, .mov, [.t 44 false], none⟩ .any])
 (.seq
 (.region none [0, 4, 5, 6] [
   .one ⟨some 45, .mov, [.t 6 false], none⟩ .any,
   .one ⟨some 46, .call 64, [.t 45 false], none⟩ .any,
   .one ⟨some 47, .pure (.faddr 1), [.t 5 false], none⟩ .any,
   .one ⟨none, .store 1, [.t 47 false, .t 46 false], none⟩ .any])
 (.seq
 (.seq
 (.region none [0, 4, 5, 6, 50] [
   .one ⟨some 48, .pure (.faddr 1), [.t 5 false], none⟩ .any,
   .one ⟨some 49, .load 1 false false, [.t 48 false], none⟩ .any,
   .one ⟨some 50, .pure (.bin .gtr), [.t 49 false, .c (AV.int .i64 0)], none⟩ .any])
 (.cond (.t 50 false)
  (.seq
  (.region none [0, 4, 5] [
    .one ⟨some 51, .mov, [.t 0 false], none⟩ .any,
    .one ⟨some 52, .mov, [.t 0 false], none⟩ .any,
    .one ⟨some 53, .pure .nilck, [.t 52 false], none⟩ .any,
    .one ⟨some 54, .pure (.faddr 1), [.t 53 false], none⟩ .any,
    .one ⟨some 55, .load 1 false false, [.t 54 false], none⟩ .any,
    .one ⟨some 56, .mov, [.t 6 false], none⟩ .any,
    .one ⟨some 57, .pure .lenS, [.t 56 false], none⟩ .any,
    .one ⟨some 58, .pure (.bin .add), [.t 55 false, .t 57 false], none⟩ .any,
    .one ⟨some 59, .pure .nilck, [.t 51 false], none⟩ .any,
    .one ⟨some 60, .pure (.faddr 1), [.t 59 false], none⟩ .any,
    .one ⟨none, .store 1, [.t 60 false, .t 58 false], none⟩ .any])
  (.seq
  (.region none [0, 4, 5, 7] [
    .one ⟨some 61, .mov, [.t 0 false], none⟩ .any,
    .one ⟨some 62, .call 25, [.t 61 false], none⟩ .any,
    .one ⟨some 7, .mov, [.t 62 false], none⟩ .any])
  (.seq
  (.seq
  (.region none [0, 4, 5, 7, 72] [
    .one ⟨some 63, .mov, [.t 7 false], none⟩ .any,
    .one ⟨some 64, .pure (.bin .eql), [.t 63 false, .c (AV.str [])], none⟩ .any,
    .one ⟨some 65, .mov, [.t 64 false], none⟩ .any,
    .sub [(⟨some 66, .mov, [.t 7 false], some (65, false)⟩, .any),
      (⟨some 67, .pure (.bin .eql), [.t 66 false, .c (AV.str [40])], some (65, false)⟩, .any),
      (⟨some 68, .pure .pick, [.t 65 false, .c (AV.bool true), .t 67 false], none⟩, .any)] 68,
    .one ⟨some 69, .mov, [.t 68 false], none⟩ .any,
    .sub [(⟨some 70, .mov, [.t 7 false], some (69, false)⟩, .any),
      (⟨some 71, .pure (.bin .eql), [.t 70 false, .c (AV.str [41])], some (69, false)⟩, .any),
      (⟨some 72, .pure .pick, [.t 69 false, .c (AV.bool true), .t 71 false], none⟩, .any)] 72])
  (.cond (.t 72 false)
   (.seq
   (.region none [4] [
     .one ⟨some 73, .mov, [.t 0 false], none⟩ .any,
     .one ⟨some 74, .call 26, [.t 73 false, .c (AV.int .i64 3)], none⟩ .any])
   (.seq
   (.region none [4] [
     .one ⟨some 75, .build [AV.str [], AV.str [], AV.int .i64 0, AV.str [], AV.sl false 5 []] [], [], none⟩ .any,
     .one ⟨none, .store 5, [.t 4 false, .t 75 false], none⟩ .any])
   (.ret [4])))
   .skip))
  (.seq
  (.seq
  (.region none [0, 4, 5, 7, 8] [
    .one ⟨some 76, .mov, [.t 7 false], none⟩ .any,
    .one ⟨some 77, .call 65, [.c (AV.int .i64 2), .t 76 false], none⟩ .any,
    .one ⟨some 8, .mov, [.t 77 false], none⟩ .any])
  (.seq
  (.region none [0, 4, 5, 7, 8, 79] [
    .one ⟨some 78, .mov, [.t 8 false], none⟩ .any,
    .one ⟨some 79, .pure (.bin .neq), [.t 78 false, .c (AV.int .i64 0)], none⟩ .any])
  (.cond (.t 79 false)
   (.seq
   (.region none [4] [
     .one ⟨some 80, .mov, [.t 0 false], none⟩ .any,
     .one ⟨some 81, .mov, [.t 8 false], none⟩ .any,
     .one ⟨some 82, .call 26, [.t 80 false, .t 81 false], none⟩ .any])
   (.seq
   (.region none [4] [
     .one ⟨some 83, .build [AV.str [], AV.str [], AV.int .i64 0, AV.str [], AV.sl false 5 []] [], [], none⟩ .any,
     .one ⟨none, .store 5, [.t 4 false, .t 83 false], none⟩ .any])
   (.ret [4])))
   .skip)))
  (.seq
  (.region none [0, 4, 5, 7] [
    .one ⟨some 84, .mov, [.t 7 false], none⟩ .any,
    .one ⟨some 85, .pure (.faddr 2), [.t 5 false], none⟩ .any,
    .one ⟨none, .store 1, [.t 85 false, .t 84 false], none⟩ .any])
  (.region none [4, 5] [
    .one ⟨some 86, .mov, [.t 0 false], none⟩ .any,
    .one ⟨some 87, .mov, [.t 0 false], none⟩ .any,
    .one ⟨some 88, .pure .nilck, [.t 87 false], none⟩ .any,
    .one ⟨some 89, .pure (.faddr 1), [.t 88 false], none⟩ .any,
    .one ⟨some 90, .load 1 false false, [.t 89 false], none⟩ .any,
    .one ⟨some 91, .mov, [.t 7 false], none⟩ .any,
    .one ⟨some 92, .pure .lenS, [.t 91 false], none⟩ .any,
    .one ⟨some 93, .pure (.bin .add), [.t 90 false, .t 92 false], none⟩ .any,
    .one ⟨some 94, .pure .nilck, [.t 86 false], none⟩ .any,
    .one ⟨some 95, .pure (.faddr 1), [.t 94 false], none⟩ .any,
    .one ⟨none, .store 1, [.t 95 false, .t 93 false], none⟩ .any]))))))
  .skip))
 (.seq
 (.region none [4] [
   .one ⟨some 96, .load 3 true false, [.t 5 false], none⟩ .any,
   .one ⟨some 97, .build [AV.str [], AV.str [], AV.int .i64 0, AV.str [], AV.sl false 5 []] [(1, 3)], [.t 96 false], none⟩ .any,
   .one ⟨none, .store 5, [.t 4 false, .t 97 false], none⟩ .any])
 (.ret [4]))))))))))),
 [.cell 4 5 true], false⟩
def a42 : Ann := mkAnn [] [] false [] [] [(0, [0, 1, 4]), (1, [0, 1, 4]), (2, [0, 1, 4, 21]), (3, [4]), (4, [4]), (5, [0, 1, 4, 27]), (6, [4]), (7, [4]), (8, [0, 1, 4, 5]), (9, [0, 4, 5]), (10, [0, 4, 5, 6]), (11, [0, 4, 5, 6]), (12, [0, 4, 5, 6, 50]), (13, [0, 4, 5]), (14, [0, 4, 5, 7]), (15, [0, 4, 5, 7, 72]), (16, [4]), (17, [4]), (18, [0, 4, 5, 7, 8]), (19, [0, 4, 5, 7, 8, 79]), (20, [4]), (21, [4]), (22, [0, 4, 5, 7]), (23, [4, 5]), (24, [4])] [] [(0, 0, [0, 0, 0, 0, 10]), (4, 0, [0, 0, 0, 0, 10]), (7, 0, [0, 0, 0, 0, 10]), (17, 0, [0, 0, 0, 0, 10]), (21, 0, [0, 0, 0, 0, 10]), (24, 1, [0, 0, 0, 0, 10])] [] [] [4] [false] [(15, [(3, none), (3, some 68), (1, none), (3, some 72)])] [] []
set_option maxRecDepth 100000 in
theorem c42 : convFn Try.prog a42 42 = some r42 := by kernel_rfl

/-- drayage/drayageref15.Word -/
def r43 : RFunc := ⟨25,
 (.seq
 (.region none [0] [
   .one ⟨some 2, .mov, [.c (AV.bool false)], none⟩ .any])
 (.seq
 (.region none [2] [
   .one ⟨some 3, .mov, [.t 0 false], none⟩ .any,
   .one ⟨some 4, .pure (.bin .eql), [.t 3 false, .c (AV.str [97, 110, 100])], none⟩ .any,
   .one ⟨some 5, .mov, [.t 4 false], none⟩ .any,
   .sub [(⟨some 6, .mov, [.t 0 false], some (5, false)⟩, .any),
     (⟨some 7, .pure (.bin .eql), [.t 6 false, .c (AV.str [111, 114])], some (5, false)⟩, .any),
     (⟨some 8, .pure .pick, [.t 5 false, .c (AV.bool true), .t 7 false], none⟩, .any)] 8,
   .one ⟨some 9, .mov, [.t 8 false], none⟩ .any,
   .sub [(⟨some 10, .mov, [.t 0 false], some (9, false)⟩, .any),
     (⟨some 11, .pure (.bin .eql), [.t 10 false, .c (AV.str [105, 102])], some (9, false)⟩, .any),
     (⟨some 12, .pure .pick, [.t 9 false, .c (AV.bool true), .t 11 false], none⟩, .any)] 12,
   .one ⟨some 13, .mov, [.t 12 false], none⟩ .any,
   .sub [(⟨some 14, .mov, [.t 0 false], some (13, false)⟩, .any),
     (⟨some 15, .pure (.bin .eql), [.t 14 false, .c (AV.str [117, 110, 108, 101, 115, 115])], some (13, false)⟩, .any),
     (⟨some 16, .pure .pick, [.t 13 false, .c (AV.bool true), .t 15 false], none⟩, .any)] 16,
   .one ⟨some 17, .mov, [.t 16 false], none⟩ .any,
   .sub [(⟨some 18, .mov, [.t 0 false], some (17, false)⟩, .any),
     (⟨some 19, .pure (.bin .eql), [.t 18 false, .c (AV.str [119, 105, 116, 104])], some (17, false)⟩, .any),
     (⟨some 20, .pure .pick, [.t 17 false, .c (AV.bool true), .t 19 false], none⟩, .any)] 20,
   .one ⟨some 21, .mov, [.t 20 false], none⟩ .any,
   .sub [(⟨some 22, .mov, [.t 0 false], some (21, false)⟩, .any),
     (⟨some 23, .pure (.bin .eql), [.t 22 false, .c (AV.str [119, 105, 116, 104, 111, 117, 116])], some (21, false)⟩, .any),
     (⟨some 24, .pure .pick, [.t 21 false, .c (AV.bool true), .t 23 false], none⟩, .any)] 24,
   .one ⟨some 2, .mov, [.t 24 false], none⟩ .any])
 (.ret [2]))),
 [.tmp 2 false], false⟩
def a43 : Ann := mkAnn [] [] false [] [] [(0, [0]), (1, [2])] [] [] [] [] [2] [false] [(1, [(3, none), (3, some 8), (1, none), (3, some 12), (1, none), (3, some 16), (1, none), (3, some 20), (1, none), (3, some 24)])] [] []
set_option maxRecDepth 100000 in
theorem c43 : convFn Try.prog a43 43 = some r43 := by kernel_rfl

/-- (*drayage/drayageref15.State).skip -/
def l44_0 : RCode :=
 (.seq
 (.seq
 (.region (some ([], [])) [0, 23] [
   .one ⟨some 2, .mov, [.t 0 false], none⟩ .any,
   .one ⟨some 3, .pure .nilck, [.t 2 false], none⟩ .any,
   .one ⟨some 4, .pure (.faddr 1), [.t 3 false], none⟩ .any,
   .one ⟨some 5, .load 1 false false, [.t 4 false], none⟩ .any,
   .one ⟨some 6, .mov, [.t 0 false], none⟩ .any,
   .one ⟨some 7, .pure .nilck, [.t 6 false], none⟩ .any,
   .one ⟨some 8, .pure (.faddr 0), [.t 7 false], none⟩ .any,
   .one ⟨some 9, .load 1 false false, [.t 8 false], none⟩ .any,
   .one ⟨some 10, .pure .lenS, [.t 9 false], none⟩ .any,
   .one ⟨some 11, .pure (.bin .lss), [.t 5 false, .t 10 false], none⟩ .any,
   .one ⟨some 12, .mov, [.t 11 false], none⟩ .any,
   .sub [(⟨some 13, .mov, [.t 0 false], some (12, true)⟩, .any),
     (⟨some 14, .pure .nilck, [.t 13 false], some (12, true)⟩, .any),
     (⟨some 15, .pure (.faddr 0), [.t 14 false], some (12, true)⟩, .any),
     (⟨some 16, .load 1 false false, [.t 15 false], some (12, true)⟩, .any),
     (⟨some 17, .mov, [.t 0 false], some (12, true)⟩, .any),
     (⟨some 18, .pure .nilck, [.t 17 false], some (12, true)⟩, .any),
     (⟨some 19, .pure (.faddr 1), [.t 18 false], some (12, true)⟩, .any),
     (⟨some 20, .load 1 false false, [.t 19 false], some (12, true)⟩, .any),
     (⟨some 21, .pure .idxStr, [.t 16 false, .t 20 false], some (12, true)⟩, .any),
     (⟨some 22, .pure (.bin .eql), [.t 21 false, .c (AV.int .u8 32)], some (12, true)⟩, .any),
     (⟨some 23, .pure .pick, [.t 12 false, .t 22 false, .c (AV.bool false)], none⟩, .any)] 23])
 (.cond (.t 23 false)
  .skip
  (.exit 0 [])))
 (.block 1
  (.region none [0] [
    .one ⟨some 24, .mov, [.t 0 false], none⟩ .any,
    .one ⟨some 25, .mov, [.t 0 false], none⟩ .any,
    .one ⟨some 26, .pure .nilck, [.t 25 false], none⟩ .any,
    .one ⟨some 27, .pure (.faddr 1), [.t 26 false], none⟩ .any,
    .one ⟨some 28, .load 1 false false, [.t 27 false], none⟩ .any,
    .one ⟨some 29, .pure (.bin .add), [.t 28 false, .c (AV.int .i64 1)], none⟩ .any,
    .one ⟨some 30, .pure .nilck, [.t 24 false], none⟩ .any,
    .one ⟨some 31, .pure (.faddr 1), [.t 30 false], none⟩ .any,
    .one ⟨none, .store 1, [.t 31 false, .t 29 false], none⟩ .any])))
def r44 : RFunc := ⟨32,
 (.block 0
  (.loop 0 [0] l44_0)),
 [], false⟩
def a44 : Ann := mkAnn [] [(0, [0])] false [(0, [])] [] [(0, [0, 23]), (1, [0])] [] [] [] [(0, []), (1, [0])] [] [] [(0, [(11, none), (11, some 23)])] [] []
set_option maxRecDepth 100000 in
theorem c44 : convFn Try.prog a44 44 = some r44 := by kernel_rfl

/-- drayage/rdep.signs -/
def r45 : RFunc := ⟨2,
 (.seq
 (.region none [] [
   .one ⟨some 0, .mov, [.c (AV.sl false 1 [])], none⟩ .any])
 (.seq
 (.region none [0] [
   .one ⟨some 1, .bslice 1 false 6, [.c (AV.str []), .c (AV.str [60]), .c (AV.str [60, 61]), .c (AV.str [61]), .c (AV.str [62, 61]), .c (AV.str [62])], none⟩ .any,
   .one ⟨some 0, .mov, [.t 1 false], none⟩ .any])
 (.ret [0]))),
 [.tmp 0 false], false⟩
def a45 : Ann := mkAnn [] [] false [] [] [(0, []), (1, [0])] [] [(0, 0, [2])] [] [] [0] [false] [] [] []
set_option maxRecDepth 100000 in
theorem c45 : convFn Try.prog a45 45 = some r45 := by kernel_rfl

/-- drayage/rdep.atom -/
def r48 : RFunc := ⟨32,
 (.seq
 (.region none [1] [
   .one ⟨some 1, .new 3, [.t 0 false], none⟩ .any,
   .one ⟨some 2, .mov, [.c (AV.int .i64 0)], none⟩ .any])
 (.seq
 (.block 0
  (.seq
  (.region none [1, 3] [
    .one ⟨some 4, .pure (.faddr 0), [.t 1 false], none⟩ .any,
    .one ⟨some 5, .load 1 false false, [.t 4 false], none⟩ .any,
    .one ⟨some 6, .call 19, [.t 5 false], none⟩ .any,
    .one ⟨some 7, .pure (.un .not), [.t 6 false], none⟩ .any,
    .one ⟨some 3, .mov, [.t 7 false], none⟩ .any])
  (.cond (.t 3 false)
   (.seq
   (.region none [2] [
     .one ⟨some 2, .mov, [.c (AV.int .i64 10)], none⟩ .any])
   (.ret [2]))
   (.seq
   (.seq
   (.region none [1, 8] [
     .one ⟨some 9, .pure (.faddr 1), [.t 1 false], none⟩ .any,
     .one ⟨some 10, .load 1 false false, [.t 9 false], none⟩ .any,
     .one ⟨some 11, .pure (.bin .lss), [.t 10 false, .c (AV.int .i64 0)], none⟩ .any,
     .one ⟨some 12, .mov, [.t 11 false], none⟩ .any,
     .sub [(⟨some 13, .pure (.faddr 1), [.t 1 false], some (12, false)⟩, .any),
       (⟨some 14, .load 1 false false, [.t 13 false], some (12, false)⟩, .any),
       (⟨some 15, .pure (.bin .gtr), [.t 14 false, .c (AV.int .i64 5)], some (12, false)⟩, .any),
       (⟨some 16, .pure .pick, [.t 12 false, .c (AV.bool true), .t 15 false], none⟩, .any)] 16,
     .one ⟨some 8, .mov, [.t 16 false], none⟩ .any])
   (.cond (.t 8 false)
    .skip
    (.region none [1, 8] [
      .one ⟨some 17, .pure (.faddr 1), [.t 1 false], none⟩ .any,
      .one ⟨some 18, .load 1 false false, [.t 17 false], none⟩ .any,
      .one ⟨some 19, .pure (.bin .eql), [.t 18 false, .c (AV.int .i64 0)], none⟩ .any,
      .one ⟨some 20, .mov, [.t 19 false], none⟩ .any,
      .sub [(⟨some 21, .pure (.faddr 2), [.t 1 false], some (20, true)⟩, .any),
        (⟨some 22, .load 1 false false, [.t 21 false], some (20, true)⟩, .any),
        (⟨some 23, .pure (.bin .neq), [.t 22 false, .c (AV.str [])], some (20, true)⟩, .any),
        (⟨some 24, .pure .pick, [.t 20 false, .t 23 false, .c (AV.bool false)], none⟩, .any)] 24,
      .one ⟨some 8, .mov, [.t 24 false], none⟩ .any])))
   (.cond (.t 8 false)
    (.seq
    (.region none [2] [
      .one ⟨some 2, .mov, [.c (AV.int .i64 1)], none⟩ .any])
    (.ret [2]))
    (.seq
    (.region none [1, 25] [
      .one ⟨some 26, .pure (.faddr 1), [.t 1 false], none⟩ .any,
      .one ⟨some 27, .load 1 false false, [.t 26 false], none⟩ .any,
      .one ⟨some 28, .pure (.bin .eql), [.t 27 false, .c (AV.int .i64 0)], none⟩ .any,
      .one ⟨some 25, .mov, [.t 28 false], none⟩ .any])
    (.cond (.t 25 false)
     (.seq
     (.region none [2] [
       .one ⟨some 2, .mov, [.c (AV.int .i64 0)], none⟩ .any])
     (.ret [2]))
     .skip)))))))
 (.seq
 (.region none [2] [
   .one ⟨some 29, .pure (.faddr 2), [.t 1 false], none⟩ .any,
   .one ⟨some 30, .load 1 false false, [.t 29 false], none⟩ .any,
   .one ⟨some 31, .call 62, [.c (AV.int .i64 2), .t 30 false], none⟩ .any,
   .one ⟨some 2, .mov, [.t 31 false], none⟩ .any])
 (.ret [2])))),
 [.tmp 2 false], false⟩
def a48 : Ann := mkAnn [] [] false [] [] [(0, [1]), (1, [1, 3]), (2, [2]), (3, [1, 8]), (4, [1, 8]), (5, [2]), (6, [1, 25]), (7, [2]), (8, [2])] [] [] [] [(0, [1])] [2] [false] [(3, [(4, none), (4, some 16)]), (4, [(4, none), (4, some 24)])] [] []
set_option maxRecDepth 100000 in
theorem c48 : convFn Try.prog a48 48 = some r48 := by kernel_rfl

/-- slices.Contains[[]string,string] -/
def r49 : RFunc := ⟨9,
 (.seq
 (.region none [0, 1] [
   .one ⟨some 4, .mov, [.c (AV.bool false)], none⟩ .any])
 (.seq
 (.region none [4] [
   .one ⟨some 5, .mov, [.t 0 false], none⟩ .any,
   .one ⟨some 6, .mov, [.t 1 false], none⟩ .any,
   .one ⟨some 7, .call 61, [.t 5 false, .t 6 false], none⟩ .any,
   .one ⟨some 8, .pure (.bin .geq), [.t 7 false, .c (AV.int .i64 0)], none⟩ .any,
   .one ⟨some 4, .mov, [.t 8 false], none⟩ .any])
 (.ret [4]))),
 [.tmp 4 false], false⟩
def a49 : Ann := mkAnn [] [] false [] [] [(0, [0, 1]), (1, [4])] [] [] [] [] [4] [false] [] [] []
set_option maxRecDepth 100000 in
theorem c49 : convFn Try.prog a49 49 = some r49 := by kernel_rfl

/-- drayage/rdep.words -/
def r50 : RFunc := ⟨2,
 (.seq
 (.region none [] [
   .one ⟨some 0, .mov, [.c (AV.sl false 1 [])], none⟩ .any])
 (.seq
 (.region none [0] [
   .one ⟨some 1, .bslice 1 false 6, [.c (AV.str [97, 110, 100]), .c (AV.str [111, 114]), .c (AV.str [105, 102]), .c (AV.str [117, 110, 108, 101, 115, 115]), .c (AV.str [119, 105, 116, 104]), .c (AV.str [119, 105, 116, 104, 111, 117, 116])], none⟩ .any,
   .one ⟨some 0, .mov, [.t 1 false], none⟩ .any])
 (.ret [0]))),
 [.tmp 0 false], false⟩
def a50 : Ann := mkAnn [] [] false [] [] [(0, []), (1, [0])] [] [(0, 0, [2])] [] [] [0] [false] [] [] []
set_option maxRecDepth 100000 in
theorem c50 : convFn Try.prog a50 50 = some r50 := by kernel_rfl

/-- drayage/rdep.count -/
def r51 : RFunc := ⟨22,
 (.seq
 (.region none [0, 1] [
   .one ⟨some 4, .mov, [.c (AV.bool false)], none⟩ .any])
 (.seq
 (.seq
 (.region none [1, 5] [
   .one ⟨some 5, .mov, [.t 0 false], none⟩ .any])
 (.block 0
  (.seq
  (.seq
  (.region none [1, 5, 6] [
    .one ⟨some 7, .pure (.bin .eql), [.t 5 false, .c (AV.str [97, 110, 100])], none⟩ .any,
    .one ⟨some 6, .mov, [.t 7 false], none⟩ .any])
  (.cond (.t 6 false)
   .skip
   (.region none [1, 5, 6] [
     .one ⟨some 8, .pure (.bin .eql), [.t 5 false, .c (AV.str [111, 114])], none⟩ .any,
     .one ⟨some 6, .mov, [.t 8 false], none⟩ .any])))
  (.cond (.t 6 false)
   (.seq
   (.region none [4] [
     .one ⟨some 9, .mov, [.t 1 false], none⟩ .any,
     .one ⟨some 10, .pure (.bin .geq), [.t 9 false, .c (AV.int .i64 2)], none⟩ .any,
     .one ⟨some 4, .mov, [.t 10 false], none⟩ .any])
   (.ret [4]))
   (.seq
   (.seq
   (.region none [1, 5, 11] [
     .one ⟨some 12, .pure (.bin .eql), [.t 5 false, .c (AV.str [105, 102])], none⟩ .any,
     .one ⟨some 11, .mov, [.t 12 false], none⟩ .any])
   (.cond (.t 11 false)
    .skip
    (.region none [1, 11] [
      .one ⟨some 13, .pure (.bin .eql), [.t 5 false, .c (AV.str [117, 110, 108, 101, 115, 115])], none⟩ .any,
      .one ⟨some 11, .mov, [.t 13 false], none⟩ .any])))
   (.cond (.t 11 false)
    (.seq
    (.region none [4] [
      .one ⟨some 14, .mov, [.t 1 false], none⟩ .any,
      .one ⟨some 15, .pure (.bin .eql), [.t 14 false, .c (AV.int .i64 2)], none⟩ .any,
      .one ⟨some 16, .mov, [.t 15 false], none⟩ .any,
      .sub [(⟨some 17, .mov, [.t 1 false], some (16, false)⟩, .any),
        (⟨some 18, .pure (.bin .eql), [.t 17 false, .c (AV.int .i64 3)], some (16, false)⟩, .any),
        (⟨some 19, .pure .pick, [.t 16 false, .c (AV.bool true), .t 18 false], none⟩, .any)] 19,
      .one ⟨some 4, .mov, [.t 19 false], none⟩ .any])
    (.ret [4]))
    .skip))))))
 (.seq
 (.region none [4] [
   .one ⟨some 20, .mov, [.t 1 false], none⟩ .any,
   .one ⟨some 21, .pure (.bin .eql), [.t 20 false, .c (AV.int .i64 2)], none⟩ .any,
   .one ⟨some 4, .mov, [.t 21 false], none⟩ .any])
 (.ret [4])))),
 [.tmp 4 false], false⟩
def a51 : Ann := mkAnn [] [] false [] [] [(0, [0, 1]), (1, [1, 5]), (2, [1, 5, 6]), (3, [1, 5, 6]), (4, [4]), (5, [1, 5, 11]), (6, [1, 11]), (7, [4]), (8, [4])] [] [] [] [(0, [1])] [4] [false] [(7, [(3, none), (3, some 19)])] [] []
set_option maxRecDepth 100000 in
theorem c51 : convFn Try.prog a51 51 = some r51 := by kernel_rfl

/-- strings.HasPrefix -/
def r55 : RFunc := ⟨8,
 (.seq
 (.region none [0, 1] [
   .one ⟨some 4, .mov, [.c (AV.bool false)], none⟩ .any])
 (.seq
 (.region none [4] [
   .one ⟨some 5, .mov, [.t 0 false], none⟩ .any,
   .one ⟨some 6, .mov, [.t 1 false], none⟩ .any,
   .one ⟨some 7, .call 70, [.t 5 false, .t 6 false], none⟩ .any,
   .one ⟨some 4, .mov, [.t 7 false], none⟩ .any])
 (.ret [4]))),
 [.tmp 4 false], false⟩
def a55 : Ann := mkAnn [] [] false [] [] [(0, [0, 1]), (1, [4])] [] [] [] [] [4] [false] [] [] []
set_option maxRecDepth 100000 in
theorem c55 : convFn Try.prog a55 55 = some r55 := by kernel_rfl

/-- internal/stringslite.IndexByte -/
def r60 : RFunc := ⟨8,
 (.seq
 (.region none [0, 1] [
   .one ⟨some 4, .mov, [.c (AV.int .i64 0)], none⟩ .any])
 (.seq
 (.region none [4] [
   .one ⟨some 5, .mov, [.t 0 false], none⟩ .any,
   .one ⟨some 6, .mov, [.t 1 false], none⟩ .any,
   .one ⟨some 7, .call 72, [.t 5 false, .t 6 false], none⟩ .any,
   .one ⟨some 4, .mov, [.t 7 false], none⟩ .any])
 (.ret [4]))),
 [.tmp 4 false], false⟩
def a60 : Ann := mkAnn [] [] false [] [] [(0, [0, 1]), (1, [4])] [] [] [] [] [4] [false] [] [] []
set_option maxRecDepth 100000 in
theorem c60 : convFn Try.prog a60 60 = some r60 := by kernel_rfl

/-- slices.Index[[]string,string] -/
def l61_2 : RCode :=
 (.seq
 (.region none [0, 1, 7, 8, 9] [
   .one ⟨some 9, .pure (.bin .lss), [.t 8 false, .t 7 false], none⟩ .any])
 (.seq
 (.cond (.t 9 false)
  .skip
  (.exit 0 []))
 (.seq
 (.block 1
  (.seq
  (.region none [0, 1, 5, 7, 8] [
    .one ⟨some 10, .mov, [.t 8 false], none⟩ .any,
    .one ⟨some 5, .mov, [.t 10 false], none⟩ .any])
  (.seq
  (.region none [0, 1, 5, 7, 8, 16] [
    .one ⟨some 11, .mov, [.t 1 false], none⟩ .any,
    .one ⟨some 12, .mov, [.t 0 false], none⟩ .any,
    .one ⟨some 13, .mov, [.t 5 false], none⟩ .any,
    .one ⟨some 14, .pure (.iaddr 1), [.t 12 false, .t 13 false], none⟩ .str,
    .one ⟨some 15, .load 1 false false, [.t 14 false], none⟩ .any,
    .one ⟨some 16, .pure (.bin .eql), [.t 11 false, .t 15 false], none⟩ .any])
  (.cond (.t 16 false)
   (.seq
   (.region none [4] [
     .one ⟨some 17, .mov, [.t 5 false], none⟩ .any,
     .one ⟨some 4, .mov, [.t 17 false], none⟩ .any])
   (.ret [4]))
   .skip))))
 (.region none [0, 1, 7, 8] [
   .one ⟨some 18, .pure (.bin .add), [.t 8 false, .c (AV.int .i64 1)], none⟩ .any,
   .one ⟨some 8, .mov, [.t 18 false], none⟩ .any]))))
def r61 : RFunc := ⟨19,
 (.seq
 (.region none [0, 1] [
   .one ⟨some 4, .mov, [.c (AV.int .i64 0)], none⟩ .any])
 (.seq
 (.seq
 (.region none [0, 1, 7, 8] [
   .one ⟨some 6, .mov, [.t 0 false], none⟩ .any,
   .one ⟨some 7, .pure .lenSl, [.t 6 false], none⟩ .any,
   .one ⟨some 8, .mov, [.c (AV.int .i64 0)], none⟩ .any])
 (.block 0
  (.loop 2 [0, 1, 7, 8] l61_2)))
 (.seq
 (.region none [4] [
   .one ⟨some 4, .mov, [.c (AV.int .i64 (-1))], none⟩ .any])
 (.ret [4])))),
 [.tmp 4 false], false⟩
def a61 : Ann := mkAnn [] [(2, [0, 1, 7, 8])] false [] [] [(0, [0, 1]), (1, [0, 1, 7, 8]), (2, [0, 1, 7, 8, 9]), (3, [0, 1, 5, 7, 8]), (4, [0, 1, 5, 7, 8, 16]), (5, [4]), (6, [0, 1, 7, 8]), (7, [4])] [] [] [] [(0, []), (1, [0, 1, 7, 8])] [4] [false] [] [(4, 3, .str)] []
set_option maxRecDepth 100000 in
theorem c61 : convFn Try.prog a61 61 = some r61 := by kernel_rfl

/-- drayage/version.Check -/
def r62 : RFunc := ⟨26,
 (.seq
 (.region none [0, 1] [
   .one ⟨some 4, .mov, [.c (AV.int .i64 0)], none⟩ .any])
 (.seq
 (.block 0
  (.seq
  (.region none [0, 1, 7] [
    .one ⟨some 8, .mov, [.t 0 false], none⟩ .any,
    .one ⟨some 9, .pure (.bin .lss), [.t 8 false, .c (AV.int .i64 1)], none⟩ .any,
    .one ⟨some 10, .mov, [.t 9 false], none⟩ .any,
    .sub [(⟨some 11, .mov, [.t 0 false], some (10, false)⟩, .any),
      (⟨some 12, .pure (.bin .gtr), [.t 11 false, .c (AV.int .i64 3)], some (10, false)⟩, .any),
      (⟨some 13, .pure .pick, [.t 10 false, .c (AV.bool true), .t 12 false], none⟩, .any)] 13,
    .one ⟨some 7, .mov, [.t 13 false], none⟩ .any])
  (.cond (.t 7 false)
   (.seq
   (.region none [4] [
     .one ⟨some 4, .mov, [.c (AV.int .i64 9)], none⟩ .any])
   (.ret [4]))
   (.seq
   (.region none [0, 1, 14] [
     .one ⟨some 15, .mov, [.t 1 false], none⟩ .any,
     .one ⟨some 16, .pure .lenS, [.t 15 false], none⟩ .any,
     .one ⟨some 17, .pure (.bin .gtr), [.t 16 false, .c (AV.int .i64 64)], none⟩ .any,
     .one ⟨some 14, .mov, [.t 17 false], none⟩ .any])
   (.cond (.t 14 false)
    (.seq
    (.region none [4] [
      .one ⟨some 4, .mov, [.c (AV.int .i64 4)], none⟩ .any])
    (.ret [4]))
    .skip)))))
 (.seq
 (.seq
 (.region none [6] [
   .one ⟨some 19, .mov, [.t 0 false], none⟩ .any,
   .one ⟨some 20, .mov, [.t 1 false], none⟩ .any,
   .one ⟨some 21, .call 73, [.t 19 false, .t 20 false], none⟩ .any,
   .one ⟨some 18, .mov, [.t 21 false], none⟩ .any,
   .one ⟨some 22, .pure (.extract 0), [.t 18 false], none⟩ .any,
   .one ⟨some 23, .pure (.extract 1), [.t 18 false], none⟩ .any,
   .one ⟨some 5, .new 4, [.c (AV.agg [AV.str [], AV.str [], AV.str [], AV.bool false])], none⟩ .any,
   .one ⟨none, .store 4, [.t 5 false, .t 22 false], none⟩ .any,
   .one ⟨some 6, .mov, [.t 23 false], none⟩ .any])
 (.seq
 (.region none [25] [
   .one ⟨some 24, .mov, [.t 6 false], none⟩ .any,
   .one ⟨some 25, .pure (.un .not), [.t 24 false], none⟩ .any])
 (.cond (.t 25 false)
  (.seq
  (.region none [4] [
    .one ⟨some 4, .mov, [.c (AV.int .i64 3)], none⟩ .any])
  (.ret [4]))
  .skip)))
 (.seq
 (.region none [4] [
   .one ⟨some 4, .mov, [.c (AV.int .i64 0)], none⟩ .any])
 (.ret [4]))))),
 [.tmp 4 false], false⟩
def a62 : Ann := mkAnn [] [] false [] [] [(0, [0, 1]), (1, [0, 1, 7]), (2, [4]), (3, [0, 1, 14]), (4, [4]), (5, [6]), (6, [25]), (7, [4]), (8, [4])] [] [] [] [(0, [0, 1])] [4] [false] [(1, [(3, none), (3, some 13)])] [] []
set_option maxRecDepth 100000 in
theorem c62 : convFn Try.prog a62 62 = some r62 := by kernel_rfl

/-- drayage/drayageref15.Name -/
def l63_5 : RCode :=
 (.seq
 (.seq
 (.region none [0, 3, 4, 17] [
   .one ⟨some 14, .mov, [.t 4 false], none⟩ .any,
   .one ⟨some 15, .mov, [.t 0 false], none⟩ .any,
   .one ⟨some 16, .pure .lenS, [.t 15 false], none⟩ .any,
   .one ⟨some 17, .pure (.bin .lss), [.t 14 false, .t 16 false], none⟩ .any])
 (.cond (.t 17 false)
  .skip
  (.exit 0 [3])))
 (.seq
 (.block 1
  (.seq
  (.region none [0, 3, 4, 5] [
    .one ⟨some 20, .mov, [.t 0 false], none⟩ .any,
    .one ⟨some 21, .mov, [.t 4 false], none⟩ .any,
    .one ⟨some 22, .pure .idxStr, [.t 20 false, .t 21 false], none⟩ .any,
    .one ⟨some 5, .mov, [.t 22 false], none⟩ .any])
  (.seq
  (.seq
  (.region none [0, 3, 4, 5, 48] [
    .one ⟨some 23, .mov, [.t 5 false], none⟩ .any,
    .one ⟨some 24, .pure (.bin .geq), [.t 23 false, .c (AV.int .u8 97)], none⟩ .any,
    .one ⟨some 25, .mov, [.t 24 false], none⟩ .any,
    .sub [(⟨some 26, .mov, [.t 5 false], some (25, true)⟩, .any),
      (⟨some 27, .pure (.bin .leq), [.t 26 false, .c (AV.int .u8 122)], some (25, true)⟩, .any),
      (⟨some 28, .pure .pick, [.t 25 false, .t 27 false, .c (AV.bool false)], none⟩, .any)] 28,
    .one ⟨some 29, .mov, [.t 28 false], none⟩ .any,
    .sub [(⟨some 30, .mov, [.t 5 false], some (29, false)⟩, .any),
      (⟨some 31, .pure (.bin .geq), [.t 30 false, .c (AV.int .u8 65)], some (29, false)⟩, .any),
      (⟨some 32, .mov, [.t 31 false], some (29, false)⟩, .any),
      (⟨some 33, .mov, [.t 5 false], some (32, true)⟩, .any),
      (⟨some 34, .pure (.bin .leq), [.t 33 false, .c (AV.int .u8 90)], some (32, true)⟩, .any),
      (⟨some 35, .pure .pick, [.t 32 false, .t 34 false, .c (AV.bool false)], some (29, false)⟩, .any),
      (⟨some 36, .pure .pick, [.t 29 false, .c (AV.bool true), .t 35 false], none⟩, .any)] 36,
    .one ⟨some 37, .mov, [.t 36 false], none⟩ .any,
    .sub [(⟨some 38, .mov, [.t 5 false], some (37, false)⟩, .any),
      (⟨some 39, .pure (.bin .geq), [.t 38 false, .c (AV.int .u8 48)], some (37, false)⟩, .any),
      (⟨some 40, .mov, [.t 39 false], some (37, false)⟩, .any),
      (⟨some 41, .mov, [.t 5 false], some (40, true)⟩, .any),
      (⟨some 42, .pure (.bin .leq), [.t 41 false, .c (AV.int .u8 57)], some (40, true)⟩, .any),
      (⟨some 43, .pure .pick, [.t 40 false, .t 42 false, .c (AV.bool false)], some (37, false)⟩, .any),
      (⟨some 44, .pure .pick, [.t 37 false, .c (AV.bool true), .t 43 false], none⟩, .any)] 44,
    .one ⟨some 45, .mov, [.t 44 false], none⟩ .any,
    .sub [(⟨some 46, .mov, [.t 5 false], some (45, false)⟩, .any),
      (⟨some 47, .pure (.bin .eql), [.t 46 false, .c (AV.int .u8 47)], some (45, false)⟩, .any),
      (⟨some 48, .pure .pick, [.t 45 false, .c (AV.bool true), .t 47 false], none⟩, .any)] 48])
  (.cond (.t 48 false)
   (.exit 1 [0, 3, 4])
   .skip))
  (.seq
  (.seq
  (.region none [0, 3, 4, 5, 50] [
    .one ⟨some 49, .mov, [.t 4 false], none⟩ .any,
    .one ⟨some 50, .pure (.bin .eql), [.t 49 false, .c (AV.int .i64 0)], none⟩ .any])
  (.cond (.t 50 false)
   (.seq
   (.region none [2] [
     .one ⟨some 2, .mov, [.c (AV.bool false)], none⟩ .any])
   (.ret [2]))
   .skip))
  (.seq
  (.region none [0, 3, 4, 5, 52] [
    .one ⟨some 51, .mov, [.t 5 false], none⟩ .any,
    .one ⟨some 52, .pure (.bin .eql), [.t 51 false, .c (AV.int .u8 40)], none⟩ .any])
  (.cond (.t 52 false)
   (.region none [0, 3, 4] [
     .one ⟨some 53, .mov, [.t 3 false], none⟩ .any,
     .one ⟨some 54, .pure (.bin .add), [.t 53 false, .c (AV.int .i64 1)], none⟩ .any,
     .one ⟨some 3, .mov, [.t 54 false], none⟩ .any])
   (.seq
   (.region none [0, 3, 4, 5, 56] [
     .one ⟨some 55, .mov, [.t 5 false], none⟩ .any,
     .one ⟨some 56, .pure (.bin .eql), [.t 55 false, .c (AV.int .u8 41)], none⟩ .any])
   (.cond (.t 56 false)
    (.seq
    (.region none [0, 3, 4] [
      .one ⟨some 57, .mov, [.t 3 false], none⟩ .any,
      .one ⟨some 58, .pure (.bin .sub), [.t 57 false, .c (AV.int .i64 1)], none⟩ .any,
      .one ⟨some 3, .mov, [.t 58 false], none⟩ .any])
    (.seq
    (.region none [0, 3, 4, 60] [
      .one ⟨some 59, .mov, [.t 3 false], none⟩ .any,
      .one ⟨some 60, .pure (.bin .lss), [.t 59 false, .c (AV.int .i64 0)], none⟩ .any])
    (.cond (.t 60 false)
     (.seq
     (.region none [2] [
       .one ⟨some 2, .mov, [.c (AV.bool false)], none⟩ .any])
     (.ret [2]))
     .skip)))
    (.seq
    (.region none [0, 3, 4, 78] [
      .one ⟨some 61, .mov, [.t 5 false], none⟩ .any,
      .one ⟨some 62, .pure (.bin .neq), [.t 61 false, .c (AV.int .u8 46)], none⟩ .any,
      .one ⟨some 63, .mov, [.t 62 false], none⟩ .any,
      .sub [(⟨some 64, .mov, [.t 5 false], some (63, true)⟩, .any),
        (⟨some 65, .pure (.bin .neq), [.t 64 false, .c (AV.int .u8 95)], some (63, true)⟩, .any),
        (⟨some 66, .pure .pick, [.t 63 false, .t 65 false, .c (AV.bool false)], none⟩, .any)] 66,
      .one ⟨some 67, .mov, [.t 66 false], none⟩ .any,
      .sub [(⟨some 68, .mov, [.t 5 false], some (67, true)⟩, .any),
        (⟨some 69, .pure (.bin .neq), [.t 68 false, .c (AV.int .u8 43)], some (67, true)⟩, .any),
        (⟨some 70, .pure .pick, [.t 67 false, .t 69 false, .c (AV.bool false)], none⟩, .any)] 70,
      .one ⟨some 71, .mov, [.t 70 false], none⟩ .any,
      .sub [(⟨some 72, .mov, [.t 5 false], some (71, true)⟩, .any),
        (⟨some 73, .pure (.bin .neq), [.t 72 false, .c (AV.int .u8 45)], some (71, true)⟩, .any),
        (⟨some 74, .pure .pick, [.t 71 false, .t 73 false, .c (AV.bool false)], none⟩, .any)] 74,
      .one ⟨some 75, .mov, [.t 74 false], none⟩ .any,
      .sub [(⟨some 76, .mov, [.t 5 false], some (75, true)⟩, .any),
        (⟨some 77, .pure (.bin .neq), [.t 76 false, .c (AV.int .u8 58)], some (75, true)⟩, .any),
        (⟨some 78, .pure .pick, [.t 75 false, .t 77 false, .c (AV.bool false)], none⟩, .any)] 78])
    (.cond (.t 78 false)
     (.seq
     (.region none [2] [
       .one ⟨some 2, .mov, [.c (AV.bool false)], none⟩ .any])
     (.ret [2]))
     .skip))))))))))
 (.region none [0, 3, 4] [
   .one ⟨some 18, .mov, [.t 4 false], none⟩ .any,
   .one ⟨some 19, .pure (.bin .add), [.t 18 false, .c (AV.int .i64 1)], none⟩ .any,
   .one ⟨some 4, .mov, [.t 19 false], none⟩ .any])))
def r63 : RFunc := ⟨81,
 (.seq
 (.region none [0] [
   .one ⟨some 2, .mov, [.c (AV.bool false)], none⟩ .any])
 (.seq
 (.seq
 (.region none [0, 13] [
   .one ⟨some 6, .mov, [.t 0 false], none⟩ .any,
   .one ⟨some 7, .pure .lenS, [.t 6 false], none⟩ .any,
   .one ⟨some 8, .pure (.bin .lss), [.t 7 false, .c (AV.int .i64 1)], none⟩ .any,
   .one ⟨some 9, .mov, [.t 8 false], none⟩ .any,
   .sub [(⟨some 10, .mov, [.t 0 false], some (9, false)⟩, .any),
     (⟨some 11, .pure .lenS, [.t 10 false], some (9, false)⟩, .any),
     (⟨some 12, .pure (.bin .gtr), [.t 11 false, .c (AV.int .i64 64)], some (9, false)⟩, .any),
     (⟨some 13, .pure .pick, [.t 9 false, .c (AV.bool true), .t 12 false], none⟩, .any)] 13])
 (.cond (.t 13 false)
  (.seq
  (.region none [2] [
    .one ⟨some 2, .mov, [.c (AV.bool false)], none⟩ .any])
  (.ret [2]))
  .skip))
 (.seq
 (.region none [0, 3] [
   .one ⟨some 3, .mov, [.c (AV.int .i64 0)], none⟩ .any])
 (.seq
 (.seq
 (.region none [0, 3, 4] [
   .one ⟨some 4, .mov, [.c (AV.int .i64 0)], none⟩ .any])
 (.block 0
  (.loop 5 [0, 3, 4] l63_5)))
 (.seq
 (.region none [2] [
   .one ⟨some 79, .mov, [.t 3 false], none⟩ .any,
   .one ⟨some 80, .pure (.bin .eql), [.t 79 false, .c (AV.int .i64 0)], none⟩ .any,
   .one ⟨some 2, .mov, [.t 80 false], none⟩ .any])
 (.ret [2])))))),
 [.tmp 2 false], false⟩
def a63 : Ann := mkAnn [] [(5, [0, 3, 4])] false [] [] [(0, [0]), (1, [0, 13]), (2, [2]), (3, [0, 3]), (4, [0, 3, 4]), (5, [0, 3, 4, 17]), (6, [0, 3, 4]), (7, [0, 3, 4, 5]), (8, [0, 3, 4, 5, 48]), (9, [0, 3, 4, 5, 50]), (10, [2]), (11, [0, 3, 4, 5, 52]), (12, [0, 3, 4]), (13, [0, 3, 4, 5, 56]), (14, [0, 3, 4]), (15, [0, 3, 4, 60]), (16, [2]), (17, [0, 3, 4, 78]), (18, [2]), (19, [2])] [] [] [] [(0, [3]), (1, [0, 3, 4])] [2] [false] [(1, [(4, none), (4, some 13)]), (8, [(3, none), (3, some 28), (1, none), (7, some 36), (1, none), (7, some 44), (1, none), (3, some 48)]), (17, [(3, none), (3, some 66), (1, none), (3, some 70), (1, none), (3, some 74), (1, none), (3, some 78)])] [] []
set_option maxRecDepth 100000 in
theorem c63 : convFn Try.prog a63 63 = some r63 := by kernel_rfl

/-- drayage/drayageref15.Op -/
def l64_2 : RCode :=
 (.seq
 (.seq
 (.region none [0, 3, 5] [
   .one ⟨some 4, .mov, [.t 3 false], none⟩ .any,
   .one ⟨some 5, .pure (.bin .lss), [.t 4 false, .c (AV.int .i64 6)], none⟩ .any])
 (.cond (.t 5 false)
  .skip
  (.exit 0 [])))
 (.seq
 (.block 1
  (.seq
  (.region none [0, 3, 11] [
    .one ⟨some 8, .mov, [.t 3 false], none⟩ .any,
    .one ⟨some 9, .call 74, [.t 8 false], none⟩ .any,
    .one ⟨some 10, .mov, [.t 0 false], none⟩ .any,
    .one ⟨some 11, .pure (.bin .eql), [.t 9 false, .t 10 false], none⟩ .any])
  (.cond (.t 11 false)
   (.seq
   (.region none [2] [
     .one ⟨some 12, .mov, [.t 3 false], none⟩ .any,
     .one ⟨some 2, .mov, [.t 12 false], none⟩ .any])
   (.ret [2]))
   .skip)))
 (.region none [0, 3] [
   .one ⟨some 6, .mov, [.t 3 false], none⟩ .any,
   .one ⟨some 7, .pure (.bin .add), [.t 6 false, .c (AV.int .i64 1)], none⟩ .any,
   .one ⟨some 3, .mov, [.t 7 false], none⟩ .any])))
def r64 : RFunc := ⟨13,
 (.seq
 (.region none [0] [
   .one ⟨some 2, .mov, [.c (AV.int .i64 0)], none⟩ .any])
 (.seq
 (.seq
 (.region none [0, 3] [
   .one ⟨some 3, .mov, [.c (AV.int .i64 1)], none⟩ .any])
 (.block 0
  (.loop 2 [0, 3] l64_2)))
 (.seq
 (.region none [2] [
   .one ⟨some 2, .mov, [.c (AV.int .i64 0)], none⟩ .any])
 (.ret [2])))),
 [.tmp 2 false], false⟩
def a64 : Ann := mkAnn [] [(2, [0, 3])] false [] [] [(0, [0]), (1, [0, 3]), (2, [0, 3, 5]), (3, [0, 3]), (4, [0, 3, 11]), (5, [2]), (6, [2])] [] [] [] [(0, []), (1, [0, 3])] [2] [false] [] [] []
set_option maxRecDepth 100000 in
theorem c64 : convFn Try.prog a64 64 = some r64 := by kernel_rfl

/-- drayage/drayageref12.Check -/
def r65 : RFunc := ⟨19,
 (.seq
 (.region none [0, 1] [
   .one ⟨some 4, .mov, [.c (AV.int .i64 0)], none⟩ .any])
 (.seq
 (.seq
 (.region none [0, 1, 10] [
   .one ⟨some 5, .mov, [.t 0 false], none⟩ .any,
   .one ⟨some 6, .pure (.bin .lss), [.t 5 false, .c (AV.int .i64 1)], none⟩ .any,
   .one ⟨some 7, .mov, [.t 6 false], none⟩ .any,
   .sub [(⟨some 8, .mov, [.t 0 false], some (7, false)⟩, .any),
     (⟨some 9, .pure (.bin .gtr), [.t 8 false, .c (AV.int .i64 3)], some (7, false)⟩, .any),
     (⟨some 10, .pure .pick, [.t 7 false, .c (AV.bool true), .t 9 false], none⟩, .any)] 10])
 (.cond (.t 10 false)
  (.seq
  (.region none [4] [
    .one ⟨some 4, .mov, [.c (AV.int .i64 9)], none⟩ .any])
  (.ret [4]))
  .skip))
 (.seq
 (.seq
 (.region none [0, 1, 13] [
   .one ⟨some 11, .mov, [.t 1 false], none⟩ .any,
   .one ⟨some 12, .pure .lenS, [.t 11 false], none⟩ .any,
   .one ⟨some 13, .pure (.bin .gtr), [.t 12 false, .c (AV.int .i64 64)], none⟩ .any])
 (.cond (.t 13 false)
  (.seq
  (.region none [4] [
    .one ⟨some 4, .mov, [.c (AV.int .i64 4)], none⟩ .any])
  (.ret [4]))
  .skip))
 (.seq
 (.seq
 (.region none [18] [
   .one ⟨some 14, .mov, [.t 0 false], none⟩ .any,
   .one ⟨some 15, .mov, [.t 1 false], none⟩ .any,
   .one ⟨some 16, .call 75, [.t 14 false, .t 15 false], none⟩ .any,
   .one ⟨some 17, .pure (.field 3 1 false), [.t 16 false], none⟩ .any,
   .one ⟨some 18, .pure (.un .not), [.t 17 false], none⟩ .any])
 (.cond (.t 18 false)
  (.seq
  (.region none [4] [
    .one ⟨some 4, .mov, [.c (AV.int .i64 3)], none⟩ .any])
  (.ret [4]))
  .skip))
 (.seq
 (.region none [4] [
   .one ⟨some 4, .mov, [.c (AV.int .i64 0)], none⟩ .any])
 (.ret [4])))))),
 [.tmp 4 false], false⟩
def a65 : Ann := mkAnn [] [] false [] [] [(0, [0, 1]), (1, [0, 1, 10]), (2, [4]), (3, [0, 1, 13]), (4, [4]), (5, [18]), (6, [4]), (7, [4])] [] [] [] [] [4] [false] [(1, [(3, none), (3, some 10)])] [] []
set_option maxRecDepth 100000 in
theorem c65 : convFn Try.prog a65 65 = some r65 := by kernel_rfl

/-- internal/stringslite.HasPrefix -/
def r70 : RFunc := ⟨18,
 (.seq
 (.region none [0, 1] [
   .one ⟨some 4, .mov, [.c (AV.bool false)], none⟩ .any])
 (.seq
 (.region none [4] [
   .one ⟨some 5, .mov, [.t 0 false], none⟩ .any,
   .one ⟨some 6, .pure .lenS, [.t 5 false], none⟩ .any,
   .one ⟨some 7, .mov, [.t 1 false], none⟩ .any,
   .one ⟨some 8, .pure .lenS, [.t 7 false], none⟩ .any,
   .one ⟨some 9, .pure (.bin .geq), [.t 6 false, .t 8 false], none⟩ .any,
   .one ⟨some 10, .mov, [.t 9 false], none⟩ .any,
   .sub [(⟨some 11, .mov, [.t 0 false], some (10, true)⟩, .any),
     (⟨some 12, .mov, [.t 1 false], some (10, true)⟩, .any),
     (⟨some 13, .pure .lenS, [.t 12 false], some (10, true)⟩, .any),
     (⟨some 14, .pure (.sliceStr false true), [.t 11 false, .t 13 false], some (10, true)⟩, .any),
     (⟨some 15, .mov, [.t 1 false], some (10, true)⟩, .any),
     (⟨some 16, .pure (.bin .eql), [.t 14 false, .t 15 false], some (10, true)⟩, .any),
     (⟨some 17, .pure .pick, [.t 10 false, .t 16 false, .c (AV.bool false)], none⟩, .any)] 17,
   .one ⟨some 4, .mov, [.t 17 false], none⟩ .any])
 (.ret [4]))),
 [.tmp 4 false], false⟩
def a70 : Ann := mkAnn [] [] false [] [] [(0, [0, 1]), (1, [4])] [] [] [] [] [4] [false] [(1, [(6, none), (7, some 17)])] [] []
set_option maxRecDepth 100000 in
theorem c70 : convFn Try.prog a70 70 = some r70 := by kernel_rfl

/-- drayage/version.part -/
def k73_17 : RCode :=
 (.seq
 (.region (some ([24], [])) [4, 5] [
   .one ⟨some 90, .load 4 true false, [.t 4 false], none⟩ .any,
   .one ⟨some 91, .mov, [.t 5 false], none⟩ .any,
   .one ⟨some 92, .mov, [.t 91 false], none⟩ .any,
   .sub [(⟨some 93, .pure (.faddr 1), [.t 4 false], some (92, true)⟩, .any),
     (⟨some 94, .load 1 false false, [.t 93 false], some (92, true)⟩, .any),
     (⟨some 95, .mov, [.t 8 false], some (92, true)⟩, .any),
     (⟨some 96, .call 83, [.t 94 false, .t 95 false], some (92, true)⟩, .any),
     (⟨some 97, .pure .pick, [.t 92 false, .t 96 false, .c (AV.bool false)], none⟩, .any)] 97,
   .one ⟨some 98, .mov, [.t 97 false], none⟩ .any,
   .sub [(⟨some 99, .pure (.faddr 1), [.t 4 false], some (98, true)⟩, .any),
     (⟨some 100, .load 1 false false, [.t 99 false], some (98, true)⟩, .any),
     (⟨some 101, .pure .idxStr, [.t 100 false, .c (AV.int .i64 0)], some (98, true)⟩, .any),
     (⟨some 102, .call 84, [.t 101 false], some (98, true)⟩, .any),
     (⟨some 103, .pure .pick, [.t 98 false, .t 102 false, .c (AV.bool false)], none⟩, .any)] 103,
   .one ⟨some 104, .mov, [.t 103 false], none⟩ .any,
   .sub [(⟨some 105, .pure (.faddr 3), [.t 4 false], some (104, true)⟩, .any),
     (⟨some 106, .load 1 false false, [.t 105 false], some (104, true)⟩, .any),
     (⟨some 107, .pure (.un .not), [.t 106 false], some (104, true)⟩, .any),
     (⟨some 108, .mov, [.t 107 false], some (104, true)⟩, .any),
     (⟨some 109, .pure (.faddr 2), [.t 4 false], some (108, false)⟩, .any),
     (⟨some 110, .load 1 false false, [.t 109 false], some (108, false)⟩, .any),
     (⟨some 111, .call 83, [.t 110 false, .c (AV.str [46, 43, 126])], some (108, false)⟩, .any),
     (⟨some 112, .pure .pick, [.t 108 false, .c (AV.bool true), .t 111 false], some (104, true)⟩, .any),
     (⟨some 113, .pure .pick, [.t 104 false, .t 112 false, .c (AV.bool false)], none⟩, .any)] 113,
   .one ⟨none, .store 4, [.t 4 false, .t 90 false], none⟩ .any,
   .one ⟨some 5, .mov, [.t 113 false], none⟩ .any])
 (.ret [4, 5]))
def k73_11 : RCode :=
 (.seq
 (.seq
 (.region none [4, 5, 58] [
   .one ⟨some 57, .mov, [.t 0 false], none⟩ .any,
   .one ⟨some 58, .pure (.bin .eql), [.t 57 false, .c (AV.int .i64 2)], none⟩ .any])
 (.cond (.t 58 false)
  (.seq
  (.region none [4, 5] [
    .one ⟨some 59, .mov, [.t 5 false], none⟩ .any,
    .one ⟨some 60, .mov, [.t 59 false], none⟩ .any,
    .sub [(⟨some 61, .pure (.faddr 0), [.t 4 false], some (60, true)⟩, .any),
      (⟨some 62, .load 1 false false, [.t 61 false], some (60, true)⟩, .any),
      (⟨some 63, .pure .lenS, [.t 62 false], some (60, true)⟩, .any),
      (⟨some 64, .pure (.bin .lss), [.t 63 false, .c (AV.int .i64 2)], some (60, true)⟩, .any),
      (⟨some 65, .mov, [.t 64 false], some (60, true)⟩, .any),
      (⟨some 66, .pure (.faddr 0), [.t 4 false], some (65, false)⟩, .any),
      (⟨some 67, .load 1 false false, [.t 66 false], some (65, false)⟩, .any),
      (⟨some 68, .pure .idxStr, [.t 67 false, .c (AV.int .i64 0)], some (65, false)⟩, .any),
      (⟨some 69, .pure (.bin .neq), [.t 68 false, .c (AV.int .u8 48)], some (65, false)⟩, .any),
      (⟨some 70, .pure .pick, [.t 65 false, .c (AV.bool true), .t 69 false], some (60, true)⟩, .any),
      (⟨some 71, .pure .pick, [.t 60 false, .t 70 false, .c (AV.bool false)], none⟩, .any)] 71,
    .one ⟨some 5, .mov, [.t 71 false], none⟩ .any])
  (.seq
  (.region (some ([16], [])) [4, 5] [
    .one ⟨some 72, .load 4 true false, [.t 4 false], none⟩ .any,
    .one ⟨some 73, .mov, [.t 5 false], none⟩ .any,
    .one ⟨some 74, .mov, [.t 73 false], none⟩ .any,
    .sub [(⟨some 75, .pure (.faddr 3), [.t 4 false], some (74, true)⟩, .any),
      (⟨some 76, .load 1 false false, [.t 75 false], some (74, true)⟩, .any),
      (⟨some 77, .pure .pick, [.t 74 false, .t 76 false, .c (AV.bool false)], none⟩, .any)] 77,
    .one ⟨some 78, .mov, [.t 77 false], none⟩ .any,
    .sub [(⟨some 79, .pure (.faddr 1), [.t 4 false], some (78, true)⟩, .any),
      (⟨some 80, .load 1 false false, [.t 79 false], some (78, true)⟩, .any),
      (⟨some 81, .call 83, [.t 80 false, .c (AV.str [46, 95, 43, 126, 94])], some (78, true)⟩, .any),
      (⟨some 82, .pure .pick, [.t 78 false, .t 81 false, .c (AV.bool false)], none⟩, .any)] 82,
    .one ⟨some 83, .mov, [.t 82 false], none⟩ .any,
    .sub [(⟨some 84, .pure (.faddr 2), [.t 4 false], some (83, true)⟩, .any),
      (⟨some 85, .load 1 false false, [.t 84 false], some (83, true)⟩, .any),
      (⟨some 86, .call 83, [.t 85 false, .c (AV.str [46, 95, 43, 126, 94])], some (83, true)⟩, .any),
      (⟨some 87, .pure .pick, [.t 83 false, .t 86 false, .c (AV.bool false)], none⟩, .any)] 87,
    .one ⟨none, .store 4, [.t 4 false, .t 72 false], none⟩ .any,
    .one ⟨some 5, .mov, [.t 87 false], none⟩ .any])
  (.ret [4, 5])))
  .skip))
 (.seq
 (.region none [4, 5, 8] [
   .one ⟨some 8, .mov, [.c (AV.str [46, 43, 126])], none⟩ .any])
 (.seq
 (.seq
 (.region none [4, 5, 8, 89] [
   .one ⟨some 88, .pure (.faddr 3), [.t 4 false], none⟩ .any,
   .one ⟨some 89, .load 1 false false, [.t 88 false], none⟩ .any])
 (.cond (.t 89 false)
  (.region none [4, 5, 8] [
    .one ⟨some 8, .mov, [.c (AV.str [46, 43, 126, 45])], none⟩ .any])
  .skip))
 (.cut 100017 [4, 5, 8] [4, 5] k73_17))))
def r73 : RFunc := ⟨114,
 (.seq
 (.region none [0, 1, 4] [
   .one ⟨some 4, .new 4, [.c (AV.agg [AV.str [], AV.str [], AV.str [], AV.bool false])], none⟩ .any,
   .one ⟨some 5, .mov, [.c (AV.bool false)], none⟩ .any])
 (.seq
 (.seq
 (.region none [0, 1, 4, 10] [
   .one ⟨some 9, .mov, [.t 0 false], none⟩ .any,
   .one ⟨some 10, .pure (.bin .eql), [.t 9 false, .c (AV.int .i64 3)], none⟩ .any])
 (.cond (.t 10 false)
  (.seq
  (.region none [1, 4, 5] [
    .one ⟨some 12, .mov, [.t 1 false], none⟩ .any,
    .one ⟨some 13, .call 79, [.t 12 false], none⟩ .any,
    .one ⟨some 11, .mov, [.t 13 false], none⟩ .any,
    .one ⟨some 14, .pure (.extract 0), [.t 11 false], none⟩ .any,
    .one ⟨some 15, .pure (.extract 1), [.t 11 false], none⟩ .any,
    .one ⟨some 5, .mov, [.t 15 false], none⟩ .any])
  (.seq
  (.region none [1, 4, 5, 6] [
    .one ⟨some 16, .mov, [.t 1 false], none⟩ .any,
    .one ⟨some 17, .call 80, [.t 16 false, .c (AV.str [45, 114])], none⟩ .any,
    .one ⟨some 6, .mov, [.t 17 false], none⟩ .any])
  (.seq
  (.seq
  (.region none [1, 4, 5, 6, 19] [
    .one ⟨some 18, .mov, [.t 6 false], none⟩ .any,
    .one ⟨some 19, .pure (.bin .lss), [.t 18 false, .c (AV.int .i64 0)], none⟩ .any])
  (.cond (.t 19 false)
   (.seq
   (.region none [4, 5] [
     .one ⟨some 20, .mov, [.t 1 false], none⟩ .any,
     .one ⟨some 21, .build [AV.str [], AV.str [], AV.str [], AV.bool false] [(1, 1)], [.t 20 false], none⟩ .any,
     .one ⟨some 22, .mov, [.t 5 false], none⟩ .any,
     .one ⟨none, .store 4, [.t 4 false, .t 21 false], none⟩ .any,
     .one ⟨some 5, .mov, [.t 22 false], none⟩ .any])
   (.ret [4, 5]))
   .skip))
  (.seq
  (.region (some ([9], [])) [4, 5] [
    .one ⟨some 23, .mov, [.t 1 false], none⟩ .any,
    .one ⟨some 24, .mov, [.t 6 false], none⟩ .any,
    .one ⟨some 25, .pure (.sliceStr false true), [.t 23 false, .t 24 false], none⟩ .any,
    .one ⟨some 26, .mov, [.t 1 false], none⟩ .any,
    .one ⟨some 27, .mov, [.t 6 false], none⟩ .any,
    .one ⟨some 28, .pure (.bin .add), [.t 27 false, .c (AV.int .i64 2)], none⟩ .any,
    .one ⟨some 29, .pure (.sliceStr true false), [.t 26 false, .t 28 false], none⟩ .any,
    .one ⟨some 30, .build [AV.str [], AV.str [], AV.str [], AV.bool false] [(1, 1), (2, 1), (3, 1)], [.t 25 false, .t 29 false, .c (AV.bool true)], none⟩ .any,
    .one ⟨some 31, .mov, [.t 5 false], none⟩ .any,
    .one ⟨none, .store 4, [.t 4 false, .t 30 false], none⟩ .any,
    .one ⟨some 5, .mov, [.t 31 false], none⟩ .any])
  (.ret [4, 5])))))
  .skip))
 (.seq
 (.region none [0, 4, 5] [
   .one ⟨some 33, .mov, [.t 1 false], none⟩ .any,
   .one ⟨some 34, .call 81, [.t 33 false], none⟩ .any,
   .one ⟨some 32, .mov, [.t 34 false], none⟩ .any,
   .one ⟨some 35, .pure (.extract 0), [.t 32 false], none⟩ .any,
   .one ⟨some 36, .pure (.extract 1), [.t 32 false], none⟩ .any,
   .one ⟨some 37, .pure (.extract 2), [.t 32 false], none⟩ .any,
   .one ⟨some 38, .pure (.faddr 0), [.t 4 false], none⟩ .any,
   .one ⟨none, .store 1, [.t 38 false, .t 35 false], none⟩ .any,
   .one ⟨some 39, .pure (.faddr 1), [.t 4 false], none⟩ .any,
   .one ⟨none, .store 1, [.t 39 false, .t 36 false], none⟩ .any,
   .one ⟨some 5, .mov, [.t 37 false], none⟩ .any])
 (.seq
 (.seq
 (.region none [0, 4, 5, 7] [
   .one ⟨some 40, .pure (.faddr 1), [.t 4 false], none⟩ .any,
   .one ⟨some 41, .load 1 false false, [.t 40 false], none⟩ .any,
   .one ⟨some 42, .call 82, [.t 41 false, .c (AV.int .u8 45)], none⟩ .any,
   .one ⟨some 7, .mov, [.t 42 false], none⟩ .any])
 (.seq
 (.region none [0, 4, 5, 7, 44] [
   .one ⟨some 43, .mov, [.t 7 false], none⟩ .any,
   .one ⟨some 44, .pure (.bin .geq), [.t 43 false, .c (AV.int .i64 0)], none⟩ .any])
 (.cond (.t 44 false)
  (.region (some ([10, 12, 14], [])) [0, 4, 5] [
    .one ⟨some 45, .pure (.faddr 1), [.t 4 false], none⟩ .any,
    .one ⟨some 46, .load 1 false false, [.t 45 false], none⟩ .any,
    .one ⟨some 47, .mov, [.t 7 false], none⟩ .any,
    .one ⟨some 48, .pure (.sliceStr false true), [.t 46 false, .t 47 false], none⟩ .any,
    .one ⟨some 49, .pure (.faddr 1), [.t 4 false], none⟩ .any,
    .one ⟨some 50, .load 1 false false, [.t 49 false], none⟩ .any,
    .one ⟨some 51, .mov, [.t 7 false], none⟩ .any,
    .one ⟨some 52, .pure (.bin .add), [.t 51 false, .c (AV.int .i64 1)], none⟩ .any,
    .one ⟨some 53, .pure (.sliceStr true false), [.t 50 false, .t 52 false], none⟩ .any,
    .one ⟨some 54, .pure (.faddr 1), [.t 4 false], none⟩ .any,
    .one ⟨none, .store 1, [.t 54 false, .t 48 false], none⟩ .any,
    .one ⟨some 55, .pure (.faddr 2), [.t 4 false], none⟩ .any,
    .one ⟨none, .store 1, [.t 55 false, .t 53 false], none⟩ .any,
    .one ⟨some 56, .pure (.faddr 3), [.t 4 false], none⟩ .any,
    .one ⟨none, .store 1, [.t 56 false, .c (AV.bool true)], none⟩ .any])
  .skip)))
 (.cut 100011 [0, 4, 5] [4, 5] k73_11))))),
 [.cell 4 4 true, .tmp 5 false], false⟩
def a73 : Ann := mkAnn [] [] false [(6, [9]), (10, [10, 12, 14]), (13, [16]), (17, [24])] [] [(0, [0, 1, 4]), (1, [0, 1, 4, 10]), (2, [1, 4, 5]), (3, [1, 4, 5, 6]), (4, [1, 4, 5, 6, 19]), (5, [4, 5]), (6, [4, 5]), (7, [0, 4, 5]), (8, [0, 4, 5, 7]), (9, [0, 4, 5, 7, 44]), (10, [0, 4, 5]), (11, [4, 5, 58]), (12, [4, 5]), (13, [4, 5]), (14, [4, 5, 8]), (15, [4, 5, 8, 89]), (16, [4, 5, 8]), (17, [4, 5])] [] [] [(11, [0, 4, 5], [4, 5]), (17, [4, 5, 8], [4, 5])] [] [4, 5] [false, false] [(12, [(2, none), (11, some 71)]), (13, [(3, none), (3, some 77), (1, none), (4, some 82), (1, none), (4, some 87)]), (17, [(3, none), (5, some 97), (1, none), (5, some 103), (1, none), (9, some 113)])] [] []
set_option maxRecDepth 100000 in
theorem c73 : convFn Try.prog a73 73 = some r73 := by kernel_rfl

/-- drayage/drayageref15.sign -/
def r74 : RFunc := ⟨9,
 (.seq
 (.region none [0] [
   .one ⟨some 2, .mov, [.c (AV.str [])], none⟩ .any])
 (.seq
 (.region none [0, 3] [
   .one ⟨some 4, .bslice 1 false 6, [.c (AV.str []), .c (AV.str [60]), .c (AV.str [60, 61]), .c (AV.str [61]), .c (AV.str [62, 61]), .c (AV.str [62])], none⟩ .any,
   .one ⟨some 3, .mov, [.t 4 false], none⟩ .any])
 (.seq
 (.region none [2] [
   .one ⟨some 5, .mov, [.t 3 false], none⟩ .any,
   .one ⟨some 6, .mov, [.t 0 false], none⟩ .any,
   .one ⟨some 7, .pure (.iaddr 1), [.t 5 false, .t 6 false], none⟩ .str,
   .one ⟨some 8, .load 1 false false, [.t 7 false], none⟩ .any,
   .one ⟨some 2, .mov, [.t 8 false], none⟩ .any])
 (.ret [2])))),
 [.tmp 2 false], false⟩
def a74 : Ann := mkAnn [] [] false [] [] [(0, [0]), (1, [0, 3]), (2, [2])] [] [] [] [] [2] [false] [] [(2, 2, .str)] []
set_option maxRecDepth 100000 in
theorem c74 : convFn Try.prog a74 74 = some r74 := by kernel_rfl

/-- drayage/drayageref12.Part -/
def k75_28 : RCode :=
 (.seq
 (.seq
 (.region none [4, 7, 150] [
   .one ⟨some 148, .pure (.faddr 3), [.t 7 false], none⟩ .any,
   .one ⟨some 149, .load 1 false false, [.t 148 false], none⟩ .any,
   .one ⟨some 150, .pure (.un .not), [.t 149 false], none⟩ .any])
 (.cond (.t 150 false)
  (.seq
  (.region none [4] [
    .one ⟨some 151, .build [AV.str [], AV.str [], AV.str [], AV.bool false] [], [], none⟩ .any,
    .one ⟨none, .store 4, [.t 4 false, .t 151 false], none⟩ .any])
  (.ret [4]))
  .skip))
 (.seq
 (.region none [4] [
   .one ⟨some 152, .load 4 true false, [.t 7 false], none⟩ .any,
   .one ⟨none, .store 4, [.t 4 false, .t 152 false], none⟩ .any])
 (.ret [4])))
def k75_23 : RCode :=
 (.seq
 (.seq
 (.region none [4, 7, 9, 95] [
   .one ⟨some 94, .mov, [.t 0 false], none⟩ .any,
   .one ⟨some 95, .pure (.bin .eql), [.t 94 false, .c (AV.int .i64 2)], none⟩ .any])
 (.cond (.t 95 false)
  (.region none [4, 7] [
    .one ⟨some 96, .mov, [.t 9 false], none⟩ .any,
    .one ⟨some 97, .pure (.bin .geq), [.t 96 false, .c (AV.int .i64 0)], none⟩ .any,
    .one ⟨some 98, .mov, [.t 97 false], none⟩ .any,
    .sub [(⟨some 99, .pure (.faddr 1), [.t 7 false], some (98, true)⟩, .any),
      (⟨some 100, .load 1 false false, [.t 99 false], some (98, true)⟩, .any),
      (⟨some 101, .call 88, [.t 100 false, .c (AV.str [46, 95, 43, 126, 94])], some (98, true)⟩, .any),
      (⟨some 102, .pure .pick, [.t 98 false, .t 101 false, .c (AV.bool false)], none⟩, .any)] 102,
    .one ⟨some 103, .mov, [.t 102 false], none⟩ .any,
    .sub [(⟨some 104, .pure (.faddr 2), [.t 7 false], some (103, true)⟩, .any),
      (⟨some 105, .load 1 false false, [.t 104 false], some (103, true)⟩, .any),
      (⟨some 106, .call 88, [.t 105 false, .c (AV.str [46, 95, 43, 126, 94])], some (103, true)⟩, .any),
      (⟨some 107, .pure .pick, [.t 103 false, .t 106 false, .c (AV.bool false)], none⟩, .any)] 107,
    .one ⟨some 108, .mov, [.t 107 false], none⟩ .any,
    .sub [(⟨some 109, .pure (.faddr 0), [.t 7 false], some (108, true)⟩, .any),
      (⟨some 110, .load 1 false false, [.t 109 false], some (108, true)⟩, .any),
      (⟨some 111, .pure .lenS, [.t 110 false], some (108, true)⟩, .any),
      (⟨some 112, .pure (.bin .lss), [.t 111 false, .c (AV.int .i64 2)], some (108, true)⟩, .any),
      (⟨some 113, .mov, [.t 112 false], some (108, true)⟩, .any),
      (⟨some 114, .pure (.faddr 0), [.t 7 false], some (113, false)⟩, .any),
      (⟨some 115, .load 1 false false, [.t 114 false], some (113, false)⟩, .any),
      (⟨some 116, .pure .idxStr, [.t 115 false, .c (AV.int .i64 0)], some (113, false)⟩, .any),
      (⟨some 117, .pure (.bin .neq), [.t 116 false, .c (AV.int .u8 48)], some (113, false)⟩, .any),
      (⟨some 118, .pure .pick, [.t 113 false, .c (AV.bool true), .t 117 false], some (108, true)⟩, .any),
      (⟨some 119, .pure .pick, [.t 108 false, .t 118 false, .c (AV.bool false)], none⟩, .any)] 119,
    .one ⟨some 120, .pure (.faddr 3), [.t 7 false], none⟩ .any,
    .one ⟨none, .store 1, [.t 120 false, .t 119 false], none⟩ .any])
  (.seq
  (.region none [4, 7, 122] [
    .one ⟨some 121, .mov, [.t 9 false], none⟩ .any,
    .one ⟨some 122, .pure (.bin .lss), [.t 121 false, .c (AV.int .i64 0)], none⟩ .any])
  (.cond (.t 122 false)
   (.region none [4, 7] [
     .one ⟨some 123, .pure (.faddr 1), [.t 7 false], none⟩ .any,
     .one ⟨some 124, .load 1 false false, [.t 123 false], none⟩ .any,
     .one ⟨some 125, .call 88, [.t 124 false, .c (AV.str [46, 43, 126])], none⟩ .any,
     .one ⟨some 126, .mov, [.t 125 false], none⟩ .any,
     .sub [(⟨some 127, .pure (.faddr 1), [.t 7 false], some (126, true)⟩, .any),
       (⟨some 128, .load 1 false false, [.t 127 false], some (126, true)⟩, .any),
       (⟨some 129, .pure .idxStr, [.t 128 false, .c (AV.int .i64 0)], some (126, true)⟩, .any),
       (⟨some 130, .call 89, [.t 129 false], some (126, true)⟩, .any),
       (⟨some 131, .pure .pick, [.t 126 false, .t 130 false, .c (AV.bool false)], none⟩, .any)] 131,
     .one ⟨some 132, .pure (.faddr 3), [.t 7 false], none⟩ .any,
     .one ⟨none, .store 1, [.t 132 false, .t 131 false], none⟩ .any])
   (.region none [4, 7] [
     .one ⟨some 133, .pure (.faddr 1), [.t 7 false], none⟩ .any,
     .one ⟨some 134, .load 1 false false, [.t 133 false], none⟩ .any,
     .one ⟨some 135, .call 88, [.t 134 false, .c (AV.str [46, 43, 126, 45])], none⟩ .any,
     .one ⟨some 136, .mov, [.t 135 false], none⟩ .any,
     .sub [(⟨some 137, .pure (.faddr 1), [.t 7 false], some (136, true)⟩, .any),
       (⟨some 138, .load 1 false false, [.t 137 false], some (136, true)⟩, .any),
       (⟨some 139, .pure .idxStr, [.t 138 false, .c (AV.int .i64 0)], some (136, true)⟩, .any),
       (⟨some 140, .call 89, [.t 139 false], some (136, true)⟩, .any),
       (⟨some 141, .pure .pick, [.t 136 false, .t 140 false, .c (AV.bool false)], none⟩, .any)] 141,
     .one ⟨some 142, .mov, [.t 141 false], none⟩ .any,
     .sub [(⟨some 143, .pure (.faddr 2), [.t 7 false], some (142, true)⟩, .any),
       (⟨some 144, .load 1 false false, [.t 143 false], some (142, true)⟩, .any),
       (⟨some 145, .call 88, [.t 144 false, .c (AV.str [46, 43, 126])], some (142, true)⟩, .any),
       (⟨some 146, .pure .pick, [.t 142 false, .t 145 false, .c (AV.bool false)], none⟩, .any)] 146,
     .one ⟨some 147, .pure (.faddr 3), [.t 7 false], none⟩ .any,
     .one ⟨none, .store 1, [.t 147 false, .t 146 false], none⟩ .any])))))
 (.cut 100028 [4, 7] [4] k75_28))
def l75_12 : RCode :=
 (.seq
 (.seq
 (.region none [0, 1, 4, 7, 8, 49] [
   .one ⟨some 46, .mov, [.t 8 false], none⟩ .any,
   .one ⟨some 47, .mov, [.t 1 false], none⟩ .any,
   .one ⟨some 48, .pure .lenS, [.t 47 false], none⟩ .any,
   .one ⟨some 49, .pure (.bin .lss), [.t 46 false, .t 48 false], none⟩ .any])
 (.cond (.t 49 false)
  .skip
  (.exit 0 [0, 4, 7])))
 (.seq
 (.block 1
  (.seq
  (.region none [0, 1, 4, 7, 8, 55] [
    .one ⟨some 52, .mov, [.t 1 false], none⟩ .any,
    .one ⟨some 53, .mov, [.t 8 false], none⟩ .any,
    .one ⟨some 54, .pure .idxStr, [.t 52 false, .t 53 false], none⟩ .any,
    .one ⟨some 55, .pure (.bin .eql), [.t 54 false, .c (AV.int .u8 58)], none⟩ .any])
  (.cond (.t 55 false)
   (.seq
   (.seq
   (.region none [0, 1, 4, 7, 8, 67] [
     .one ⟨some 56, .mov, [.t 8 false], none⟩ .any,
     .one ⟨some 57, .pure (.bin .lss), [.t 56 false, .c (AV.int .i64 1)], none⟩ .any,
     .one ⟨some 58, .mov, [.t 57 false], none⟩ .any,
     .sub [(⟨some 59, .mov, [.t 8 false], some (58, false)⟩, .any),
       (⟨some 60, .pure (.bin .gtr), [.t 59 false, .c (AV.int .i64 9)], some (58, false)⟩, .any),
       (⟨some 61, .pure .pick, [.t 58 false, .c (AV.bool true), .t 60 false], none⟩, .any)] 61,
     .one ⟨some 62, .mov, [.t 61 false], none⟩ .any,
     .sub [(⟨some 63, .mov, [.t 1 false], some (62, false)⟩, .any),
       (⟨some 64, .call 86, [.t 63 false], some (62, false)⟩, .any),
       (⟨some 65, .mov, [.t 8 false], some (62, false)⟩, .any),
       (⟨some 66, .pure (.bin .neq), [.t 64 false, .t 65 false], some (62, false)⟩, .any),
       (⟨some 67, .pure .pick, [.t 62 false, .c (AV.bool true), .t 66 false], none⟩, .any)] 67])
   (.cond (.t 67 false)
    (.seq
    (.region none [4] [
      .one ⟨some 68, .build [AV.str [], AV.str [], AV.str [], AV.bool false] [], [], none⟩ .any,
      .one ⟨none, .store 4, [.t 4 false, .t 68 false], none⟩ .any])
    (.ret [4]))
    .skip))
   (.seq
   (.region none [0, 1, 4, 7, 8] [
     .one ⟨some 69, .mov, [.t 1 false], none⟩ .any,
     .one ⟨some 70, .mov, [.t 8 false], none⟩ .any,
     .one ⟨some 71, .pure (.sliceStr false true), [.t 69 false, .t 70 false], none⟩ .any,
     .one ⟨some 72, .pure (.faddr 0), [.t 7 false], none⟩ .any,
     .one ⟨none, .store 1, [.t 72 false, .t 71 false], none⟩ .any])
   (.seq
   (.region none [0, 4, 7] [
     .one ⟨some 73, .mov, [.t 1 false], none⟩ .any,
     .one ⟨some 74, .mov, [.t 8 false], none⟩ .any,
     .one ⟨some 75, .pure (.bin .add), [.t 74 false, .c (AV.int .i64 1)], none⟩ .any,
     .one ⟨some 76, .pure (.sliceStr true false), [.t 73 false, .t 75 false], none⟩ .any,
     .one ⟨some 77, .pure (.faddr 1), [.t 7 false], none⟩ .any,
     .one ⟨none, .store 1, [.t 77 false, .t 76 false], none⟩ .any])
   (.exit 0 [0, 4, 7]))))
   .skip)))
 (.region none [0, 1, 4, 7, 8] [
   .one ⟨some 50, .mov, [.t 8 false], none⟩ .any,
   .one ⟨some 51, .pure (.bin .add), [.t 50 false, .c (AV.int .i64 1)], none⟩ .any,
   .one ⟨some 8, .mov, [.t 51 false], none⟩ .any])))
def r75 : RFunc := ⟨153,
 (.seq
 (.region none [0, 1, 4] [
   .one ⟨some 4, .new 4, [.c (AV.agg [AV.str [], AV.str [], AV.str [], AV.bool false])], none⟩ .any])
 (.seq
 (.seq
 (.region none [0, 1, 4, 11] [
   .one ⟨some 10, .mov, [.t 0 false], none⟩ .any,
   .one ⟨some 11, .pure (.bin .eql), [.t 10 false, .c (AV.int .i64 3)], none⟩ .any])
 (.cond (.t 11 false)
  (.seq
  (.region none [1, 4, 5] [
    .one ⟨some 12, .mov, [.t 1 false], none⟩ .any,
    .one ⟨some 13, .call 85, [.t 12 false], none⟩ .any,
    .one ⟨some 5, .mov, [.t 13 false], none⟩ .any])
  (.seq
  (.seq
  (.region none [1, 4, 5, 16] [
    .one ⟨some 14, .mov, [.t 5 false], none⟩ .any,
    .one ⟨some 15, .pure .lenSl, [.t 14 false], none⟩ .any,
    .one ⟨some 16, .pure (.bin .eql), [.t 15 false, .c (AV.int .i64 0)], none⟩ .any])
  (.cond (.t 16 false)
   (.seq
   (.region none [4] [
     .one ⟨some 17, .build [AV.str [], AV.str [], AV.str [], AV.bool false] [], [], none⟩ .any,
     .one ⟨none, .store 4, [.t 4 false, .t 17 false], none⟩ .any])
   (.ret [4]))
   .skip))
  (.seq
  (.region none [1, 4, 5, 6] [
    .one ⟨some 6, .mov, [.c (AV.str [])], none⟩ .any])
  (.seq
  (.seq
  (.region none [1, 4, 5, 6, 25] [
    .one ⟨some 18, .mov, [.t 5 false], none⟩ .any,
    .one ⟨some 19, .mov, [.t 5 false], none⟩ .any,
    .one ⟨some 20, .pure .lenSl, [.t 19 false], none⟩ .any,
    .one ⟨some 21, .pure (.bin .sub), [.t 20 false, .c (AV.int .i64 1)], none⟩ .any,
    .one ⟨some 22, .pure (.iaddr 3), [.t 18 false, .t 21 false], none⟩ (.agg [(.int .i64), (.int .i64), .str]),
    .one ⟨some 23, .pure (.faddr 0), [.t 22 false], none⟩ .any,
    .one ⟨some 24, .load 1 false false, [.t 23 false], none⟩ .any,
    .one ⟨some 25, .pure (.bin .eql), [.t 24 false, .c (AV.int .i64 2)], none⟩ .any])
  (.cond (.t 25 false)
   (.seq
   (.region none [1, 4, 6] [
     .one ⟨some 26, .mov, [.t 5 false], none⟩ .any,
     .one ⟨some 27, .mov, [.t 5 false], none⟩ .any,
     .one ⟨some 28, .pure .lenSl, [.t 27 false], none⟩ .any,
     .one ⟨some 29, .pure (.bin .sub), [.t 28 false, .c (AV.int .i64 1)], none⟩ .any,
     .one ⟨some 30, .pure (.iaddr 3), [.t 26 false, .t 29 false], none⟩ (.agg [(.int .i64), (.int .i64), .str]),
     .one ⟨some 31, .pure (.faddr 2), [.t 30 false], none⟩ .any,
     .one ⟨some 32, .load 1 false false, [.t 31 false], none⟩ .any,
     .one ⟨some 6, .mov, [.t 32 false], none⟩ .any])
   (.region none [1, 4, 6] [
     .one ⟨some 33, .mov, [.t 1 false], none⟩ .any,
     .one ⟨some 34, .mov, [.t 1 false], none⟩ .any,
     .one ⟨some 35, .pure .lenS, [.t 34 false], none⟩ .any,
     .one ⟨some 36, .mov, [.t 6 false], none⟩ .any,
     .one ⟨some 37, .pure .lenS, [.t 36 false], none⟩ .any,
     .one ⟨some 38, .pure (.bin .sub), [.t 35 false, .t 37 false], none⟩ .any,
     .one ⟨some 39, .pure (.bin .sub), [.t 38 false, .c (AV.int .i64 2)], none⟩ .any,
     .one ⟨some 40, .pure (.sliceStr false true), [.t 33 false, .t 39 false], none⟩ .any,
     .one ⟨some 1, .mov, [.t 40 false], none⟩ .any]))
   .skip))
  (.seq
  (.region none [4] [
    .one ⟨some 41, .mov, [.t 1 false], none⟩ .any,
    .one ⟨some 42, .mov, [.t 6 false], none⟩ .any,
    .one ⟨some 43, .build [AV.str [], AV.str [], AV.str [], AV.bool false] [(1, 1), (2, 1), (3, 1)], [.t 41 false, .t 42 false, .c (AV.bool true)], none⟩ .any,
    .one ⟨none, .store 4, [.t 4 false, .t 43 false], none⟩ .any])
  (.ret [4]))))))
  .skip))
 (.seq
 (.region none [0, 1, 4, 7] [
   .one ⟨some 44, .mov, [.t 1 false], none⟩ .any,
   .one ⟨some 45, .build [AV.str [], AV.str [], AV.str [], AV.bool false] [(1, 1)], [.t 44 false], none⟩ .any,
   .one ⟨some 7, .new 4, [.c (AV.agg [AV.str [], AV.str [], AV.str [], AV.bool false])], none⟩ .any,
   .one ⟨none, .store 4, [.t 7 false, .t 45 false], none⟩ .any])
 (.seq
 (.seq
 (.region none [0, 1, 4, 7, 8] [
   .one ⟨some 8, .mov, [.c (AV.int .i64 0)], none⟩ .any])
 (.block 0
  (.loop 12 [0, 1, 4, 7, 8] l75_12)))
 (.seq
 (.region none [0, 4, 7, 9] [
   .one ⟨some 78, .pure (.faddr 1), [.t 7 false], none⟩ .any,
   .one ⟨some 79, .load 1 false false, [.t 78 false], none⟩ .any,
   .one ⟨some 80, .call 87, [.t 79 false, .c (AV.int .u8 45)], none⟩ .any,
   .one ⟨some 9, .mov, [.t 80 false], none⟩ .any])
 (.seq
 (.seq
 (.region none [0, 4, 7, 9, 82] [
   .one ⟨some 81, .mov, [.t 9 false], none⟩ .any,
   .one ⟨some 82, .pure (.bin .geq), [.t 81 false, .c (AV.int .i64 0)], none⟩ .any])
 (.cond (.t 82 false)
  (.seq
  (.region none [0, 4, 7, 9] [
    .one ⟨some 83, .pure (.faddr 1), [.t 7 false], none⟩ .any,
    .one ⟨some 84, .load 1 false false, [.t 83 false], none⟩ .any,
    .one ⟨some 85, .mov, [.t 9 false], none⟩ .any,
    .one ⟨some 86, .pure (.bin .add), [.t 85 false, .c (AV.int .i64 1)], none⟩ .any,
    .one ⟨some 87, .pure (.sliceStr true false), [.t 84 false, .t 86 false], none⟩ .any,
    .one ⟨some 88, .pure (.faddr 2), [.t 7 false], none⟩ .any,
    .one ⟨none, .store 1, [.t 88 false, .t 87 false], none⟩ .any])
  (.region none [0, 4, 7, 9] [
    .one ⟨some 89, .pure (.faddr 1), [.t 7 false], none⟩ .any,
    .one ⟨some 90, .load 1 false false, [.t 89 false], none⟩ .any,
    .one ⟨some 91, .mov, [.t 9 false], none⟩ .any,
    .one ⟨some 92, .pure (.sliceStr false true), [.t 90 false, .t 91 false], none⟩ .any,
    .one ⟨some 93, .pure (.faddr 1), [.t 7 false], none⟩ .any,
    .one ⟨none, .store 1, [.t 93 false, .t 92 false], none⟩ .any]))
  .skip))
 (.cut 100023 [0, 4, 7, 9] [4] k75_23))))))),
 [.cell 4 4 true], false⟩
def a75 : Ann := mkAnn [] [(12, [0, 1, 4, 7, 8])] false [] [] [(0, [0, 1, 4]), (1, [0, 1, 4, 11]), (2, [1, 4, 5]), (3, [1, 4, 5, 16]), (4, [4]), (5, [1, 4, 5, 6]), (6, [1, 4, 5, 6, 25]), (7, [1, 4, 6]), (8, [1, 4, 6]), (9, [4]), (10, [0, 1, 4, 7]), (11, [0, 1, 4, 7, 8]), (12, [0, 1, 4, 7, 8, 49]), (13, [0, 1, 4, 7, 8]), (14, [0, 1, 4, 7, 8, 55]), (15, [0, 1, 4, 7, 8, 67]), (16, [4]), (17, [0, 1, 4, 7, 8]), (18, [0, 4, 7]), (19, [0, 4, 7, 9]), (20, [0, 4, 7, 9, 82]), (21, [0, 4, 7, 9]), (22, [0, 4, 7, 9]), (23, [4, 7, 9, 95]), (24, [4, 7]), (25, [4, 7, 122]), (26, [4, 7]), (27, [4, 7]), (28, [4, 7, 150]), (29, [4]), (30, [4])] [] [] [(23, [0, 4, 7, 9], [4]), (28, [4, 7], [4])] [(0, [0, 4, 7]), (1, [0, 1, 4, 7, 8])] [4] [false] [(15, [(3, none), (3, some 61), (1, none), (5, some 67)]), (24, [(3, none), (4, some 102), (1, none), (4, some 107), (1, none), (11, some 119)]), (26, [(4, none), (5, some 131)]), (27, [(4, none), (5, some 141), (1, none), (4, some 146)])] [(6, 4, (.agg [(.int .i64), (.int .i64), .str])), (7, 4, (.agg [(.int .i64), (.int .i64), .str]))] []
set_option maxRecDepth 100000 in
theorem c75 : convFn Try.prog a75 75 = some r75 := by kernel_rfl

/-- drayage/version.pieces -/
def k79_20 : RCode :=
  (.seq
  (.region none [4, 8] [
    .one ⟨some 72, .mov, [.t 4 true], none⟩ .any,
    .one ⟨some 73, .mov, [.t 10 false], none⟩ .any,
    .one ⟨some 74, .mov, [.t 9 false], none⟩ .any,
    .one ⟨some 75, .build [AV.int .i64 0, AV.str [], AV.int .i64 0, AV.bool false] [(0, 1), (2, 1)], [.t 73 false, .t 74 false], none⟩ .any,
    .one ⟨some 76, .bslice 4 true 1, [.t 75 false], none⟩ .any,
    .one ⟨some 77, .append 4 40 false, [.t 72 true, .t 76 false], none⟩ .any,
    .one ⟨some 4, .mov, [.t 77 true], none⟩ .any])
  (.seq
  (.region none [4, 8, 11] [
    .one ⟨some 79, .mov, [.t 8 false], none⟩ .any,
    .one ⟨some 80, .call 90, [.t 79 false], none⟩ .any,
    .one ⟨some 78, .mov, [.t 80 false], none⟩ .any,
    .one ⟨some 81, .pure (.extract 0), [.t 78 false], none⟩ .any,
    .one ⟨some 82, .pure (.extract 1), [.t 78 false], none⟩ .any,
    .one ⟨some 11, .mov, [.t 81 false], none⟩ .any,
    .one ⟨some 8, .mov, [.t 82 false], none⟩ .any])
  (.seq
  (.seq
  (.region none [4, 8, 11, 84] [
    .one ⟨some 83, .mov, [.t 11 false], none⟩ .any,
    .one ⟨some 84, .pure (.bin .neq), [.t 83 false, .c (AV.str [])], none⟩ .any])
  (.cond (.t 84 false)
   (.region none [4, 8] [
     .one ⟨some 85, .mov, [.t 4 true], none⟩ .any,
     .one ⟨some 86, .mov, [.t 11 false], none⟩ .any,
     .one ⟨some 87, .build [AV.int .i64 0, AV.str [], AV.int .i64 0, AV.bool false] [(0, 1), (1, 1)], [.c (AV.int .i64 3), .t 86 false], none⟩ .any,
     .one ⟨some 88, .bslice 4 true 1, [.t 87 false], none⟩ .any,
     .one ⟨some 89, .append 4 40 false, [.t 85 true, .t 88 false], none⟩ .any,
     .one ⟨some 4, .mov, [.t 89 true], none⟩ .any])
   .skip))
  (.region none [0, 4] [
    .one ⟨some 90, .mov, [.t 8 false], none⟩ .any,
    .one ⟨some 0, .mov, [.t 90 false], none⟩ .any]))))
def l79_12 : RCode :=
 (.seq
 (.seq
 (.region none [0, 4, 56] [
   .one ⟨some 55, .mov, [.t 0 false], none⟩ .any,
   .one ⟨some 56, .call 91, [.t 55 false, .c (AV.int .u8 95)], none⟩ .any])
 (.cond (.t 56 false)
  .skip
  (.exit 2 [0, 4])))
 (.block 3
  (.seq
  (.region none [4, 7, 8] [
    .one ⟨some 58, .mov, [.t 0 false], none⟩ .any,
    .one ⟨some 59, .pure (.sliceStr true false), [.t 58 false, .c (AV.int .i64 1)], none⟩ .any,
    .one ⟨some 60, .call 92, [.t 59 false], none⟩ .any,
    .one ⟨some 57, .mov, [.t 60 false], none⟩ .any,
    .one ⟨some 61, .pure (.extract 0), [.t 57 false], none⟩ .any,
    .one ⟨some 62, .pure (.extract 1), [.t 57 false], none⟩ .any,
    .one ⟨some 7, .mov, [.t 61 false], none⟩ .any,
    .one ⟨some 8, .mov, [.t 62 false], none⟩ .any])
  (.seq
  (.region none [4, 8, 9] [
    .one ⟨some 63, .bslice 1 false 9, [.c (AV.str [97, 108, 112, 104, 97]), .c (AV.str [98, 101, 116, 97]), .c (AV.str [112, 114, 101]), .c (AV.str [114, 99]), .c (AV.str [99, 118, 115]), .c (AV.str [115, 118, 110]), .c (AV.str [103, 105, 116]), .c (AV.str [104, 103]), .c (AV.str [112])], none⟩ .any,
    .one ⟨some 64, .mov, [.t 7 false], none⟩ .any,
    .one ⟨some 65, .call 61, [.t 63 false, .t 64 false], none⟩ .any,
    .one ⟨some 9, .mov, [.t 65 false], none⟩ .any])
  (.seq
  (.region none [4, 8, 9, 10] [
    .one ⟨some 10, .mov, [.c (AV.int .i64 4)], none⟩ .any])
  (.seq
  (.block 4
   (.seq
   (.region none [4, 8, 9, 10, 66] [
     .one ⟨some 67, .mov, [.t 9 false], none⟩ .any,
     .one ⟨some 68, .pure (.bin .lss), [.t 67 false, .c (AV.int .i64 0)], none⟩ .any,
     .one ⟨some 66, .mov, [.t 68 false], none⟩ .any])
   (.cond (.t 66 false)
    (.seq
    (.region none [2, 3] [
      .one ⟨some 2, .mov, [.c (AV.sl false 4 [])], none⟩ .any,
      .one ⟨some 3, .mov, [.c (AV.bool false)], none⟩ .any])
    (.ret [2, 3]))
    (.seq
    (.region none [4, 8, 9, 10, 69] [
      .one ⟨some 70, .mov, [.t 9 false], none⟩ .any,
      .one ⟨some 71, .pure (.bin .lss), [.t 70 false, .c (AV.int .i64 4)], none⟩ .any,
      .one ⟨some 69, .mov, [.t 71 false], none⟩ .any])
    (.cond (.t 69 false)
     (.region none [4, 8, 9, 10] [
       .one ⟨some 10, .mov, [.c (AV.int .i64 0)], none⟩ .any])
     .skip)))))
  (.cut 100020 [4, 8, 9, 10] [0, 4] k79_20)))))))
def k79_12 : RCode :=
 (.seq
 (.block 2
  (.loop 12 [0, 4] l79_12))
 (.seq
 (.seq
 (.region none [0, 4, 92] [
   .one ⟨some 91, .mov, [.t 0 false], none⟩ .any,
   .one ⟨some 92, .call 55, [.t 91 false, .c (AV.str [45, 114])], none⟩ .any])
 (.cond (.t 92 false)
  (.seq
  (.region none [4, 12, 13] [
    .one ⟨some 94, .mov, [.t 0 false], none⟩ .any,
    .one ⟨some 95, .pure (.sliceStr true false), [.t 94 false, .c (AV.int .i64 2)], none⟩ .any,
    .one ⟨some 96, .call 90, [.t 95 false], none⟩ .any,
    .one ⟨some 93, .mov, [.t 96 false], none⟩ .any,
    .one ⟨some 97, .pure (.extract 0), [.t 93 false], none⟩ .any,
    .one ⟨some 98, .pure (.extract 1), [.t 93 false], none⟩ .any,
    .one ⟨some 12, .mov, [.t 97 false], none⟩ .any,
    .one ⟨some 13, .mov, [.t 98 false], none⟩ .any])
  (.seq
  (.seq
  (.region none [4, 12, 13, 100] [
    .one ⟨some 99, .mov, [.t 12 false], none⟩ .any,
    .one ⟨some 100, .pure (.bin .eql), [.t 99 false, .c (AV.str [])], none⟩ .any])
  (.cond (.t 100 false)
   (.seq
   (.region none [2, 3] [
     .one ⟨some 2, .mov, [.c (AV.sl false 4 [])], none⟩ .any,
     .one ⟨some 3, .mov, [.c (AV.bool false)], none⟩ .any])
   (.ret [2, 3]))
   .skip))
  (.seq
  (.region none [4, 13] [
    .one ⟨some 101, .mov, [.t 4 true], none⟩ .any,
    .one ⟨some 102, .mov, [.t 12 false], none⟩ .any,
    .one ⟨some 103, .build [AV.int .i64 0, AV.str [], AV.int .i64 0, AV.bool false] [(0, 1), (1, 1)], [.c (AV.int .i64 2), .t 102 false], none⟩ .any,
    .one ⟨some 104, .bslice 4 true 1, [.t 103 false], none⟩ .any,
    .one ⟨some 105, .append 4 40 false, [.t 101 true, .t 104 false], none⟩ .any,
    .one ⟨some 4, .mov, [.t 105 true], none⟩ .any])
  (.region none [0, 4] [
    .one ⟨some 106, .mov, [.t 13 false], none⟩ .any,
    .one ⟨some 0, .mov, [.t 106 false], none⟩ .any]))))
  .skip))
 (.seq
 (.region none [2, 3] [
   .one ⟨some 107, .mov, [.t 4 false], none⟩ .any,
   .one ⟨some 108, .mov, [.t 0 false], none⟩ .any,
   .one ⟨some 109, .pure (.bin .eql), [.t 108 false, .c (AV.str [])], none⟩ .any,
   .one ⟨some 2, .mov, [.t 107 false], none⟩ .any,
   .one ⟨some 3, .mov, [.t 109 false], none⟩ .any])
 (.ret [2, 3]))))
def l79_2 : RCode :=
 (.block 1
  (.seq
  (.region none [4, 5, 6] [
    .one ⟨some 15, .mov, [.t 0 false], none⟩ .any,
    .one ⟨some 16, .call 90, [.t 15 false], none⟩ .any,
    .one ⟨some 14, .mov, [.t 16 false], none⟩ .any,
    .one ⟨some 17, .pure (.extract 0), [.t 14 false], none⟩ .any,
    .one ⟨some 18, .pure (.extract 1), [.t 14 false], none⟩ .any,
    .one ⟨some 5, .mov, [.t 17 false], none⟩ .any,
    .one ⟨some 6, .mov, [.t 18 false], none⟩ .any])
  (.seq
  (.seq
  (.region none [4, 5, 6, 20] [
    .one ⟨some 19, .mov, [.t 5 false], none⟩ .any,
    .one ⟨some 20, .pure (.bin .eql), [.t 19 false, .c (AV.str [])], none⟩ .any])
  (.cond (.t 20 false)
   (.seq
   (.region none [2, 3] [
     .one ⟨some 2, .mov, [.c (AV.sl false 4 [])], none⟩ .any,
     .one ⟨some 3, .mov, [.c (AV.bool false)], none⟩ .any])
   (.ret [2, 3]))
   .skip))
  (.seq
  (.region none [4, 6] [
    .one ⟨some 21, .mov, [.t 4 true], none⟩ .any,
    .one ⟨some 22, .mov, [.t 5 false], none⟩ .any,
    .one ⟨some 23, .mov, [.t 4 false], none⟩ .any,
    .one ⟨some 24, .pure .lenSl, [.t 23 false], none⟩ .any,
    .one ⟨some 25, .pure (.bin .eql), [.t 24 false, .c (AV.int .i64 0)], none⟩ .any,
    .one ⟨some 26, .build [AV.int .i64 0, AV.str [], AV.int .i64 0, AV.bool false] [(0, 1), (1, 1), (3, 1)], [.c (AV.int .i64 6), .t 22 false, .t 25 false], none⟩ .any,
    .one ⟨some 27, .bslice 4 true 1, [.t 26 false], none⟩ .any,
    .one ⟨some 28, .append 4 40 false, [.t 21 true, .t 27 false], none⟩ .any,
    .one ⟨some 4, .mov, [.t 28 true], none⟩ .any])
  (.seq
  (.region none [0, 4] [
    .one ⟨some 29, .mov, [.t 6 false], none⟩ .any,
    .one ⟨some 0, .mov, [.t 29 false], none⟩ .any])
  (.seq
  (.seq
  (.region none [0, 4, 32] [
    .one ⟨some 30, .mov, [.t 0 false], none⟩ .any,
    .one ⟨some 31, .call 91, [.t 30 false, .c (AV.int .u8 46)], none⟩ .any,
    .one ⟨some 32, .pure (.un .not), [.t 31 false], none⟩ .any])
  (.cond (.t 32 false)
   (.exit 0 [0, 4])
   .skip))
  (.region none [0, 4] [
    .one ⟨some 33, .mov, [.t 0 false], none⟩ .any,
    .one ⟨some 34, .pure (.sliceStr true false), [.t 33 false, .c (AV.int .i64 1)], none⟩ .any,
    .one ⟨some 0, .mov, [.t 34 false], none⟩ .any])))))))
def r79 : RFunc := ⟨110,
 (.seq
 (.region none [0] [
   .one ⟨some 2, .mov, [.c (AV.sl false 4 [])], none⟩ .any,
   .one ⟨some 3, .mov, [.c (AV.bool false)], none⟩ .any])
 (.seq
 (.region none [0, 4] [
   .one ⟨some 4, .mov, [.c (AV.sl true 4 [])], none⟩ .any])
 (.seq
 (.block 0
  (.loop 2 [0, 4] l79_2))
 (.seq
 (.seq
 (.region none [0, 4, 46] [
   .one ⟨some 35, .mov, [.t 0 false], none⟩ .any,
   .one ⟨some 36, .pure (.bin .neq), [.t 35 false, .c (AV.str [])], none⟩ .any,
   .one ⟨some 37, .mov, [.t 36 false], none⟩ .any,
   .sub [(⟨some 38, .mov, [.t 0 false], some (37, true)⟩, .any),
     (⟨some 39, .pure .idxStr, [.t 38 false, .c (AV.int .i64 0)], some (37, true)⟩, .any),
     (⟨some 40, .pure (.bin .geq), [.t 39 false, .c (AV.int .u8 97)], some (37, true)⟩, .any),
     (⟨some 41, .pure .pick, [.t 37 false, .t 40 false, .c (AV.bool false)], none⟩, .any)] 41,
   .one ⟨some 42, .mov, [.t 41 false], none⟩ .any,
   .sub [(⟨some 43, .mov, [.t 0 false], some (42, true)⟩, .any),
     (⟨some 44, .pure .idxStr, [.t 43 false, .c (AV.int .i64 0)], some (42, true)⟩, .any),
     (⟨some 45, .pure (.bin .leq), [.t 44 false, .c (AV.int .u8 122)], some (42, true)⟩, .any),
     (⟨some 46, .pure .pick, [.t 42 false, .t 45 false, .c (AV.bool false)], none⟩, .any)] 46])
 (.cond (.t 46 false)
  (.seq
  (.region none [0, 4] [
    .one ⟨some 47, .mov, [.t 4 true], none⟩ .any,
    .one ⟨some 48, .mov, [.t 0 false], none⟩ .any,
    .one ⟨some 49, .pure (.sliceStr false true), [.t 48 false, .c (AV.int .i64 1)], none⟩ .any,
    .one ⟨some 50, .build [AV.int .i64 0, AV.str [], AV.int .i64 0, AV.bool false] [(0, 1), (1, 1)], [.c (AV.int .i64 5), .t 49 false], none⟩ .any,
    .one ⟨some 51, .bslice 4 true 1, [.t 50 false], none⟩ .any,
    .one ⟨some 52, .append 4 40 false, [.t 47 true, .t 51 false], none⟩ .any,
    .one ⟨some 4, .mov, [.t 52 true], none⟩ .any])
  (.region none [0, 4] [
    .one ⟨some 53, .mov, [.t 0 false], none⟩ .any,
    .one ⟨some 54, .pure (.sliceStr true false), [.t 53 false, .c (AV.int .i64 1)], none⟩ .any,
    .one ⟨some 0, .mov, [.t 54 false], none⟩ .any]))
  .skip))
 (.cut 100012 [0, 4] [2, 3] k79_12))))),
 [.tmp 2 false, .tmp 3 false], false⟩
def a79 : Ann := mkAnn [(1, 0, [true]), (5, 0, [true]), (5, 7, [true]), (5, 8, [true]), (10, 0, [true]), (10, 5, [true]), (10, 6, [true]), (20, 0, [true]), (20, 5, [true]), (20, 6, [true]), (23, 0, [true]), (23, 4, [true]), (23, 5, [true]), (29, 0, [true]), (29, 4, [true]), (29, 5, [true])] [(2, [0, 4]), (12, [0, 4])] false [] [] [(0, [0]), (1, [0, 4]), (2, [4, 5, 6]), (3, [4, 5, 6, 20]), (4, [2, 3]), (5, [4, 6]), (6, [0, 4]), (7, [0, 4, 32]), (8, [0, 4]), (9, [0, 4, 46]), (10, [0, 4]), (11, [0, 4]), (12, [0, 4, 56]), (13, [4, 7, 8]), (14, [4, 8, 9]), (15, [4, 8, 9, 10]), (16, [4, 8, 9, 10, 66]), (17, [2, 3]), (18, [4, 8, 9, 10, 69]), (19, [4, 8, 9, 10]), (20, [4, 8]), (21, [4, 8, 11]), (22, [4, 8, 11, 84]), (23, [4, 8]), (24, [0, 4]), (25, [0, 4, 92]), (26, [4, 12, 13]), (27, [4, 12, 13, 100]), (28, [2, 3]), (29, [4, 13]), (30, [0, 4]), (31, [2, 3])] [] [(0, 0, [8]), (1, 0, [9]), (4, 0, [8]), (17, 0, [8]), (28, 0, [8])] [(12, [0, 4], [2, 3]), (20, [4, 8, 9, 10], [0, 4])] [(0, [0, 4]), (1, [0, 4]), (2, [0, 4]), (3, [0, 4]), (4, [4, 8, 9, 10])] [2, 3] [false, false] [(9, [(3, none), (4, some 41), (1, none), (4, some 46)])] [] []
set_option maxRecDepth 100000 in
theorem c79 : convFn Try.prog a79 79 = some r79 := by kernel_rfl

/-- strings.LastIndex -/
def r80 : RFunc := ⟨36,
 (.seq
 (.region none [0, 1] [
   .one ⟨some 4, .mov, [.c (AV.int .i64 0)], none⟩ .any])
 (.seq
 (.region none [0, 1, 5] [
   .one ⟨some 6, .mov, [.t 1 false], none⟩ .any,
   .one ⟨some 7, .pure .lenS, [.t 6 false], none⟩ .any,
   .one ⟨some 5, .mov, [.t 7 false], none⟩ .any])
 (.seq
 (.block 0
  (.seq
  (.region none [0, 1, 5, 8] [
    .one ⟨some 9, .mov, [.t 5 false], none⟩ .any,
    .one ⟨some 10, .pure (.bin .eql), [.t 9 false, .c (AV.int .i64 0)], none⟩ .any,
    .one ⟨some 8, .mov, [.t 10 false], none⟩ .any])
  (.cond (.t 8 false)
   (.seq
   (.region none [4] [
     .one ⟨some 11, .mov, [.t 0 false], none⟩ .any,
     .one ⟨some 12, .pure .lenS, [.t 11 false], none⟩ .any,
     .one ⟨some 4, .mov, [.t 12 false], none⟩ .any])
   (.ret [4]))
   (.seq
   (.region none [0, 1, 5, 13] [
     .one ⟨some 14, .mov, [.t 5 false], none⟩ .any,
     .one ⟨some 15, .pure (.bin .eql), [.t 14 false, .c (AV.int .i64 1)], none⟩ .any,
     .one ⟨some 13, .mov, [.t 15 false], none⟩ .any])
   (.cond (.t 13 false)
    (.seq
    (.region none [4] [
      .one ⟨some 16, .mov, [.t 0 false], none⟩ .any,
      .one ⟨some 17, .mov, [.t 1 false], none⟩ .any,
      .one ⟨some 18, .pure .idxStr, [.t 17 false, .c (AV.int .i64 0)], none⟩ .any,
      .one ⟨some 19, .call 93, [.t 16 false, .t 18 false], none⟩ .any,
      .one ⟨some 4, .mov, [.t 19 false], none⟩ .any])
    (.ret [4]))
    (.seq
    (.region none [0, 1, 5, 20] [
      .one ⟨some 21, .mov, [.t 5 false], none⟩ .any,
      .one ⟨some 22, .mov, [.t 0 false], none⟩ .any,
      .one ⟨some 23, .pure .lenS, [.t 22 false], none⟩ .any,
      .one ⟨some 24, .pure (.bin .eql), [.t 21 false, .t 23 false], none⟩ .any,
      .one ⟨some 20, .mov, [.t 24 false], none⟩ .any])
    (.cond (.t 20 false)
     (.seq
     (.seq
     (.region none [27] [
       .one ⟨some 25, .mov, [.t 1 false], none⟩ .any,
       .one ⟨some 26, .mov, [.t 0 false], none⟩ .any,
       .one ⟨some 27, .pure (.bin .eql), [.t 25 false, .t 26 false], none⟩ .any])
     (.cond (.t 27 false)
      (.seq
      (.region none [4] [
        .one ⟨some 4, .mov, [.c (AV.int .i64 0)], none⟩ .any])
      (.ret [4]))
      .skip))
     (.seq
     (.region none [4] [
       .one ⟨some 4, .mov, [.c (AV.int .i64 (-1))], none⟩ .any])
     (.ret [4])))
     (.seq
     (.region none [0, 1, 28] [
       .one ⟨some 29, .mov, [.t 5 false], none⟩ .any,
       .one ⟨some 30, .mov, [.t 0 false], none⟩ .any,
       .one ⟨some 31, .pure .lenS, [.t 30 false], none⟩ .any,
       .one ⟨some 32, .pure (.bin .gtr), [.t 29 false, .t 31 false], none⟩ .any,
       .one ⟨some 28, .mov, [.t 32 false], none⟩ .any])
     (.cond (.t 28 false)
      (.seq
      (.region none [4] [
        .one ⟨some 4, .mov, [.c (AV.int .i64 (-1))], none⟩ .any])
      (.ret [4]))
      .skip)))))))))
 (.seq
 (.region none [4] [
   .one ⟨some 33, .mov, [.t 0 false], none⟩ .any,
   .one ⟨some 34, .mov, [.t 1 false], none⟩ .any,
   .one ⟨some 35, .call 94, [.t 33 false, .t 34 false], none⟩ .any,
   .one ⟨some 4, .mov, [.t 35 false], none⟩ .any])
 (.ret [4]))))),
 [.tmp 4 false], false⟩
def a80 : Ann := mkAnn [] [] false [] [] [(0, [0, 1]), (1, [0, 1, 5]), (2, [0, 1, 5, 8]), (3, [4]), (4, [0, 1, 5, 13]), (5, [4]), (6, [0, 1, 5, 20]), (7, [27]), (8, [4]), (9, [4]), (10, [0, 1, 28]), (11, [4]), (12, [4])] [] [] [] [(0, [0, 1])] [4] [false] [] [] []
set_option maxRecDepth 100000 in
theorem c80 : convFn Try.prog a80 80 = some r80 := by kernel_rfl

/-- drayage/version.epochs -/
def r81 : RFunc := ⟨37,
 (.seq
 (.region none [0] [
   .one ⟨some 2, .mov, [.c (AV.str [])], none⟩ .any,
   .one ⟨some 3, .mov, [.c (AV.str [])], none⟩ .any,
   .one ⟨some 4, .mov, [.c (AV.bool false)], none⟩ .any])
 (.seq
 (.region none [0, 5, 6, 7] [
   .one ⟨some 11, .mov, [.t 0 false], none⟩ .any,
   .one ⟨some 12, .call 95, [.t 11 false, .c (AV.str [58])], none⟩ .any,
   .one ⟨some 10, .mov, [.t 12 false], none⟩ .any,
   .one ⟨some 13, .pure (.extract 0), [.t 10 false], none⟩ .any,
   .one ⟨some 14, .pure (.extract 1), [.t 10 false], none⟩ .any,
   .one ⟨some 15, .pure (.extract 2), [.t 10 false], none⟩ .any,
   .one ⟨some 5, .mov, [.t 13 false], none⟩ .any,
   .one ⟨some 6, .mov, [.t 14 false], none⟩ .any,
   .one ⟨some 7, .mov, [.t 15 false], none⟩ .any])
 (.seq
 (.seq
 (.region none [0, 5, 6, 17] [
   .one ⟨some 16, .mov, [.t 7 false], none⟩ .any,
   .one ⟨some 17, .pure (.un .not), [.t 16 false], none⟩ .any])
 (.cond (.t 17 false)
  (.seq
  (.region none [2, 3, 4] [
    .one ⟨some 18, .mov, [.t 0 false], none⟩ .any,
    .one ⟨some 2, .mov, [.c (AV.str [])], none⟩ .any,
    .one ⟨some 3, .mov, [.t 18 false], none⟩ .any,
    .one ⟨some 4, .mov, [.c (AV.bool true)], none⟩ .any])
  (.ret [2, 3, 4]))
  .skip))
 (.seq
 (.region none [5, 6, 8, 9] [
   .one ⟨some 20, .mov, [.t 5 false], none⟩ .any,
   .one ⟨some 21, .call 90, [.t 20 false], none⟩ .any,
   .one ⟨some 19, .mov, [.t 21 false], none⟩ .any,
   .one ⟨some 22, .pure (.extract 0), [.t 19 false], none⟩ .any,
   .one ⟨some 23, .pure (.extract 1), [.t 19 false], none⟩ .any,
   .one ⟨some 8, .mov, [.t 22 false], none⟩ .any,
   .one ⟨some 9, .mov, [.t 23 false], none⟩ .any])
 (.seq
 (.region none [2, 3, 4] [
   .one ⟨some 24, .mov, [.t 5 false], none⟩ .any,
   .one ⟨some 25, .mov, [.t 6 false], none⟩ .any,
   .one ⟨some 26, .mov, [.t 8 false], none⟩ .any,
   .one ⟨some 27, .pure (.bin .neq), [.t 26 false, .c (AV.str [])], none⟩ .any,
   .one ⟨some 28, .mov, [.t 27 false], none⟩ .any,
   .sub [(⟨some 29, .mov, [.t 9 false], some (28, true)⟩, .any),
     (⟨some 30, .pure (.bin .eql), [.t 29 false, .c (AV.str [])], some (28, true)⟩, .any),
     (⟨some 31, .pure .pick, [.t 28 false, .t 30 false, .c (AV.bool false)], none⟩, .any)] 31,
   .one ⟨some 32, .mov, [.t 31 false], none⟩ .any,
   .sub [(⟨some 33, .mov, [.t 8 false], some (32, true)⟩, .any),
     (⟨some 34, .pure .lenS, [.t 33 false], some (32, true)⟩, .any),
     (⟨some 35, .pure (.bin .lss), [.t 34 false, .c (AV.int .i64 10)], some (32, true)⟩, .any),
     (⟨some 36, .pure .pick, [.t 32 false, .t 35 false, .c (AV.bool false)], none⟩, .any)] 36,
   .one ⟨some 2, .mov, [.t 24 false], none⟩ .any,
   .one ⟨some 3, .mov, [.t 25 false], none⟩ .any,
   .one ⟨some 4, .mov, [.t 36 false], none⟩ .any])
 (.ret [2, 3, 4])))))),
 [.tmp 2 false, .tmp 3 false, .tmp 4 false], false⟩
def a81 : Ann := mkAnn [] [] false [] [] [(0, [0]), (1, [0, 5, 6, 7]), (2, [0, 5, 6, 17]), (3, [2, 3, 4]), (4, [5, 6, 8, 9]), (5, [2, 3, 4])] [] [] [] [] [2, 3, 4] [false, false, false] [(5, [(5, none), (3, some 31), (1, none), (4, some 36)])] [] []
set_option maxRecDepth 100000 in
theorem c81 : convFn Try.prog a81 81 = some r81 := by kernel_rfl

/-- strings.LastIndexByte -/
def r82 : RFunc := ⟨8,
 (.seq
 (.region none [0, 1] [
   .one ⟨some 4, .mov, [.c (AV.int .i64 0)], none⟩ .any])
 (.seq
 (.region none [4] [
   .one ⟨some 5, .mov, [.t 0 false], none⟩ .any,
   .one ⟨some 6, .mov, [.t 1 false], none⟩ .any,
   .one ⟨some 7, .call 93, [.t 5 false, .t 6 false], none⟩ .any,
   .one ⟨some 4, .mov, [.t 7 false], none⟩ .any])
 (.ret [4]))),
 [.tmp 4 false], false⟩
def a82 : Ann := mkAnn [] [] false [] [] [(0, [0, 1]), (1, [4])] [] [] [] [] [4] [false] [] [] []
set_option maxRecDepth 100000 in
theorem c82 : convFn Try.prog a82 82 = some r82 := by kernel_rfl

/-- drayage/version.made -/
def l83_2 : RCode :=
 (.seq
 (.seq
 (.region none [0, 1, 5, 9] [
   .one ⟨some 6, .mov, [.t 5 false], none⟩ .any,
   .one ⟨some 7, .mov, [.t 0 false], none⟩ .any,
   .one ⟨some 8, .pure .lenS, [.t 7 false], none⟩ .any,
   .one ⟨some 9, .pure (.bin .lss), [.t 6 false, .t 8 false], none⟩ .any])
 (.cond (.t 9 false)
  .skip
  (.exit 0 [0])))
 (.seq
 (.block 1
  (.seq
  (.region none [0, 1, 5, 31] [
    .one ⟨some 12, .mov, [.t 0 false], none⟩ .any,
    .one ⟨some 13, .mov, [.t 5 false], none⟩ .any,
    .one ⟨some 14, .pure .idxStr, [.t 12 false, .t 13 false], none⟩ .any,
    .one ⟨some 15, .call 84, [.t 14 false], none⟩ .any,
    .one ⟨some 16, .pure (.un .not), [.t 15 false], none⟩ .any,
    .one ⟨some 17, .mov, [.t 16 false], none⟩ .any,
    .sub [(⟨some 18, .mov, [.t 0 false], some (17, true)⟩, .any),
      (⟨some 19, .mov, [.t 5 false], some (17, true)⟩, .any),
      (⟨some 20, .pure .idxStr, [.t 18 false, .t 19 false], some (17, true)⟩, .any),
      (⟨some 21, .call 96, [.t 20 false], some (17, true)⟩, .any),
      (⟨some 22, .pure (.un .not), [.t 21 false], some (17, true)⟩, .any),
      (⟨some 23, .pure .pick, [.t 17 false, .t 22 false, .c (AV.bool false)], none⟩, .any)] 23,
    .one ⟨some 24, .mov, [.t 23 false], none⟩ .any,
    .sub [(⟨some 25, .mov, [.t 1 false], some (24, true)⟩, .any),
      (⟨some 26, .mov, [.t 0 false], some (24, true)⟩, .any),
      (⟨some 27, .mov, [.t 5 false], some (24, true)⟩, .any),
      (⟨some 28, .pure .idxStr, [.t 26 false, .t 27 false], some (24, true)⟩, .any),
      (⟨some 29, .call 37, [.t 25 false, .t 28 false], some (24, true)⟩, .any),
      (⟨some 30, .pure (.bin .lss), [.t 29 false, .c (AV.int .i64 0)], some (24, true)⟩, .any),
      (⟨some 31, .pure .pick, [.t 24 false, .t 30 false, .c (AV.bool false)], none⟩, .any)] 31])
  (.cond (.t 31 false)
   (.seq
   (.region none [4] [
     .one ⟨some 4, .mov, [.c (AV.bool false)], none⟩ .any])
   (.ret [4]))
   .skip)))
 (.region none [0, 1, 5] [
   .one ⟨some 10, .mov, [.t 5 false], none⟩ .any,
   .one ⟨some 11, .pure (.bin .add), [.t 10 false, .c (AV.int .i64 1)], none⟩ .any,
   .one ⟨some 5, .mov, [.t 11 false], none⟩ .any])))
def r83 : RFunc := ⟨34,
 (.seq
 (.region none [0, 1] [
   .one ⟨some 4, .mov, [.c (AV.bool false)], none⟩ .any])
 (.seq
 (.seq
 (.region none [0, 1, 5] [
   .one ⟨some 5, .mov, [.c (AV.int .i64 0)], none⟩ .any])
 (.block 0
  (.loop 2 [0, 1, 5] l83_2)))
 (.seq
 (.region none [4] [
   .one ⟨some 32, .mov, [.t 0 false], none⟩ .any,
   .one ⟨some 33, .pure (.bin .neq), [.t 32 false, .c (AV.str [])], none⟩ .any,
   .one ⟨some 4, .mov, [.t 33 false], none⟩ .any])
 (.ret [4])))),
 [.tmp 4 false], false⟩
def a83 : Ann := mkAnn [] [(2, [0, 1, 5])] false [] [] [(0, [0, 1]), (1, [0, 1, 5]), (2, [0, 1, 5, 9]), (3, [0, 1, 5]), (4, [0, 1, 5, 31]), (5, [4]), (6, [4])] [] [] [] [(0, [0]), (1, [0, 1, 5])] [4] [false] [(4, [(6, none), (6, some 23), (1, none), (7, some 31)])] [] []
set_option maxRecDepth 100000 in
theorem c83 : convFn Try.prog a83 83 = some r83 := by kernel_rfl

/-- drayage/version.digit -/
def r84 : RFunc := ⟨9,
 (.seq
 (.region none [0] [
   .one ⟨some 2, .mov, [.c (AV.bool false)], none⟩ .any])
 (.seq
 (.region none [2] [
   .one ⟨some 3, .mov, [.t 0 false], none⟩ .any,
   .one ⟨some 4, .pure (.bin .geq), [.t 3 false, .c (AV.int .u8 48)], none⟩ .any,
   .one ⟨some 5, .mov, [.t 4 false], none⟩ .any,
   .sub [(⟨some 6, .mov, [.t 0 false], some (5, true)⟩, .any),
     (⟨some 7, .pure (.bin .leq), [.t 6 false, .c (AV.int .u8 57)], some (5, true)⟩, .any),
     (⟨some 8, .pure .pick, [.t 5 false, .t 7 false, .c (AV.bool false)], none⟩, .any)] 8,
   .one ⟨some 2, .mov, [.t 8 false], none⟩ .any])
 (.ret [2]))),
 [.tmp 2 false], false⟩
def a84 : Ann := mkAnn [] [] false [] [] [(0, [0]), (1, [2])] [] [] [] [] [2] [false] [(1, [(3, none), (3, some 8)])] [] []
set_option maxRecDepth 100000 in
theorem c84 : convFn Try.prog a84 84 = some r84 := by kernel_rfl

/-- drayage/drayageref12.pieces -/
def k85_26 : RCode :=
  (.seq
  (.region none [0, 3, 5] [
    .one ⟨some 78, .mov, [.t 3 true], none⟩ .any,
    .one ⟨some 79, .mov, [.t 9 false], none⟩ .any,
    .one ⟨some 80, .mov, [.t 6 false], none⟩ .any,
    .one ⟨some 81, .build [AV.int .i64 0, AV.int .i64 0, AV.str []] [(0, 1), (1, 1)], [.t 79 false, .t 80 false], none⟩ .any,
    .one ⟨some 82, .bslice 3 true 1, [.t 81 false], none⟩ .any,
    .one ⟨some 83, .append 3 32 false, [.t 78 true, .t 82 false], none⟩ .any,
    .one ⟨some 3, .mov, [.t 83 true], none⟩ .any])
  (.seq
  (.region none [0, 3] [
    .one ⟨some 84, .mov, [.t 0 false], none⟩ .any,
    .one ⟨some 85, .mov, [.t 5 false], none⟩ .any,
    .one ⟨some 86, .pure (.sliceStr true false), [.t 84 false, .t 85 false], none⟩ .any,
    .one ⟨some 0, .mov, [.t 86 false], none⟩ .any])
  (.seq
  (.region none [0, 3, 10] [
    .one ⟨some 87, .mov, [.t 0 false], none⟩ .any,
    .one ⟨some 88, .call 86, [.t 87 false], none⟩ .any,
    .one ⟨some 10, .mov, [.t 88 false], none⟩ .any])
  (.seq
  (.region none [0, 3, 10, 90] [
    .one ⟨some 89, .mov, [.t 10 false], none⟩ .any,
    .one ⟨some 90, .pure (.bin .gtr), [.t 89 false, .c (AV.int .i64 0)], none⟩ .any])
  (.cond (.t 90 false)
   (.seq
   (.region none [0, 3, 10] [
     .one ⟨some 91, .mov, [.t 3 true], none⟩ .any,
     .one ⟨some 92, .mov, [.t 0 false], none⟩ .any,
     .one ⟨some 93, .mov, [.t 10 false], none⟩ .any,
     .one ⟨some 94, .pure (.sliceStr false true), [.t 92 false, .t 93 false], none⟩ .any,
     .one ⟨some 95, .build [AV.int .i64 0, AV.int .i64 0, AV.str []] [(0, 1), (2, 1)], [.c (AV.int .i64 3), .t 94 false], none⟩ .any,
     .one ⟨some 96, .bslice 3 true 1, [.t 95 false], none⟩ .any,
     .one ⟨some 97, .append 3 32 false, [.t 91 true, .t 96 false], none⟩ .any,
     .one ⟨some 3, .mov, [.t 97 true], none⟩ .any])
   (.region none [0, 3] [
     .one ⟨some 98, .mov, [.t 0 false], none⟩ .any,
     .one ⟨some 99, .mov, [.t 10 false], none⟩ .any,
     .one ⟨some 100, .pure (.sliceStr true false), [.t 98 false, .t 99 false], none⟩ .any,
     .one ⟨some 0, .mov, [.t 100 false], none⟩ .any]))
   .skip)))))
def l85_17 : RCode :=
 (.seq
 (.seq
 (.region none [0, 3, 5, 6, 7, 8, 62] [
   .one ⟨some 59, .mov, [.t 8 false], none⟩ .any,
   .one ⟨some 60, .mov, [.t 7 false], none⟩ .any,
   .one ⟨some 61, .pure .lenSl, [.t 60 false], none⟩ .any,
   .one ⟨some 62, .pure (.bin .lss), [.t 59 false, .t 61 false], none⟩ .any])
 (.cond (.t 62 false)
  .skip
  (.exit 4 [0, 3, 5, 6])))
 (.seq
 (.block 5
  (.seq
  (.region (some ([], [])) [0, 3, 5, 6, 7, 8, 72] [
    .one ⟨some 65, .mov, [.t 7 false], none⟩ .any,
    .one ⟨some 66, .mov, [.t 8 false], none⟩ .any,
    .one ⟨some 67, .pure (.iaddr 1), [.t 65 false, .t 66 false], none⟩ .str,
    .one ⟨some 68, .load 1 false false, [.t 67 false], none⟩ .any,
    .one ⟨some 69, .mov, [.t 0 false], none⟩ .any,
    .one ⟨some 70, .mov, [.t 5 false], none⟩ .any,
    .one ⟨some 71, .pure (.sliceStr true true), [.t 69 false, .c (AV.int .i64 1), .t 70 false], none⟩ .any,
    .one ⟨some 72, .pure (.bin .eql), [.t 68 false, .t 71 false], none⟩ .any])
  (.cond (.t 72 false)
   (.region none [0, 3, 5, 6, 7, 8] [
     .one ⟨some 73, .mov, [.t 8 false], none⟩ .any,
     .one ⟨some 6, .mov, [.t 73 false], none⟩ .any])
   .skip)))
 (.region none [0, 3, 5, 6, 7, 8] [
   .one ⟨some 63, .mov, [.t 8 false], none⟩ .any,
   .one ⟨some 64, .pure (.bin .add), [.t 63 false, .c (AV.int .i64 1)], none⟩ .any,
   .one ⟨some 8, .mov, [.t 64 false], none⟩ .any])))
def l85_12 : RCode :=
 (.seq
 (.seq
 (.region none [0, 3, 53] [
   .one ⟨some 52, .mov, [.t 0 false], none⟩ .any,
   .one ⟨some 53, .call 97, [.t 52 false, .c (AV.int .u8 95)], none⟩ .any])
 (.cond (.t 53 false)
  .skip
  (.exit 2 [0, 3])))
 (.block 3
  (.seq
  (.region none [0, 3, 5] [
    .one ⟨some 54, .mov, [.t 0 false], none⟩ .any,
    .one ⟨some 55, .pure (.sliceStr true false), [.t 54 false, .c (AV.int .i64 1)], none⟩ .any,
    .one ⟨some 56, .call 98, [.t 55 false], none⟩ .any,
    .one ⟨some 57, .pure (.bin .add), [.c (AV.int .i64 1), .t 56 false], none⟩ .any,
    .one ⟨some 5, .mov, [.t 57 false], none⟩ .any])
  (.seq
  (.region none [0, 3, 5, 6] [
    .one ⟨some 6, .mov, [.c (AV.int .i64 (-1))], none⟩ .any])
  (.seq
  (.region none [0, 3, 5, 6, 7] [
    .one ⟨some 58, .call 99, [], none⟩ .any,
    .one ⟨some 7, .mov, [.t 58 false], none⟩ .any])
  (.seq
  (.seq
  (.region none [0, 3, 5, 6, 7, 8] [
    .one ⟨some 8, .mov, [.c (AV.int .i64 0)], none⟩ .any])
  (.block 4
   (.loop 17 [0, 3, 5, 6, 7, 8] l85_17)))
  (.seq
  (.seq
  (.region none [0, 3, 5, 6, 75] [
    .one ⟨some 74, .mov, [.t 6 false], none⟩ .any,
    .one ⟨some 75, .pure (.bin .lss), [.t 74 false, .c (AV.int .i64 0)], none⟩ .any])
  (.cond (.t 75 false)
   (.seq
   (.region none [2] [
     .one ⟨some 2, .mov, [.c (AV.sl false 3 [])], none⟩ .any])
   (.ret [2]))
   .skip))
  (.seq
  (.region none [0, 3, 5, 6, 9] [
    .one ⟨some 9, .mov, [.c (AV.int .i64 4)], none⟩ .any])
  (.seq
  (.seq
  (.region none [0, 3, 5, 6, 9, 77] [
    .one ⟨some 76, .mov, [.t 6 false], none⟩ .any,
    .one ⟨some 77, .pure (.bin .lss), [.t 76 false, .c (AV.int .i64 4)], none⟩ .any])
  (.cond (.t 77 false)
   (.region none [0, 3, 5, 6, 9] [
     .one ⟨some 9, .mov, [.c (AV.int .i64 0)], none⟩ .any])
   .skip))
  (.cut 100026 [0, 3, 5, 6, 9] [0, 3] k85_26))))))))))
def k85_12 : RCode :=
 (.seq
 (.block 2
  (.loop 12 [0, 3] l85_12))
 (.seq
 (.seq
 (.region none [0, 3, 114] [
   .one ⟨some 101, .mov, [.t 0 false], none⟩ .any,
   .one ⟨some 102, .pure .lenS, [.t 101 false], none⟩ .any,
   .one ⟨some 103, .pure (.bin .gtr), [.t 102 false, .c (AV.int .i64 2)], none⟩ .any,
   .one ⟨some 104, .mov, [.t 103 false], none⟩ .any,
   .sub [(⟨some 105, .mov, [.t 0 false], some (104, true)⟩, .any),
     (⟨some 106, .pure (.sliceStr false true), [.t 105 false, .c (AV.int .i64 2)], some (104, true)⟩, .any),
     (⟨some 107, .pure (.bin .eql), [.t 106 false, .c (AV.str [45, 114])], some (104, true)⟩, .any),
     (⟨some 108, .pure .pick, [.t 104 false, .t 107 false, .c (AV.bool false)], none⟩, .any)] 108,
   .one ⟨some 109, .mov, [.t 108 false], none⟩ .any,
   .sub [(⟨some 110, .mov, [.t 0 false], some (109, true)⟩, .any),
     (⟨some 111, .pure (.sliceStr true false), [.t 110 false, .c (AV.int .i64 2)], some (109, true)⟩, .any),
     (⟨some 112, .call 86, [.t 111 false], some (109, true)⟩, .any),
     (⟨some 113, .pure (.bin .gtr), [.t 112 false, .c (AV.int .i64 0)], some (109, true)⟩, .any),
     (⟨some 114, .pure .pick, [.t 109 false, .t 113 false, .c (AV.bool false)], none⟩, .any)] 114])
 (.cond (.t 114 false)
  (.seq
  (.region none [0, 3, 11] [
    .one ⟨some 115, .mov, [.t 0 false], none⟩ .any,
    .one ⟨some 116, .pure (.sliceStr true false), [.t 115 false, .c (AV.int .i64 2)], none⟩ .any,
    .one ⟨some 117, .call 86, [.t 116 false], none⟩ .any,
    .one ⟨some 118, .pure (.bin .add), [.c (AV.int .i64 2), .t 117 false], none⟩ .any,
    .one ⟨some 11, .mov, [.t 118 false], none⟩ .any])
  (.seq
  (.region none [0, 3, 11] [
    .one ⟨some 119, .mov, [.t 3 true], none⟩ .any,
    .one ⟨some 120, .mov, [.t 0 false], none⟩ .any,
    .one ⟨some 121, .mov, [.t 11 false], none⟩ .any,
    .one ⟨some 122, .pure (.sliceStr true true), [.t 120 false, .c (AV.int .i64 2), .t 121 false], none⟩ .any,
    .one ⟨some 123, .build [AV.int .i64 0, AV.int .i64 0, AV.str []] [(0, 1), (2, 1)], [.c (AV.int .i64 2), .t 122 false], none⟩ .any,
    .one ⟨some 124, .bslice 3 true 1, [.t 123 false], none⟩ .any,
    .one ⟨some 125, .append 3 32 false, [.t 119 true, .t 124 false], none⟩ .any,
    .one ⟨some 3, .mov, [.t 125 true], none⟩ .any])
  (.region none [0, 3] [
    .one ⟨some 126, .mov, [.t 0 false], none⟩ .any,
    .one ⟨some 127, .mov, [.t 11 false], none⟩ .any,
    .one ⟨some 128, .pure (.sliceStr true false), [.t 126 false, .t 127 false], none⟩ .any,
    .one ⟨some 0, .mov, [.t 128 false], none⟩ .any])))
  .skip))
 (.seq
 (.seq
 (.region none [3, 130] [
   .one ⟨some 129, .mov, [.t 0 false], none⟩ .any,
   .one ⟨some 130, .pure (.bin .neq), [.t 129 false, .c (AV.str [])], none⟩ .any])
 (.cond (.t 130 false)
  (.seq
  (.region none [2] [
    .one ⟨some 2, .mov, [.c (AV.sl false 3 [])], none⟩ .any])
  (.ret [2]))
  .skip))
 (.seq
 (.region none [2] [
   .one ⟨some 131, .mov, [.t 3 false], none⟩ .any,
   .one ⟨some 2, .mov, [.t 131 false], none⟩ .any])
 (.ret [2])))))
def l85_2 : RCode :=
 (.block 1
  (.seq
  (.region none [0, 3, 4] [
    .one ⟨some 12, .mov, [.t 0 false], none⟩ .any,
    .one ⟨some 13, .call 86, [.t 12 false], none⟩ .any,
    .one ⟨some 4, .mov, [.t 13 false], none⟩ .any])
  (.seq
  (.seq
  (.region none [0, 3, 4, 15] [
    .one ⟨some 14, .mov, [.t 4 false], none⟩ .any,
    .one ⟨some 15, .pure (.bin .eql), [.t 14 false, .c (AV.int .i64 0)], none⟩ .any])
  (.cond (.t 15 false)
   (.seq
   (.region none [2] [
     .one ⟨some 2, .mov, [.c (AV.sl false 3 [])], none⟩ .any])
   (.ret [2]))
   .skip))
  (.seq
  (.region none [0, 3, 4] [
    .one ⟨some 16, .mov, [.t 3 true], none⟩ .any,
    .one ⟨some 17, .mov, [.t 0 false], none⟩ .any,
    .one ⟨some 18, .mov, [.t 4 false], none⟩ .any,
    .one ⟨some 19, .pure (.sliceStr false true), [.t 17 false, .t 18 false], none⟩ .any,
    .one ⟨some 20, .build [AV.int .i64 0, AV.int .i64 0, AV.str []] [(0, 1), (2, 1)], [.c (AV.int .i64 6), .t 19 false], none⟩ .any,
    .one ⟨some 21, .bslice 3 true 1, [.t 20 false], none⟩ .any,
    .one ⟨some 22, .append 3 32 false, [.t 16 true, .t 21 false], none⟩ .any,
    .one ⟨some 3, .mov, [.t 22 true], none⟩ .any])
  (.seq
  (.region none [0, 3] [
    .one ⟨some 23, .mov, [.t 0 false], none⟩ .any,
    .one ⟨some 24, .mov, [.t 4 false], none⟩ .any,
    .one ⟨some 25, .pure (.sliceStr true false), [.t 23 false, .t 24 false], none⟩ .any,
    .one ⟨some 0, .mov, [.t 25 false], none⟩ .any])
  (.seq
  (.seq
  (.region none [0, 3, 28] [
    .one ⟨some 26, .mov, [.t 0 false], none⟩ .any,
    .one ⟨some 27, .call 97, [.t 26 false, .c (AV.int .u8 46)], none⟩ .any,
    .one ⟨some 28, .pure (.un .not), [.t 27 false], none⟩ .any])
  (.cond (.t 28 false)
   (.exit 0 [0, 3])
   .skip))
  (.region none [0, 3] [
    .one ⟨some 29, .mov, [.t 0 false], none⟩ .any,
    .one ⟨some 30, .pure (.sliceStr true false), [.t 29 false, .c (AV.int .i64 1)], none⟩ .any,
    .one ⟨some 0, .mov, [.t 30 false], none⟩ .any])))))))
def r85 : RFunc := ⟨132,
 (.seq
 (.region none [0] [
   .one ⟨some 2, .mov, [.c (AV.sl false 3 [])], none⟩ .any])
 (.seq
 (.region none [0, 3] [
   .one ⟨some 3, .mov, [.c (AV.sl true 3 [])], none⟩ .any])
 (.seq
 (.block 0
  (.loop 2 [0, 3] l85_2))
 (.seq
 (.seq
 (.region none [0, 3, 43] [
   .one ⟨some 31, .mov, [.t 0 false], none⟩ .any,
   .one ⟨some 32, .pure .lenS, [.t 31 false], none⟩ .any,
   .one ⟨some 33, .pure (.bin .gtr), [.t 32 false, .c (AV.int .i64 0)], none⟩ .any,
   .one ⟨some 34, .mov, [.t 33 false], none⟩ .any,
   .sub [(⟨some 35, .mov, [.t 0 false], some (34, true)⟩, .any),
     (⟨some 36, .pure .idxStr, [.t 35 false, .c (AV.int .i64 0)], some (34, true)⟩, .any),
     (⟨some 37, .pure (.bin .geq), [.t 36 false, .c (AV.int .u8 97)], some (34, true)⟩, .any),
     (⟨some 38, .pure .pick, [.t 34 false, .t 37 false, .c (AV.bool false)], none⟩, .any)] 38,
   .one ⟨some 39, .mov, [.t 38 false], none⟩ .any,
   .sub [(⟨some 40, .mov, [.t 0 false], some (39, true)⟩, .any),
     (⟨some 41, .pure .idxStr, [.t 40 false, .c (AV.int .i64 0)], some (39, true)⟩, .any),
     (⟨some 42, .pure (.bin .leq), [.t 41 false, .c (AV.int .u8 122)], some (39, true)⟩, .any),
     (⟨some 43, .pure .pick, [.t 39 false, .t 42 false, .c (AV.bool false)], none⟩, .any)] 43])
 (.cond (.t 43 false)
  (.seq
  (.region none [0, 3] [
    .one ⟨some 44, .mov, [.t 3 true], none⟩ .any,
    .one ⟨some 45, .mov, [.t 0 false], none⟩ .any,
    .one ⟨some 46, .pure (.sliceStr false true), [.t 45 false, .c (AV.int .i64 1)], none⟩ .any,
    .one ⟨some 47, .build [AV.int .i64 0, AV.int .i64 0, AV.str []] [(0, 1), (2, 1)], [.c (AV.int .i64 5), .t 46 false], none⟩ .any,
    .one ⟨some 48, .bslice 3 true 1, [.t 47 false], none⟩ .any,
    .one ⟨some 49, .append 3 32 false, [.t 44 true, .t 48 false], none⟩ .any,
    .one ⟨some 3, .mov, [.t 49 true], none⟩ .any])
  (.region none [0, 3] [
    .one ⟨some 50, .mov, [.t 0 false], none⟩ .any,
    .one ⟨some 51, .pure (.sliceStr true false), [.t 50 false, .c (AV.int .i64 1)], none⟩ .any,
    .one ⟨some 0, .mov, [.t 51 false], none⟩ .any]))
  .skip))
 (.cut 100012 [0, 3] [2] k85_12))))),
 [.tmp 2 false], false⟩
def a85 : Ann := mkAnn [(1, 0, [true]), (5, 0, [true]), (5, 6, [true]), (5, 7, [true]), (10, 0, [true]), (10, 5, [true]), (10, 6, [true]), (26, 0, [true]), (26, 5, [true]), (26, 6, [true]), (30, 0, [true]), (30, 6, [true]), (30, 7, [true]), (34, 0, [true]), (34, 6, [true]), (34, 7, [true])] [(2, [0, 3]), (12, [0, 3]), (17, [0, 3, 5, 6, 7, 8])] false [(19, [])] [] [(0, [0]), (1, [0, 3]), (2, [0, 3, 4]), (3, [0, 3, 4, 15]), (4, [2]), (5, [0, 3, 4]), (6, [0, 3]), (7, [0, 3, 28]), (8, [0, 3]), (9, [0, 3, 43]), (10, [0, 3]), (11, [0, 3]), (12, [0, 3, 53]), (13, [0, 3, 5]), (14, [0, 3, 5, 6]), (15, [0, 3, 5, 6, 7]), (16, [0, 3, 5, 6, 7, 8]), (17, [0, 3, 5, 6, 7, 8, 62]), (18, [0, 3, 5, 6, 7, 8]), (19, [0, 3, 5, 6, 7, 8, 72]), (20, [0, 3, 5, 6, 7, 8]), (21, [0, 3, 5, 6, 75]), (22, [2]), (23, [0, 3, 5, 6, 9]), (24, [0, 3, 5, 6, 9, 77]), (25, [0, 3, 5, 6, 9]), (26, [0, 3, 5]), (27, [0, 3]), (28, [0, 3, 10]), (29, [0, 3, 10, 90]), (30, [0, 3, 10]), (31, [0, 3]), (32, [0, 3, 114]), (33, [0, 3, 11]), (34, [0, 3, 11]), (35, [0, 3]), (36, [3, 130]), (37, [2]), (38, [2])] [] [(0, 0, [6]), (1, 0, [7]), (4, 0, [6]), (22, 0, [6]), (37, 0, [6])] [(12, [0, 3], [2]), (26, [0, 3, 5, 6, 9], [0, 3])] [(0, [0, 3]), (1, [0, 3]), (2, [0, 3]), (3, [0, 3]), (4, [0, 3, 5, 6]), (5, [0, 3, 5, 6, 7, 8])] [2] [false] [(9, [(4, none), (4, some 38), (1, none), (4, some 43)]), (32, [(4, none), (4, some 108), (1, none), (5, some 114)])] [(19, 2, .str)] []
set_option maxRecDepth 100000 in
theorem c85 : convFn Try.prog a85 85 = some r85 := by kernel_rfl

/-- drayage/drayageref12.Digits -/
def l86_2 : RCode :=
 (.seq
 (.seq
 (.region none [0, 3, 13] [
   .one ⟨some 4, .mov, [.t 3 false], none⟩ .any,
   .one ⟨some 5, .mov, [.t 0 false], none⟩ .any,
   .one ⟨some 6, .pure .lenS, [.t 5 false], none⟩ .any,
   .one ⟨some 7, .pure (.bin .lss), [.t 4 false, .t 6 false], none⟩ .any,
   .one ⟨some 8, .mov, [.t 7 false], none⟩ .any,
   .sub [(⟨some 9, .mov, [.t 0 false], some (8, true)⟩, .any),
     (⟨some 10, .mov, [.t 3 false], some (8, true)⟩, .any),
     (⟨some 11, .pure .idxStr, [.t 9 false, .t 10 false], some (8, true)⟩, .any),
     (⟨some 12, .call 89, [.t 11 false], some (8, true)⟩, .any),
     (⟨some 13, .pure .pick, [.t 8 false, .t 12 false, .c (AV.bool false)], none⟩, .any)] 13])
 (.cond (.t 13 false)
  .skip
  (.exit 0 [3])))
 (.block 1
  (.region none [0, 3] [
    .one ⟨some 14, .mov, [.t 3 false], none⟩ .any,
    .one ⟨some 15, .pure (.bin .add), [.t 14 false, .c (AV.int .i64 1)], none⟩ .any,
    .one ⟨some 3, .mov, [.t 15 false], none⟩ .any])))
def r86 : RFunc := ⟨17,
 (.seq
 (.region none [0] [
   .one ⟨some 2, .mov, [.c (AV.int .i64 0)], none⟩ .any])
 (.seq
 (.region none [0, 3] [
   .one ⟨some 3, .mov, [.c (AV.int .i64 0)], none⟩ .any])
 (.seq
 (.block 0
  (.loop 2 [0, 3] l86_2))
 (.seq
 (.region none [2] [
   .one ⟨some 16, .mov, [.t 3 false], none⟩ .any,
   .one ⟨some 2, .mov, [.t 16 false], none⟩ .any])
 (.ret [2]))))),
 [.tmp 2 false], false⟩
def a86 : Ann := mkAnn [] [(2, [0, 3])] false [] [] [(0, [0]), (1, [0, 3]), (2, [0, 3, 13]), (3, [0, 3]), (4, [2])] [] [] [] [(0, [3]), (1, [0, 3])] [2] [false] [(2, [(5, none), (5, some 13)])] [] []
set_option maxRecDepth 100000 in
theorem c86 : convFn Try.prog a86 86 = some r86 := by kernel_rfl

/-- drayage/drayageref12.place -/
def l87_2 : RCode :=
 (.seq
 (.seq
 (.region none [0, 1, 5, 10] [
   .one ⟨some 9, .mov, [.t 5 false], none⟩ .any,
   .one ⟨some 10, .pure (.bin .geq), [.t 9 false, .c (AV.int .i64 0)], none⟩ .any])
 (.cond (.t 10 false)
  .skip
  (.exit 0 [])))
 (.seq
 (.block 1
  (.seq
  (.region none [0, 1, 5, 17] [
    .one ⟨some 13, .mov, [.t 0 false], none⟩ .any,
    .one ⟨some 14, .mov, [.t 5 false], none⟩ .any,
    .one ⟨some 15, .pure .idxStr, [.t 13 false, .t 14 false], none⟩ .any,
    .one ⟨some 16, .mov, [.t 1 false], none⟩ .any,
    .one ⟨some 17, .pure (.bin .eql), [.t 15 false, .t 16 false], none⟩ .any])
  (.cond (.t 17 false)
   (.seq
   (.region none [4] [
     .one ⟨some 18, .mov, [.t 5 false], none⟩ .any,
     .one ⟨some 4, .mov, [.t 18 false], none⟩ .any])
   (.ret [4]))
   .skip)))
 (.region none [0, 1, 5] [
   .one ⟨some 11, .mov, [.t 5 false], none⟩ .any,
   .one ⟨some 12, .pure (.bin .sub), [.t 11 false, .c (AV.int .i64 1)], none⟩ .any,
   .one ⟨some 5, .mov, [.t 12 false], none⟩ .any])))
def r87 : RFunc := ⟨19,
 (.seq
 (.region none [0, 1] [
   .one ⟨some 4, .mov, [.c (AV.int .i64 0)], none⟩ .any])
 (.seq
 (.seq
 (.region none [0, 1, 5] [
   .one ⟨some 6, .mov, [.t 0 false], none⟩ .any,
   .one ⟨some 7, .pure .lenS, [.t 6 false], none⟩ .any,
   .one ⟨some 8, .pure (.bin .sub), [.t 7 false, .c (AV.int .i64 1)], none⟩ .any,
   .one ⟨some 5, .mov, [.t 8 false], none⟩ .any])
 (.block 0
  (.loop 2 [0, 1, 5] l87_2)))
 (.seq
 (.region none [4] [
   .one ⟨some 4, .mov, [.c (AV.int .i64 (-1))], none⟩ .any])
 (.ret [4])))),
 [.tmp 4 false], false⟩
def a87 : Ann := mkAnn [] [(2, [0, 1, 5])] false [] [] [(0, [0, 1]), (1, [0, 1, 5]), (2, [0, 1, 5, 10]), (3, [0, 1, 5]), (4, [0, 1, 5, 17]), (5, [4]), (6, [4])] [] [] [] [(0, []), (1, [0, 1, 5])] [4] [false] [] [] []
set_option maxRecDepth 100000 in
theorem c87 : convFn Try.prog a87 87 = some r87 := by kernel_rfl

/-- drayage/drayageref12.made -/
def l88_2 : RCode :=
 (.seq
 (.seq
 (.region none [0, 1, 5, 9] [
   .one ⟨some 6, .mov, [.t 5 false], none⟩ .any,
   .one ⟨some 7, .mov, [.t 0 false], none⟩ .any,
   .one ⟨some 8, .pure .lenS, [.t 7 false], none⟩ .any,
   .one ⟨some 9, .pure (.bin .lss), [.t 6 false, .t 8 false], none⟩ .any])
 (.cond (.t 9 false)
  .skip
  (.exit 0 [0])))
 (.seq
 (.block 1
  (.seq
  (.region none [0, 1, 5, 31] [
    .one ⟨some 12, .mov, [.t 0 false], none⟩ .any,
    .one ⟨some 13, .mov, [.t 5 false], none⟩ .any,
    .one ⟨some 14, .pure .idxStr, [.t 12 false, .t 13 false], none⟩ .any,
    .one ⟨some 15, .call 89, [.t 14 false], none⟩ .any,
    .one ⟨some 16, .pure (.un .not), [.t 15 false], none⟩ .any,
    .one ⟨some 17, .mov, [.t 16 false], none⟩ .any,
    .sub [(⟨some 18, .mov, [.t 0 false], some (17, true)⟩, .any),
      (⟨some 19, .mov, [.t 5 false], some (17, true)⟩, .any),
      (⟨some 20, .pure .idxStr, [.t 18 false, .t 19 false], some (17, true)⟩, .any),
      (⟨some 21, .call 100, [.t 20 false], some (17, true)⟩, .any),
      (⟨some 22, .pure (.un .not), [.t 21 false], some (17, true)⟩, .any),
      (⟨some 23, .pure .pick, [.t 17 false, .t 22 false, .c (AV.bool false)], none⟩, .any)] 23,
    .one ⟨some 24, .mov, [.t 23 false], none⟩ .any,
    .sub [(⟨some 25, .mov, [.t 0 false], some (24, true)⟩, .any),
      (⟨some 26, .mov, [.t 5 false], some (24, true)⟩, .any),
      (⟨some 27, .pure .idxStr, [.t 25 false, .t 26 false], some (24, true)⟩, .any),
      (⟨some 28, .mov, [.t 1 false], some (24, true)⟩, .any),
      (⟨some 29, .call 101, [.t 27 false, .t 28 false], some (24, true)⟩, .any),
      (⟨some 30, .pure (.un .not), [.t 29 false], some (24, true)⟩, .any),
      (⟨some 31, .pure .pick, [.t 24 false, .t 30 false, .c (AV.bool false)], none⟩, .any)] 31])
  (.cond (.t 31 false)
   (.seq
   (.region none [4] [
     .one ⟨some 4, .mov, [.c (AV.bool false)], none⟩ .any])
   (.ret [4]))
   .skip)))
 (.region none [0, 1, 5] [
   .one ⟨some 10, .mov, [.t 5 false], none⟩ .any,
   .one ⟨some 11, .pure (.bin .add), [.t 10 false, .c (AV.int .i64 1)], none⟩ .any,
   .one ⟨some 5, .mov, [.t 11 false], none⟩ .any])))
def r88 : RFunc := ⟨35,
 (.seq
 (.region none [0, 1] [
   .one ⟨some 4, .mov, [.c (AV.bool false)], none⟩ .any])
 (.seq
 (.seq
 (.region none [0, 1, 5] [
   .one ⟨some 5, .mov, [.c (AV.int .i64 0)], none⟩ .any])
 (.block 0
  (.loop 2 [0, 1, 5] l88_2)))
 (.seq
 (.region none [4] [
   .one ⟨some 32, .mov, [.t 0 false], none⟩ .any,
   .one ⟨some 33, .pure .lenS, [.t 32 false], none⟩ .any,
   .one ⟨some 34, .pure (.bin .gtr), [.t 33 false, .c (AV.int .i64 0)], none⟩ .any,
   .one ⟨some 4, .mov, [.t 34 false], none⟩ .any])
 (.ret [4])))),
 [.tmp 4 false], false⟩
def a88 : Ann := mkAnn [] [(2, [0, 1, 5])] false [] [] [(0, [0, 1]), (1, [0, 1, 5]), (2, [0, 1, 5, 9]), (3, [0, 1, 5]), (4, [0, 1, 5, 31]), (5, [4]), (6, [4])] [] [] [] [(0, [0]), (1, [0, 1, 5])] [4] [false] [(4, [(6, none), (6, some 23), (1, none), (7, some 31)])] [] []
set_option maxRecDepth 100000 in
theorem c88 : convFn Try.prog a88 88 = some r88 := by kernel_rfl

/-- drayage/drayageref12.digit -/
def r89 : RFunc := ⟨9,
 (.seq
 (.region none [0] [
   .one ⟨some 2, .mov, [.c (AV.bool false)], none⟩ .any])
 (.seq
 (.region none [2] [
   .one ⟨some 3, .mov, [.t 0 false], none⟩ .any,
   .one ⟨some 4, .pure (.bin .geq), [.t 3 false, .c (AV.int .u8 48)], none⟩ .any,
   .one ⟨some 5, .mov, [.t 4 false], none⟩ .any,
   .sub [(⟨some 6, .mov, [.t 0 false], some (5, true)⟩, .any),
     (⟨some 7, .pure (.bin .leq), [.t 6 false, .c (AV.int .u8 57)], some (5, true)⟩, .any),
     (⟨some 8, .pure .pick, [.t 5 false, .t 7 false, .c (AV.bool false)], none⟩, .any)] 8,
   .one ⟨some 2, .mov, [.t 8 false], none⟩ .any])
 (.ret [2]))),
 [.tmp 2 false], false⟩
def a89 : Ann := mkAnn [] [] false [] [] [(0, [0]), (1, [2])] [] [] [] [] [2] [false] [(1, [(3, none), (3, some 8)])] [] []
set_option maxRecDepth 100000 in
theorem c89 : convFn Try.prog a89 89 = some r89 := by kernel_rfl

/-- drayage/version.number -/
def l90_2 : RCode :=
 (.seq
 (.seq
 (.region none [0, 4, 14] [
   .one ⟨some 5, .mov, [.t 4 false], none⟩ .any,
   .one ⟨some 6, .mov, [.t 0 false], none⟩ .any,
   .one ⟨some 7, .pure .lenS, [.t 6 false], none⟩ .any,
   .one ⟨some 8, .pure (.bin .lss), [.t 5 false, .t 7 false], none⟩ .any,
   .one ⟨some 9, .mov, [.t 8 false], none⟩ .any,
   .sub [(⟨some 10, .mov, [.t 0 false], some (9, true)⟩, .any),
     (⟨some 11, .mov, [.t 4 false], some (9, true)⟩, .any),
     (⟨some 12, .pure .idxStr, [.t 10 false, .t 11 false], some (9, true)⟩, .any),
     (⟨some 13, .call 84, [.t 12 false], some (9, true)⟩, .any),
     (⟨some 14, .pure .pick, [.t 9 false, .t 13 false, .c (AV.bool false)], none⟩, .any)] 14])
 (.cond (.t 14 false)
  .skip
  (.exit 0 [0, 4])))
 (.block 1
  (.region none [0, 4] [
    .one ⟨some 15, .mov, [.t 4 false], none⟩ .any,
    .one ⟨some 16, .pure (.bin .add), [.t 15 false, .c (AV.int .i64 1)], none⟩ .any,
    .one ⟨some 4, .mov, [.t 16 false], none⟩ .any])))
def r90 : RFunc := ⟨23,
 (.seq
 (.region none [0] [
   .one ⟨some 2, .mov, [.c (AV.str [])], none⟩ .any,
   .one ⟨some 3, .mov, [.c (AV.str [])], none⟩ .any])
 (.seq
 (.region none [0, 4] [
   .one ⟨some 4, .mov, [.c (AV.int .i64 0)], none⟩ .any])
 (.seq
 (.block 0
  (.loop 2 [0, 4] l90_2))
 (.seq
 (.region (some ([], [])) [2, 3] [
   .one ⟨some 17, .mov, [.t 0 false], none⟩ .any,
   .one ⟨some 18, .mov, [.t 4 false], none⟩ .any,
   .one ⟨some 19, .pure (.sliceStr false true), [.t 17 false, .t 18 false], none⟩ .any,
   .one ⟨some 20, .mov, [.t 0 false], none⟩ .any,
   .one ⟨some 21, .mov, [.t 4 false], none⟩ .any,
   .one ⟨some 22, .pure (.sliceStr true false), [.t 20 false, .t 21 false], none⟩ .any,
   .one ⟨some 2, .mov, [.t 19 false], none⟩ .any,
   .one ⟨some 3, .mov, [.t 22 false], none⟩ .any])
 (.ret [2, 3]))))),
 [.tmp 2 false, .tmp 3 false], false⟩
def a90 : Ann := mkAnn [] [(2, [0, 4])] false [(4, [])] [] [(0, [0]), (1, [0, 4]), (2, [0, 4, 14]), (3, [0, 4]), (4, [2, 3])] [] [] [] [(0, [0, 4]), (1, [0, 4])] [2, 3] [false, false] [(2, [(5, none), (5, some 14)])] [] []
set_option maxRecDepth 100000 in
theorem c90 : convFn Try.prog a90 90 = some r90 := by kernel_rfl

/-- drayage/version.begins -/
def r91 : RFunc := ⟨13,
 (.seq
 (.region none [0, 1] [
   .one ⟨some 4, .mov, [.c (AV.bool false)], none⟩ .any])
 (.seq
 (.region none [4] [
   .one ⟨some 5, .mov, [.t 0 false], none⟩ .any,
   .one ⟨some 6, .pure (.bin .neq), [.t 5 false, .c (AV.str [])], none⟩ .any,
   .one ⟨some 7, .mov, [.t 6 false], none⟩ .any,
   .sub [(⟨some 8, .mov, [.t 0 false], some (7, true)⟩, .any),
     (⟨some 9, .pure .idxStr, [.t 8 false, .c (AV.int .i64 0)], some (7, true)⟩, .any),
     (⟨some 10, .mov, [.t 1 false], some (7, true)⟩, .any),
     (⟨some 11, .pure (.bin .eql), [.t 9 false, .t 10 false], some (7, true)⟩, .any),
     (⟨some 12, .pure .pick, [.t 7 false, .t 11 false, .c (AV.bool false)], none⟩, .any)] 12,
   .one ⟨some 4, .mov, [.t 12 false], none⟩ .any])
 (.ret [4]))),
 [.tmp 4 false], false⟩
def a91 : Ann := mkAnn [] [] false [] [] [(0, [0, 1]), (1, [4])] [] [] [] [] [4] [false] [(1, [(3, none), (5, some 12)])] [] []
set_option maxRecDepth 100000 in
theorem c91 : convFn Try.prog a91 91 = some r91 := by kernel_rfl

/-- drayage/version.word -/
def l92_2 : RCode :=
 (.seq
 (.seq
 (.region none [0, 4, 14] [
   .one ⟨some 5, .mov, [.t 4 false], none⟩ .any,
   .one ⟨some 6, .mov, [.t 0 false], none⟩ .any,
   .one ⟨some 7, .pure .lenS, [.t 6 false], none⟩ .any,
   .one ⟨some 8, .pure (.bin .lss), [.t 5 false, .t 7 false], none⟩ .any,
   .one ⟨some 9, .mov, [.t 8 false], none⟩ .any,
   .sub [(⟨some 10, .mov, [.t 0 false], some (9, true)⟩, .any),
     (⟨some 11, .mov, [.t 4 false], some (9, true)⟩, .any),
     (⟨some 12, .pure .idxStr, [.t 10 false, .t 11 false], some (9, true)⟩, .any),
     (⟨some 13, .call 96, [.t 12 false], some (9, true)⟩, .any),
     (⟨some 14, .pure .pick, [.t 9 false, .t 13 false, .c (AV.bool false)], none⟩, .any)] 14])
 (.cond (.t 14 false)
  .skip
  (.exit 0 [0, 4])))
 (.block 1
  (.region none [0, 4] [
    .one ⟨some 15, .mov, [.t 4 false], none⟩ .any,
    .one ⟨some 16, .pure (.bin .add), [.t 15 false, .c (AV.int .i64 1)], none⟩ .any,
    .one ⟨some 4, .mov, [.t 16 false], none⟩ .any])))
def r92 : RFunc := ⟨23,
 (.seq
 (.region none [0] [
   .one ⟨some 2, .mov, [.c (AV.str [])], none⟩ .any,
   .one ⟨some 3, .mov, [.c (AV.str [])], none⟩ .any])
 (.seq
 (.region none [0, 4] [
   .one ⟨some 4, .mov, [.c (AV.int .i64 0)], none⟩ .any])
 (.seq
 (.block 0
  (.loop 2 [0, 4] l92_2))
 (.seq
 (.region (some ([], [])) [2, 3] [
   .one ⟨some 17, .mov, [.t 0 false], none⟩ .any,
   .one ⟨some 18, .mov, [.t 4 false], none⟩ .any,
   .one ⟨some 19, .pure (.sliceStr false true), [.t 17 false, .t 18 false], none⟩ .any,
   .one ⟨some 20, .mov, [.t 0 false], none⟩ .any,
   .one ⟨some 21, .mov, [.t 4 false], none⟩ .any,
   .one ⟨some 22, .pure (.sliceStr true false), [.t 20 false, .t 21 false], none⟩ .any,
   .one ⟨some 2, .mov, [.t 19 false], none⟩ .any,
   .one ⟨some 3, .mov, [.t 22 false], none⟩ .any])
 (.ret [2, 3]))))),
 [.tmp 2 false, .tmp 3 false], false⟩
def a92 : Ann := mkAnn [] [(2, [0, 4])] false [(4, [])] [] [(0, [0]), (1, [0, 4]), (2, [0, 4, 14]), (3, [0, 4]), (4, [2, 3])] [] [] [] [(0, [0, 4]), (1, [0, 4])] [2, 3] [false, false] [(2, [(5, none), (5, some 14)])] [] []
set_option maxRecDepth 100000 in
theorem c92 : convFn Try.prog a92 92 = some r92 := by kernel_rfl

/-- internal/bytealg.LastIndexByteString -/
def l93_2 : RCode :=
 (.seq
 (.seq
 (.region none [0, 1, 5, 10] [
   .one ⟨some 9, .mov, [.t 5 false], none⟩ .any,
   .one ⟨some 10, .pure (.bin .geq), [.t 9 false, .c (AV.int .i64 0)], none⟩ .any])
 (.cond (.t 10 false)
  .skip
  (.exit 0 [])))
 (.seq
 (.block 1
  (.seq
  (.region none [0, 1, 5, 17] [
    .one ⟨some 13, .mov, [.t 0 false], none⟩ .any,
    .one ⟨some 14, .mov, [.t 5 false], none⟩ .any,
    .one ⟨some 15, .pure .idxStr, [.t 13 false, .t 14 false], none⟩ .any,
    .one ⟨some 16, .mov, [.t 1 false], none⟩ .any,
    .one ⟨some 17, .pure (.bin .eql), [.t 15 false, .t 16 false], none⟩ .any])
  (.cond (.t 17 false)
   (.seq
   (.region none [4] [
     .one ⟨some 18, .mov, [.t 5 false], none⟩ .any,
     .one ⟨some 4, .mov, [.t 18 false], none⟩ .any])
   (.ret [4]))
   .skip)))
 (.region none [0, 1, 5] [
   .one ⟨some 11, .mov, [.t 5 false], none⟩ .any,
   .one ⟨some 12, .pure (.bin .sub), [.t 11 false, .c (AV.int .i64 1)], none⟩ .any,
   .one ⟨some 5, .mov, [.t 12 false], none⟩ .any])))
def r93 : RFunc := ⟨19,
 (.seq
 (.region none [0, 1] [
   .one ⟨some 4, .mov, [.c (AV.int .i64 0)], none⟩ .any])
 (.seq
 (.seq
 (.region none [0, 1, 5] [
   .one ⟨some 6, .mov, [.t 0 false], none⟩ .any,
   .one ⟨some 7, .pure .lenS, [.t 6 false], none⟩ .any,
   .one ⟨some 8, .pure (.bin .sub), [.t 7 false, .c (AV.int .i64 1)], none⟩ .any,
   .one ⟨some 5, .mov, [.t 8 false], none⟩ .any])
 (.block 0
  (.loop 2 [0, 1, 5] l93_2)))
 (.seq
 (.region none [4] [
   .one ⟨some 4, .mov, [.c (AV.int .i64 (-1))], none⟩ .any])
 (.ret [4])))),
 [.tmp 4 false], false⟩
def a93 : Ann := mkAnn [] [(2, [0, 1, 5])] false [] [] [(0, [0, 1]), (1, [0, 1, 5]), (2, [0, 1, 5, 10]), (3, [0, 1, 5]), (4, [0, 1, 5, 17]), (5, [4]), (6, [4])] [] [] [] [(0, []), (1, [0, 1, 5])] [4] [false] [] [] []
set_option maxRecDepth 100000 in
theorem c93 : convFn Try.prog a93 93 = some r93 := by kernel_rfl

/-- internal/bytealg.LastIndexRabinKarp[string] -/
def l94_12 : RCode :=
 (.seq
 (.seq
 (.region none [0, 1, 5, 6, 7, 9, 11, 52] [
   .one ⟨some 51, .mov, [.t 11 false], none⟩ .any,
   .one ⟨some 52, .pure (.bin .geq), [.t 51 false, .c (AV.int .i64 0)], none⟩ .any])
 (.cond (.t 52 false)
  .skip
  (.exit 2 [])))
 (.seq
 (.block 3
  (.seq
  (.region none [0, 1, 5, 6, 7, 9, 11] [
    .one ⟨some 55, .mov, [.t 9 false], none⟩ .any,
    .one ⟨some 56, .pure (.bin .mul), [.t 55 false, .c (AV.int .u32 16777619)], none⟩ .any,
    .one ⟨some 9, .mov, [.t 56 false], none⟩ .any])
  (.seq
  (.region none [0, 1, 5, 6, 7, 9, 11] [
    .one ⟨some 57, .mov, [.t 9 false], none⟩ .any,
    .one ⟨some 58, .mov, [.t 0 false], none⟩ .any,
    .one ⟨some 59, .mov, [.t 11 false], none⟩ .any,
    .one ⟨some 60, .pure .idxStr, [.t 58 false, .t 59 false], none⟩ .any,
    .one ⟨some 61, .pure (.cvInt .u32), [.t 60 false], none⟩ .any,
    .one ⟨some 62, .pure (.bin .add), [.t 57 false, .t 61 false], none⟩ .any,
    .one ⟨some 9, .mov, [.t 62 false], none⟩ .any])
  (.seq
  (.region none [0, 1, 5, 6, 7, 9, 11] [
    .one ⟨some 63, .mov, [.t 9 false], none⟩ .any,
    .one ⟨some 64, .mov, [.t 6 false], none⟩ .any,
    .one ⟨some 65, .mov, [.t 0 false], none⟩ .any,
    .one ⟨some 66, .mov, [.t 11 false], none⟩ .any,
    .one ⟨some 67, .mov, [.t 7 false], none⟩ .any,
    .one ⟨some 68, .pure (.bin .add), [.t 66 false, .t 67 false], none⟩ .any,
    .one ⟨some 69, .pure .idxStr, [.t 65 false, .t 68 false], none⟩ .any,
    .one ⟨some 70, .pure (.cvInt .u32), [.t 69 false], none⟩ .any,
    .one ⟨some 71, .pure (.bin .mul), [.t 64 false, .t 70 false], none⟩ .any,
    .one ⟨some 72, .pure (.bin .sub), [.t 63 false, .t 71 false], none⟩ .any,
    .one ⟨some 9, .mov, [.t 72 false], none⟩ .any])
  (.seq
  (.region none [0, 1, 5, 6, 7, 9, 11, 85] [
    .one ⟨some 73, .mov, [.t 9 false], none⟩ .any,
    .one ⟨some 74, .mov, [.t 5 false], none⟩ .any,
    .one ⟨some 75, .pure (.bin .eql), [.t 73 false, .t 74 false], none⟩ .any,
    .one ⟨some 76, .mov, [.t 75 false], none⟩ .any,
    .sub [(⟨some 77, .mov, [.t 0 false], some (76, true)⟩, .any),
      (⟨some 78, .mov, [.t 11 false], some (76, true)⟩, .any),
      (⟨some 79, .mov, [.t 11 false], some (76, true)⟩, .any),
      (⟨some 80, .mov, [.t 7 false], some (76, true)⟩, .any),
      (⟨some 81, .pure (.bin .add), [.t 79 false, .t 80 false], some (76, true)⟩, .any),
      (⟨some 82, .pure (.sliceStr true true), [.t 77 false, .t 78 false, .t 81 false], some (76, true)⟩, .any),
      (⟨some 83, .mov, [.t 1 false], some (76, true)⟩, .any),
      (⟨some 84, .pure (.bin .eql), [.t 82 false, .t 83 false], some (76, true)⟩, .any),
      (⟨some 85, .pure .pick, [.t 76 false, .t 84 false, .c (AV.bool false)], none⟩, .any)] 85])
  (.cond (.t 85 false)
   (.seq
   (.region none [4] [
     .one ⟨some 86, .mov, [.t 11 false], none⟩ .any,
     .one ⟨some 4, .mov, [.t 86 false], none⟩ .any])
   (.ret [4]))
   .skip))))))
 (.region none [0, 1, 5, 6, 7, 9, 11] [
   .one ⟨some 53, .mov, [.t 11 false], none⟩ .any,
   .one ⟨some 54, .pure (.bin .sub), [.t 53 false, .c (AV.int .i64 1)], none⟩ .any,
   .one ⟨some 11, .mov, [.t 54 false], none⟩ .any])))
def l94_6 : RCode :=
 (.seq
 (.seq
 (.region none [0, 1, 5, 6, 7, 8, 9, 10, 28] [
   .one ⟨some 26, .mov, [.t 10 false], none⟩ .any,
   .one ⟨some 27, .mov, [.t 8 false], none⟩ .any,
   .one ⟨some 28, .pure (.bin .geq), [.t 26 false, .t 27 false], none⟩ .any])
 (.cond (.t 28 false)
  .skip
  (.exit 0 [0, 1, 5, 6, 7, 8, 9])))
 (.seq
 (.block 1
  (.region none [0, 1, 5, 6, 7, 8, 9, 10] [
    .one ⟨some 31, .mov, [.t 9 false], none⟩ .any,
    .one ⟨some 32, .pure (.bin .mul), [.t 31 false, .c (AV.int .u32 16777619)], none⟩ .any,
    .one ⟨some 33, .mov, [.t 0 false], none⟩ .any,
    .one ⟨some 34, .mov, [.t 10 false], none⟩ .any,
    .one ⟨some 35, .pure .idxStr, [.t 33 false, .t 34 false], none⟩ .any,
    .one ⟨some 36, .pure (.cvInt .u32), [.t 35 false], none⟩ .any,
    .one ⟨some 37, .pure (.bin .add), [.t 32 false, .t 36 false], none⟩ .any,
    .one ⟨some 9, .mov, [.t 37 false], none⟩ .any]))
 (.region none [0, 1, 5, 6, 7, 8, 9, 10] [
   .one ⟨some 29, .mov, [.t 10 false], none⟩ .any,
   .one ⟨some 30, .pure (.bin .sub), [.t 29 false, .c (AV.int .i64 1)], none⟩ .any,
   .one ⟨some 10, .mov, [.t 30 false], none⟩ .any])))
def r94 : RFunc := ⟨87,
 (.seq
 (.region none [0, 1] [
   .one ⟨some 4, .mov, [.c (AV.int .i64 0)], none⟩ .any])
 (.seq
 (.region none [0, 1, 5, 6] [
   .one ⟨some 13, .mov, [.t 1 false], none⟩ .any,
   .one ⟨some 14, .call 102, [.t 13 false], none⟩ .any,
   .one ⟨some 12, .mov, [.t 14 false], none⟩ .any,
   .one ⟨some 15, .pure (.extract 0), [.t 12 false], none⟩ .any,
   .one ⟨some 16, .pure (.extract 1), [.t 12 false], none⟩ .any,
   .one ⟨some 5, .mov, [.t 15 false], none⟩ .any,
   .one ⟨some 6, .mov, [.t 16 false], none⟩ .any])
 (.seq
 (.region none [0, 1, 5, 6, 7] [
   .one ⟨some 17, .mov, [.t 1 false], none⟩ .any,
   .one ⟨some 18, .pure .lenS, [.t 17 false], none⟩ .any,
   .one ⟨some 7, .mov, [.t 18 false], none⟩ .any])
 (.seq
 (.region none [0, 1, 5, 6, 7, 8] [
   .one ⟨some 19, .mov, [.t 0 false], none⟩ .any,
   .one ⟨some 20, .pure .lenS, [.t 19 false], none⟩ .any,
   .one ⟨some 21, .mov, [.t 7 false], none⟩ .any,
   .one ⟨some 22, .pure (.bin .sub), [.t 20 false, .t 21 false], none⟩ .any,
   .one ⟨some 8, .mov, [.t 22 false], none⟩ .any])
 (.seq
 (.region none [0, 1, 5, 6, 7, 8, 9] [
   .one ⟨some 9, .mov, [.c (AV.int .u32 0)], none⟩ .any])
 (.seq
 (.seq
 (.region none [0, 1, 5, 6, 7, 8, 9, 10] [
   .one ⟨some 23, .mov, [.t 0 false], none⟩ .any,
   .one ⟨some 24, .pure .lenS, [.t 23 false], none⟩ .any,
   .one ⟨some 25, .pure (.bin .sub), [.t 24 false, .c (AV.int .i64 1)], none⟩ .any,
   .one ⟨some 10, .mov, [.t 25 false], none⟩ .any])
 (.block 0
  (.loop 6 [0, 1, 5, 6, 7, 8, 9, 10] l94_6)))
 (.seq
 (.seq
 (.region none [0, 1, 5, 6, 7, 8, 9, 47] [
   .one ⟨some 38, .mov, [.t 9 false], none⟩ .any,
   .one ⟨some 39, .mov, [.t 5 false], none⟩ .any,
   .one ⟨some 40, .pure (.bin .eql), [.t 38 false, .t 39 false], none⟩ .any,
   .one ⟨some 41, .mov, [.t 40 false], none⟩ .any,
   .sub [(⟨some 42, .mov, [.t 0 false], some (41, true)⟩, .any),
     (⟨some 43, .mov, [.t 8 false], some (41, true)⟩, .any),
     (⟨some 44, .pure (.sliceStr true false), [.t 42 false, .t 43 false], some (41, true)⟩, .any),
     (⟨some 45, .mov, [.t 1 false], some (41, true)⟩, .any),
     (⟨some 46, .pure (.bin .eql), [.t 44 false, .t 45 false], some (41, true)⟩, .any),
     (⟨some 47, .pure .pick, [.t 41 false, .t 46 false, .c (AV.bool false)], none⟩, .any)] 47])
 (.cond (.t 47 false)
  (.seq
  (.region none [4] [
    .one ⟨some 48, .mov, [.t 8 false], none⟩ .any,
    .one ⟨some 4, .mov, [.t 48 false], none⟩ .any])
  (.ret [4]))
  .skip))
 (.seq
 (.seq
 (.region none [0, 1, 5, 6, 7, 9, 11] [
   .one ⟨some 49, .mov, [.t 8 false], none⟩ .any,
   .one ⟨some 50, .pure (.bin .sub), [.t 49 false, .c (AV.int .i64 1)], none⟩ .any,
   .one ⟨some 11, .mov, [.t 50 false], none⟩ .any])
 (.block 2
  (.loop 12 [0, 1, 5, 6, 7, 9, 11] l94_12)))
 (.seq
 (.region none [4] [
   .one ⟨some 4, .mov, [.c (AV.int .i64 (-1))], none⟩ .any])
 (.ret [4])))))))))),
 [.tmp 4 false], false⟩
def a94 : Ann := mkAnn [] [(6, [0, 1, 5, 6, 7, 8, 9, 10]), (12, [0, 1, 5, 6, 7, 9, 11])] false [] [] [(0, [0, 1]), (1, [0, 1, 5, 6]), (2, [0, 1, 5, 6, 7]), (3, [0, 1, 5, 6, 7, 8]), (4, [0, 1, 5, 6, 7, 8, 9]), (5, [0, 1, 5, 6, 7, 8, 9, 10]), (6, [0, 1, 5, 6, 7, 8, 9, 10, 28]), (7, [0, 1, 5, 6, 7, 8, 9, 10]), (8, [0, 1, 5, 6, 7, 8, 9, 10]), (9, [0, 1, 5, 6, 7, 8, 9, 47]), (10, [4]), (11, [0, 1, 5, 6, 7, 9, 11]), (12, [0, 1, 5, 6, 7, 9, 11, 52]), (13, [0, 1, 5, 6, 7, 9, 11]), (14, [0, 1, 5, 6, 7, 9, 11]), (15, [0, 1, 5, 6, 7, 9, 11]), (16, [0, 1, 5, 6, 7, 9, 11]), (17, [0, 1, 5, 6, 7, 9, 11, 85]), (18, [4]), (19, [4])] [] [] [] [(0, [0, 1, 5, 6, 7, 8, 9]), (1, [0, 1, 5, 6, 7, 8, 9, 10]), (2, []), (3, [0, 1, 5, 6, 7, 9, 11])] [4] [false] [(9, [(4, none), (6, some 47)]), (17, [(4, none), (9, some 85)])] [] []
set_option maxRecDepth 100000 in
theorem c94 : convFn Try.prog a94 94 = some r94 := by kernel_rfl

/-- strings.Cut -/
def r95 : RFunc := ⟨13,
 (.seq
 (.region none [0, 1] [
   .one ⟨some 4, .mov, [.c (AV.str [])], none⟩ .any,
   .one ⟨some 5, .mov, [.c (AV.str [])], none⟩ .any,
   .one ⟨some 6, .mov, [.c (AV.bool false)], none⟩ .any])
 (.seq
 (.region none [4, 5, 6] [
   .one ⟨some 7, .mov, [.t 0 false], none⟩ .any,
   .one ⟨some 8, .mov, [.t 1 false], none⟩ .any,
   .one ⟨some 9, .call 103, [.t 7 false, .t 8 false], none⟩ .any,
   .one ⟨some 10, .pure (.extract 0), [.t 9 false], none⟩ .any,
   .one ⟨some 11, .pure (.extract 1), [.t 9 false], none⟩ .any,
   .one ⟨some 12, .pure (.extract 2), [.t 9 false], none⟩ .any,
   .one ⟨some 4, .mov, [.t 10 false], none⟩ .any,
   .one ⟨some 5, .mov, [.t 11 false], none⟩ .any,
   .one ⟨some 6, .mov, [.t 12 false], none⟩ .any])
 (.ret [4, 5, 6]))),
 [.tmp 4 false, .tmp 5 false, .tmp 6 false], false⟩
def a95 : Ann := mkAnn [] [] false [] [] [(0, [0, 1]), (1, [4, 5, 6])] [] [] [] [] [4, 5, 6] [false, false, false] [] [] []
set_option maxRecDepth 100000 in
theorem c95 : convFn Try.prog a95 95 = some r95 := by kernel_rfl

/-- drayage/version.letter -/
def r96 : RFunc := ⟨17,
 (.seq
 (.region none [0] [
   .one ⟨some 2, .mov, [.c (AV.bool false)], none⟩ .any])
 (.seq
 (.region none [2] [
   .one ⟨some 3, .mov, [.t 0 false], none⟩ .any,
   .one ⟨some 4, .pure (.bin .geq), [.t 3 false, .c (AV.int .u8 97)], none⟩ .any,
   .one ⟨some 5, .mov, [.t 4 false], none⟩ .any,
   .sub [(⟨some 6, .mov, [.t 0 false], some (5, true)⟩, .any),
     (⟨some 7, .pure (.bin .leq), [.t 6 false, .c (AV.int .u8 122)], some (5, true)⟩, .any),
     (⟨some 8, .pure .pick, [.t 5 false, .t 7 false, .c (AV.bool false)], none⟩, .any)] 8,
   .one ⟨some 9, .mov, [.t 8 false], none⟩ .any,
   .sub [(⟨some 10, .mov, [.t 0 false], some (9, false)⟩, .any),
     (⟨some 11, .pure (.bin .geq), [.t 10 false, .c (AV.int .u8 65)], some (9, false)⟩, .any),
     (⟨some 12, .mov, [.t 11 false], some (9, false)⟩, .any),
     (⟨some 13, .mov, [.t 0 false], some (12, true)⟩, .any),
     (⟨some 14, .pure (.bin .leq), [.t 13 false, .c (AV.int .u8 90)], some (12, true)⟩, .any),
     (⟨some 15, .pure .pick, [.t 12 false, .t 14 false, .c (AV.bool false)], some (9, false)⟩, .any),
     (⟨some 16, .pure .pick, [.t 9 false, .c (AV.bool true), .t 15 false], none⟩, .any)] 16,
   .one ⟨some 2, .mov, [.t 16 false], none⟩ .any])
 (.ret [2]))),
 [.tmp 2 false], false⟩
def a96 : Ann := mkAnn [] [] false [] [] [(0, [0]), (1, [2])] [] [] [] [] [2] [false] [(1, [(3, none), (3, some 8), (1, none), (7, some 16)])] [] []
set_option maxRecDepth 100000 in
theorem c96 : convFn Try.prog a96 96 = some r96 := by kernel_rfl

/-- drayage/drayageref12.has -/
def r97 : RFunc := ⟨14,
 (.seq
 (.region none [0, 1] [
   .one ⟨some 4, .mov, [.c (AV.bool false)], none⟩ .any])
 (.seq
 (.region none [4] [
   .one ⟨some 5, .mov, [.t 0 false], none⟩ .any,
   .one ⟨some 6, .pure .lenS, [.t 5 false], none⟩ .any,
   .one ⟨some 7, .pure (.bin .gtr), [.t 6 false, .c (AV.int .i64 0)], none⟩ .any,
   .one ⟨some 8, .mov, [.t 7 false], none⟩ .any,
   .sub [(⟨some 9, .mov, [.t 0 false], some (8, true)⟩, .any),
     (⟨some 10, .pure .idxStr, [.t 9 false, .c (AV.int .i64 0)], some (8, true)⟩, .any),
     (⟨some 11, .mov, [.t 1 false], some (8, true)⟩, .any),
     (⟨some 12, .pure (.bin .eql), [.t 10 false, .t 11 false], some (8, true)⟩, .any),
     (⟨some 13, .pure .pick, [.t 8 false, .t 12 false, .c (AV.bool false)], none⟩, .any)] 13,
   .one ⟨some 4, .mov, [.t 13 false], none⟩ .any])
 (.ret [4]))),
 [.tmp 4 false], false⟩
def a97 : Ann := mkAnn [] [] false [] [] [(0, [0, 1]), (1, [4])] [] [] [] [] [4] [false] [(1, [(4, none), (5, some 13)])] [] []
set_option maxRecDepth 100000 in
theorem c97 : convFn Try.prog a97 97 = some r97 := by kernel_rfl

/-- drayage/drayageref12.letters -/
def l98_2 : RCode :=
 (.seq
 (.seq
 (.region none [0, 3, 13] [
   .one ⟨some 4, .mov, [.t 3 false], none⟩ .any,
   .one ⟨some 5, .mov, [.t 0 false], none⟩ .any,
   .one ⟨some 6, .pure .lenS, [.t 5 false], none⟩ .any,
   .one ⟨some 7, .pure (.bin .lss), [.t 4 false, .t 6 false], none⟩ .any,
   .one ⟨some 8, .mov, [.t 7 false], none⟩ .any,
   .sub [(⟨some 9, .mov, [.t 0 false], some (8, true)⟩, .any),
     (⟨some 10, .mov, [.t 3 false], some (8, true)⟩, .any),
     (⟨some 11, .pure .idxStr, [.t 9 false, .t 10 false], some (8, true)⟩, .any),
     (⟨some 12, .call 100, [.t 11 false], some (8, true)⟩, .any),
     (⟨some 13, .pure .pick, [.t 8 false, .t 12 false, .c (AV.bool false)], none⟩, .any)] 13])
 (.cond (.t 13 false)
  .skip
  (.exit 0 [3])))
 (.block 1
  (.region none [0, 3] [
    .one ⟨some 14, .mov, [.t 3 false], none⟩ .any,
    .one ⟨some 15, .pure (.bin .add), [.t 14 false, .c (AV.int .i64 1)], none⟩ .any,
    .one ⟨some 3, .mov, [.t 15 false], none⟩ .any])))
def r98 : RFunc := ⟨17,
 (.seq
 (.region none [0] [
   .one ⟨some 2, .mov, [.c (AV.int .i64 0)], none⟩ .any])
 (.seq
 (.region none [0, 3] [
   .one ⟨some 3, .mov, [.c (AV.int .i64 0)], none⟩ .any])
 (.seq
 (.block 0
  (.loop 2 [0, 3] l98_2))
 (.seq
 (.region none [2] [
   .one ⟨some 16, .mov, [.t 3 false], none⟩ .any,
   .one ⟨some 2, .mov, [.t 16 false], none⟩ .any])
 (.ret [2]))))),
 [.tmp 2 false], false⟩
def a98 : Ann := mkAnn [] [(2, [0, 3])] false [] [] [(0, [0]), (1, [0, 3]), (2, [0, 3, 13]), (3, [0, 3]), (4, [2])] [] [] [] [(0, [3]), (1, [0, 3])] [2] [false] [(2, [(5, none), (5, some 13)])] [] []
set_option maxRecDepth 100000 in
theorem c98 : convFn Try.prog a98 98 = some r98 := by kernel_rfl

/-- drayage/drayageref12.words -/
def r99 : RFunc := ⟨2,
 (.seq
 (.region none [] [
   .one ⟨some 0, .mov, [.c (AV.sl false 1 [])], none⟩ .any])
 (.seq
 (.region none [0] [
   .one ⟨some 1, .bslice 1 false 9, [.c (AV.str [97, 108, 112, 104, 97]), .c (AV.str [98, 101, 116, 97]), .c (AV.str [112, 114, 101]), .c (AV.str [114, 99]), .c (AV.str [99, 118, 115]), .c (AV.str [115, 118, 110]), .c (AV.str [103, 105, 116]), .c (AV.str [104, 103]), .c (AV.str [112])], none⟩ .any,
   .one ⟨some 0, .mov, [.t 1 false], none⟩ .any])
 (.ret [0]))),
 [.tmp 0 false], false⟩
def a99 : Ann := mkAnn [] [] false [] [] [(0, []), (1, [0])] [] [(0, 0, [2])] [] [] [0] [false] [] [] []
set_option maxRecDepth 100000 in
theorem c99 : convFn Try.prog a99 99 = some r99 := by kernel_rfl

/-- drayage/drayageref12.letter -/
def r100 : RFunc := ⟨17,
 (.seq
 (.region none [0] [
   .one ⟨some 2, .mov, [.c (AV.bool false)], none⟩ .any])
 (.seq
 (.region none [2] [
   .one ⟨some 3, .mov, [.t 0 false], none⟩ .any,
   .one ⟨some 4, .pure (.bin .geq), [.t 3 false, .c (AV.int .u8 97)], none⟩ .any,
   .one ⟨some 5, .mov, [.t 4 false], none⟩ .any,
   .sub [(⟨some 6, .mov, [.t 0 false], some (5, true)⟩, .any),
     (⟨some 7, .pure (.bin .leq), [.t 6 false, .c (AV.int .u8 122)], some (5, true)⟩, .any),
     (⟨some 8, .pure .pick, [.t 5 false, .t 7 false, .c (AV.bool false)], none⟩, .any)] 8,
   .one ⟨some 9, .mov, [.t 8 false], none⟩ .any,
   .sub [(⟨some 10, .mov, [.t 0 false], some (9, false)⟩, .any),
     (⟨some 11, .pure (.bin .geq), [.t 10 false, .c (AV.int .u8 65)], some (9, false)⟩, .any),
     (⟨some 12, .mov, [.t 11 false], some (9, false)⟩, .any),
     (⟨some 13, .mov, [.t 0 false], some (12, true)⟩, .any),
     (⟨some 14, .pure (.bin .leq), [.t 13 false, .c (AV.int .u8 90)], some (12, true)⟩, .any),
     (⟨some 15, .pure .pick, [.t 12 false, .t 14 false, .c (AV.bool false)], some (9, false)⟩, .any),
     (⟨some 16, .pure .pick, [.t 9 false, .c (AV.bool true), .t 15 false], none⟩, .any)] 16,
   .one ⟨some 2, .mov, [.t 16 false], none⟩ .any])
 (.ret [2]))),
 [.tmp 2 false], false⟩
def a100 : Ann := mkAnn [] [] false [] [] [(0, [0]), (1, [2])] [] [] [] [] [2] [false] [(1, [(3, none), (3, some 8), (1, none), (7, some 16)])] [] []
set_option maxRecDepth 100000 in
theorem c100 : convFn Try.prog a100 100 = some r100 := by kernel_rfl

/-- drayage/drayageref12.in -/
def l101_2 : RCode :=
 (.seq
 (.seq
 (.region none [0, 1, 5, 9] [
   .one ⟨some 6, .mov, [.t 5 false], none⟩ .any,
   .one ⟨some 7, .mov, [.t 1 false], none⟩ .any,
   .one ⟨some 8, .pure .lenS, [.t 7 false], none⟩ .any,
   .one ⟨some 9, .pure (.bin .lss), [.t 6 false, .t 8 false], none⟩ .any])
 (.cond (.t 9 false)
  .skip
  (.exit 0 [])))
 (.seq
 (.block 1
  (.seq
  (.region none [0, 1, 5, 16] [
    .one ⟨some 12, .mov, [.t 1 false], none⟩ .any,
    .one ⟨some 13, .mov, [.t 5 false], none⟩ .any,
    .one ⟨some 14, .pure .idxStr, [.t 12 false, .t 13 false], none⟩ .any,
    .one ⟨some 15, .mov, [.t 0 false], none⟩ .any,
    .one ⟨some 16, .pure (.bin .eql), [.t 14 false, .t 15 false], none⟩ .any])
  (.cond (.t 16 false)
   (.seq
   (.region none [4] [
     .one ⟨some 4, .mov, [.c (AV.bool true)], none⟩ .any])
   (.ret [4]))
   .skip)))
 (.region none [0, 1, 5] [
   .one ⟨some 10, .mov, [.t 5 false], none⟩ .any,
   .one ⟨some 11, .pure (.bin .add), [.t 10 false, .c (AV.int .i64 1)], none⟩ .any,
   .one ⟨some 5, .mov, [.t 11 false], none⟩ .any])))
def r101 : RFunc := ⟨17,
 (.seq
 (.region none [0, 1] [
   .one ⟨some 4, .mov, [.c (AV.bool false)], none⟩ .any])
 (.seq
 (.seq
 (.region none [0, 1, 5] [
   .one ⟨some 5, .mov, [.c (AV.int .i64 0)], none⟩ .any])
 (.block 0
  (.loop 2 [0, 1, 5] l101_2)))
 (.seq
 (.region none [4] [
   .one ⟨some 4, .mov, [.c (AV.bool false)], none⟩ .any])
 (.ret [4])))),
 [.tmp 4 false], false⟩
def a101 : Ann := mkAnn [] [(2, [0, 1, 5])] false [] [] [(0, [0, 1]), (1, [0, 1, 5]), (2, [0, 1, 5, 9]), (3, [0, 1, 5]), (4, [0, 1, 5, 16]), (5, [4]), (6, [4])] [] [] [] [(0, []), (1, [0, 1, 5])] [4] [false] [] [] []
set_option maxRecDepth 100000 in
theorem c101 : convFn Try.prog a101 101 = some r101 := by kernel_rfl

/-- internal/bytealg.hashStrRev[string] -/
def l102_8 : RCode :=
 (.seq
 (.seq
 (.region none [4, 6, 7, 8, 26] [
   .one ⟨some 25, .mov, [.t 8 false], none⟩ .any,
   .one ⟨some 26, .pure (.bin .gtr), [.t 25 false, .c (AV.int .i64 0)], none⟩ .any])
 (.cond (.t 26 false)
  .skip
  (.exit 2 [4, 6])))
 (.seq
 (.block 3
  (.seq
  (.seq
  (.region none [4, 6, 7, 8, 31] [
    .one ⟨some 29, .mov, [.t 8 false], none⟩ .any,
    .one ⟨some 30, .pure (.bin .and), [.t 29 false, .c (AV.int .i64 1)], none⟩ .any,
    .one ⟨some 31, .pure (.bin .neq), [.t 30 false, .c (AV.int .i64 0)], none⟩ .any])
  (.cond (.t 31 false)
   (.region none [4, 6, 7, 8] [
     .one ⟨some 32, .mov, [.t 6 false], none⟩ .any,
     .one ⟨some 33, .mov, [.t 7 false], none⟩ .any,
     .one ⟨some 34, .pure (.bin .mul), [.t 32 false, .t 33 false], none⟩ .any,
     .one ⟨some 6, .mov, [.t 34 false], none⟩ .any])
   .skip))
  (.region none [4, 6, 7, 8] [
    .one ⟨some 35, .mov, [.t 7 false], none⟩ .any,
    .one ⟨some 36, .mov, [.t 7 false], none⟩ .any,
    .one ⟨some 37, .pure (.bin .mul), [.t 35 false, .t 36 false], none⟩ .any,
    .one ⟨some 7, .mov, [.t 37 false], none⟩ .any])))
 (.region none [4, 6, 7, 8] [
   .one ⟨some 27, .mov, [.t 8 false], none⟩ .any,
   .one ⟨some 28, .pure (.bin .shr), [.t 27 false, .c (AV.int .u64 1)], none⟩ .any,
   .one ⟨some 8, .mov, [.t 28 false], none⟩ .any])))
def l102_3 : RCode :=
 (.seq
 (.seq
 (.region none [0, 4, 5, 13] [
   .one ⟨some 12, .mov, [.t 5 false], none⟩ .any,
   .one ⟨some 13, .pure (.bin .geq), [.t 12 false, .c (AV.int .i64 0)], none⟩ .any])
 (.cond (.t 13 false)
  .skip
  (.exit 0 [0, 4])))
 (.seq
 (.block 1
  (.region none [0, 4, 5] [
    .one ⟨some 16, .mov, [.t 4 false], none⟩ .any,
    .one ⟨some 17, .pure (.bin .mul), [.t 16 false, .c (AV.int .u32 16777619)], none⟩ .any,
    .one ⟨some 18, .mov, [.t 0 false], none⟩ .any,
    .one ⟨some 19, .mov, [.t 5 false], none⟩ .any,
    .one ⟨some 20, .pure .idxStr, [.t 18 false, .t 19 false], none⟩ .any,
    .one ⟨some 21, .pure (.cvInt .u32), [.t 20 false], none⟩ .any,
    .one ⟨some 22, .pure (.bin .add), [.t 17 false, .t 21 false], none⟩ .any,
    .one ⟨some 4, .mov, [.t 22 false], none⟩ .any]))
 (.region none [0, 4, 5] [
   .one ⟨some 14, .mov, [.t 5 false], none⟩ .any,
   .one ⟨some 15, .pure (.bin .sub), [.t 14 false, .c (AV.int .i64 1)], none⟩ .any,
   .one ⟨some 5, .mov, [.t 15 false], none⟩ .any])))
def r102 : RFunc := ⟨40,
 (.seq
 (.region none [0] [
   .one ⟨some 2, .mov, [.c (AV.int .u32 0)], none⟩ .any,
   .one ⟨some 3, .mov, [.c (AV.int .u32 0)], none⟩ .any])
 (.seq
 (.region none [0, 4] [
   .one ⟨some 4, .mov, [.c (AV.int .u32 0)], none⟩ .any])
 (.seq
 (.seq
 (.region none [0, 4, 5] [
   .one ⟨some 9, .mov, [.t 0 false], none⟩ .any,
   .one ⟨some 10, .pure .lenS, [.t 9 false], none⟩ .any,
   .one ⟨some 11, .pure (.bin .sub), [.t 10 false, .c (AV.int .i64 1)], none⟩ .any,
   .one ⟨some 5, .mov, [.t 11 false], none⟩ .any])
 (.block 0
  (.loop 3 [0, 4, 5] l102_3)))
 (.seq
 (.region none [0, 4, 6, 7] [
   .one ⟨some 6, .mov, [.c (AV.int .u32 1)], none⟩ .any,
   .one ⟨some 7, .mov, [.c (AV.int .u32 16777619)], none⟩ .any])
 (.seq
 (.seq
 (.region none [4, 6, 7, 8] [
   .one ⟨some 23, .mov, [.t 0 false], none⟩ .any,
   .one ⟨some 24, .pure .lenS, [.t 23 false], none⟩ .any,
   .one ⟨some 8, .mov, [.t 24 false], none⟩ .any])
 (.block 2
  (.loop 8 [4, 6, 7, 8] l102_8)))
 (.seq
 (.region none [2, 3] [
   .one ⟨some 38, .mov, [.t 4 false], none⟩ .any,
   .one ⟨some 39, .mov, [.t 6 false], none⟩ .any,
   .one ⟨some 2, .mov, [.t 38 false], none⟩ .any,
   .one ⟨some 3, .mov, [.t 39 false], none⟩ .any])
 (.ret [2, 3]))))))),
 [.tmp 2 false, .tmp 3 false], false⟩
def a102 : Ann := mkAnn [] [(3, [0, 4, 5]), (8, [4, 6, 7, 8])] false [] [] [(0, [0]), (1, [0, 4]), (2, [0, 4, 5]), (3, [0, 4, 5, 13]), (4, [0, 4, 5]), (5, [0, 4, 5]), (6, [0, 4, 6, 7]), (7, [4, 6, 7, 8]), (8, [4, 6, 7, 8, 26]), (9, [4, 6, 7, 8]), (10, [4, 6, 7, 8, 31]), (11, [4, 6, 7, 8]), (12, [4, 6, 7, 8]), (13, [2, 3])] [] [] [] [(0, [0, 4]), (1, [0, 4, 5]), (2, [4, 6]), (3, [4, 6, 7, 8])] [2, 3] [false, false] [] [] []
set_option maxRecDepth 100000 in
theorem c102 : convFn Try.prog a102 102 = some r102 := by kernel_rfl

/-- internal/stringslite.Cut -/
def r103 : RFunc := ⟨23,
 (.seq
 (.region none [0, 1] [
   .one ⟨some 4, .mov, [.c (AV.str [])], none⟩ .any,
   .one ⟨some 5, .mov, [.c (AV.str [])], none⟩ .any,
   .one ⟨some 6, .mov, [.c (AV.bool false)], none⟩ .any])
 (.seq
 (.seq
 (.region none [0, 1, 7] [
   .one ⟨some 8, .mov, [.t 0 false], none⟩ .any,
   .one ⟨some 9, .mov, [.t 1 false], none⟩ .any,
   .one ⟨some 10, .call 104, [.t 8 false, .t 9 false], none⟩ .any,
   .one ⟨some 7, .mov, [.t 10 false], none⟩ .any])
 (.seq
 (.region none [0, 1, 7, 12] [
   .one ⟨some 11, .mov, [.t 7 false], none⟩ .any,
   .one ⟨some 12, .pure (.bin .geq), [.t 11 false, .c (AV.int .i64 0)], none⟩ .any])
 (.cond (.t 12 false)
  (.seq
  (.region (some ([], [])) [4, 5, 6] [
    .one ⟨some 13, .mov, [.t 0 false], none⟩ .any,
    .one ⟨some 14, .mov, [.t 7 false], none⟩ .any,
    .one ⟨some 15, .pure (.sliceStr false true), [.t 13 false, .t 14 false], none⟩ .any,
    .one ⟨some 16, .mov, [.t 0 false], none⟩ .any,
    .one ⟨some 17, .mov, [.t 7 false], none⟩ .any,
    .one ⟨some 18, .mov, [.t 1 false], none⟩ .any,
    .one ⟨some 19, .pure .lenS, [.t 18 false], none⟩ .any,
    .one ⟨some 20, .pure (.bin .add), [.t 17 false, .t 19 false], none⟩ .any,
    .one ⟨some 21, .pure (.sliceStr true false), [.t 16 false, .t 20 false], none⟩ .any,
    .one ⟨some 4, .mov, [.t 15 false], none⟩ .any,
    .one ⟨some 5, .mov, [.t 21 false], none⟩ .any,
    .one ⟨some 6, .mov, [.c (AV.bool true)], none⟩ .any])
  (.ret [4, 5, 6]))
  .skip)))
 (.seq
 (.region none [4, 5, 6] [
   .one ⟨some 22, .mov, [.t 0 false], none⟩ .any,
   .one ⟨some 4, .mov, [.t 22 false], none⟩ .any,
   .one ⟨some 5, .mov, [.c (AV.str [])], none⟩ .any,
   .one ⟨some 6, .mov, [.c (AV.bool false)], none⟩ .any])
 (.ret [4, 5, 6])))),
 [.tmp 4 false, .tmp 5 false, .tmp 6 false], false⟩
def a103 : Ann := mkAnn [] [] false [(3, [])] [] [(0, [0, 1]), (1, [0, 1, 7]), (2, [0, 1, 7, 12]), (3, [4, 5, 6]), (4, [4, 5, 6])] [] [] [] [] [4, 5, 6] [false, false, false] [] [] []
set_option maxRecDepth 100000 in
theorem c103 : convFn Try.prog a103 103 = some r103 := by kernel_rfl

/-- internal/stringslite.Index -/
def k104_21 : RCode :=
  (.seq
  (.seq
  (.region none [0, 1, 5, 6, 7, 8, 9, 10, 93] [
    .one ⟨some 78, .mov, [.t 0 false], none⟩ .any,
    .one ⟨some 79, .mov, [.t 8 false], none⟩ .any,
    .one ⟨some 80, .pure (.bin .add), [.t 79 false, .c (AV.int .i64 1)], none⟩ .any,
    .one ⟨some 81, .pure .idxStr, [.t 78 false, .t 80 false], none⟩ .any,
    .one ⟨some 82, .mov, [.t 7 false], none⟩ .any,
    .one ⟨some 83, .pure (.bin .eql), [.t 81 false, .t 82 false], none⟩ .any,
    .one ⟨some 84, .mov, [.t 83 false], none⟩ .any,
    .sub [(⟨some 85, .mov, [.t 0 false], some (84, true)⟩, .any),
      (⟨some 86, .mov, [.t 8 false], some (84, true)⟩, .any),
      (⟨some 87, .mov, [.t 8 false], some (84, true)⟩, .any),
      (⟨some 88, .mov, [.t 5 false], some (84, true)⟩, .any),
      (⟨some 89, .pure (.bin .add), [.t 87 false, .t 88 false], some (84, true)⟩, .any),
      (⟨some 90, .pure (.sliceStr true true), [.t 85 false, .t 86 false, .t 89 false], some (84, true)⟩, .any),
      (⟨some 91, .mov, [.t 1 false], some (84, true)⟩, .any),
      (⟨some 92, .pure (.bin .eql), [.t 90 false, .t 91 false], some (84, true)⟩, .any),
      (⟨some 93, .pure .pick, [.t 84 false, .t 92 false, .c (AV.bool false)], none⟩, .any)] 93])
  (.cond (.t 93 false)
   (.seq
   (.region none [4] [
     .one ⟨some 94, .mov, [.t 8 false], none⟩ .any,
     .one ⟨some 4, .mov, [.t 94 false], none⟩ .any])
   (.ret [4]))
   .skip))
  (.seq
  (.region none [0, 1, 5, 6, 7, 8, 9, 10] [
    .one ⟨some 95, .mov, [.t 8 false], none⟩ .any,
    .one ⟨some 96, .pure (.bin .add), [.t 95 false, .c (AV.int .i64 1)], none⟩ .any,
    .one ⟨some 8, .mov, [.t 96 false], none⟩ .any])
  (.seq
  (.region none [0, 1, 5, 6, 7, 8, 9, 10] [
    .one ⟨some 97, .mov, [.t 10 false], none⟩ .any,
    .one ⟨some 98, .pure (.bin .add), [.t 97 false, .c (AV.int .i64 1)], none⟩ .any,
    .one ⟨some 10, .mov, [.t 98 false], none⟩ .any])
  (.seq
  (.region none [0, 1, 5, 6, 7, 8, 9, 10, 107] [
    .one ⟨some 99, .mov, [.t 5 false], none⟩ .any,
    .one ⟨some 100, .bad, [], none⟩ .any,
    .one ⟨some 101, .pure (.bin .leq), [.t 99 false, .t 100 false], none⟩ .any,
    .one ⟨some 102, .mov, [.t 101 false], none⟩ .any,
    .sub [(⟨some 103, .mov, [.t 10 false], some (102, true)⟩, .any),
      (⟨some 104, .mov, [.t 8 false], some (102, true)⟩, .any),
      (⟨some 105, .call 106, [.t 104 false], some (102, true)⟩, .any),
      (⟨some 106, .pure (.bin .gtr), [.t 103 false, .t 105 false], some (102, true)⟩, .any),
      (⟨some 107, .pure .pick, [.t 102 false, .t 106 false, .c (AV.bool false)], none⟩, .any)] 107])
  (.cond (.t 107 false)
   (.seq
   (.region none [8, 12] [
     .one ⟨some 108, .mov, [.t 0 false], none⟩ .any,
     .one ⟨some 109, .mov, [.t 8 false], none⟩ .any,
     .one ⟨some 110, .pure (.sliceStr true false), [.t 108 false, .t 109 false], none⟩ .any,
     .one ⟨some 111, .mov, [.t 1 false], none⟩ .any,
     .one ⟨some 112, .call 105, [.t 110 false, .t 111 false], none⟩ .any,
     .one ⟨some 12, .mov, [.t 112 false], none⟩ .any])
   (.seq
   (.seq
   (.region none [8, 12, 114] [
     .one ⟨some 113, .mov, [.t 12 false], none⟩ .any,
     .one ⟨some 114, .pure (.bin .geq), [.t 113 false, .c (AV.int .i64 0)], none⟩ .any])
   (.cond (.t 114 false)
    (.seq
    (.region none [4] [
      .one ⟨some 115, .mov, [.t 12 false], none⟩ .any,
      .one ⟨some 116, .mov, [.t 8 false], none⟩ .any,
      .one ⟨some 117, .pure (.bin .add), [.t 115 false, .t 116 false], none⟩ .any,
      .one ⟨some 4, .mov, [.t 117 false], none⟩ .any])
    (.ret [4]))
    .skip))
   (.seq
   (.region none [4] [
     .one ⟨some 4, .mov, [.c (AV.int .i64 (-1))], none⟩ .any])
   (.ret [4]))))
   (.seq
   (.region none [0, 1, 5, 6, 7, 8, 9, 10, 132] [
     .one ⟨some 118, .mov, [.t 5 false], none⟩ .any,
     .one ⟨some 119, .bad, [], none⟩ .any,
     .one ⟨some 120, .pure (.bin .gtr), [.t 118 false, .t 119 false], none⟩ .any,
     .one ⟨some 121, .mov, [.t 120 false], none⟩ .any,
     .sub [(⟨some 122, .mov, [.t 10 false], some (121, true)⟩, .any),
       (⟨some 123, .mov, [.t 8 false], some (121, true)⟩, .any),
       (⟨some 124, .pure (.bin .shr), [.t 123 false, .c (AV.int .u64 4)], some (121, true)⟩, .any),
       (⟨some 125, .pure (.bin .add), [.c (AV.int .i64 4), .t 124 false], some (121, true)⟩, .any),
       (⟨some 126, .pure (.bin .geq), [.t 122 false, .t 125 false], some (121, true)⟩, .any),
       (⟨some 127, .pure .pick, [.t 121 false, .t 126 false, .c (AV.bool false)], none⟩, .any)] 127,
     .one ⟨some 128, .mov, [.t 127 false], none⟩ .any,
     .sub [(⟨some 129, .mov, [.t 8 false], some (128, true)⟩, .any),
       (⟨some 130, .mov, [.t 9 false], some (128, true)⟩, .any),
       (⟨some 131, .pure (.bin .lss), [.t 129 false, .t 130 false], some (128, true)⟩, .any),
       (⟨some 132, .pure .pick, [.t 128 false, .t 131 false, .c (AV.bool false)], none⟩, .any)] 132])
   (.cond (.t 132 false)
    (.seq
    (.region none [8, 13] [
      .one ⟨some 133, .mov, [.t 0 false], none⟩ .any,
      .one ⟨some 134, .mov, [.t 8 false], none⟩ .any,
      .one ⟨some 135, .pure (.sliceStr true false), [.t 133 false, .t 134 false], none⟩ .any,
      .one ⟨some 136, .mov, [.t 1 false], none⟩ .any,
      .one ⟨some 137, .call 107, [.t 135 false, .t 136 false], none⟩ .any,
      .one ⟨some 13, .mov, [.t 137 false], none⟩ .any])
    (.seq
    (.seq
    (.region none [8, 13, 139] [
      .one ⟨some 138, .mov, [.t 13 false], none⟩ .any,
      .one ⟨some 139, .pure (.bin .lss), [.t 138 false, .c (AV.int .i64 0)], none⟩ .any])
    (.cond (.t 139 false)
     (.seq
     (.region none [4] [
       .one ⟨some 4, .mov, [.c (AV.int .i64 (-1))], none⟩ .any])
     (.ret [4]))
     .skip))
    (.seq
    (.region none [4] [
      .one ⟨some 140, .mov, [.t 8 false], none⟩ .any,
      .one ⟨some 141, .mov, [.t 13 false], none⟩ .any,
      .one ⟨some 142, .pure (.bin .add), [.t 140 false, .t 141 false], none⟩ .any,
      .one ⟨some 4, .mov, [.t 142 false], none⟩ .any])
    (.ret [4]))))
    .skip)))))))
def l104_15 : RCode :=
 (.seq
 (.seq
 (.region none [0, 1, 5, 6, 7, 8, 9, 10, 59] [
   .one ⟨some 57, .mov, [.t 8 false], none⟩ .any,
   .one ⟨some 58, .mov, [.t 9 false], none⟩ .any,
   .one ⟨some 59, .pure (.bin .lss), [.t 57 false, .t 58 false], none⟩ .any])
 (.cond (.t 59 false)
  .skip
  (.exit 1 [])))
 (.block 2
  (.seq
  (.seq
  (.region none [0, 1, 5, 6, 7, 8, 9, 10, 64] [
    .one ⟨some 60, .mov, [.t 0 false], none⟩ .any,
    .one ⟨some 61, .mov, [.t 8 false], none⟩ .any,
    .one ⟨some 62, .pure .idxStr, [.t 60 false, .t 61 false], none⟩ .any,
    .one ⟨some 63, .mov, [.t 6 false], none⟩ .any,
    .one ⟨some 64, .pure (.bin .neq), [.t 62 false, .t 63 false], none⟩ .any])
  (.cond (.t 64 false)
   (.seq
   (.region none [0, 1, 5, 6, 7, 8, 9, 10, 11] [
     .one ⟨some 65, .mov, [.t 0 false], none⟩ .any,
     .one ⟨some 66, .mov, [.t 8 false], none⟩ .any,
     .one ⟨some 67, .pure (.bin .add), [.t 66 false, .c (AV.int .i64 1)], none⟩ .any,
     .one ⟨some 68, .mov, [.t 9 false], none⟩ .any,
     .one ⟨some 69, .pure (.sliceStr true true), [.t 65 false, .t 67 false, .t 68 false], none⟩ .any,
     .one ⟨some 70, .mov, [.t 6 false], none⟩ .any,
     .one ⟨some 71, .call 60, [.t 69 false, .t 70 false], none⟩ .any,
     .one ⟨some 11, .mov, [.t 71 false], none⟩ .any])
   (.seq
   (.seq
   (.region none [0, 1, 5, 6, 7, 8, 9, 10, 11, 73] [
     .one ⟨some 72, .mov, [.t 11 false], none⟩ .any,
     .one ⟨some 73, .pure (.bin .lss), [.t 72 false, .c (AV.int .i64 0)], none⟩ .any])
   (.cond (.t 73 false)
    (.seq
    (.region none [4] [
      .one ⟨some 4, .mov, [.c (AV.int .i64 (-1))], none⟩ .any])
    (.ret [4]))
    .skip))
   (.region none [0, 1, 5, 6, 7, 8, 9, 10] [
     .one ⟨some 74, .mov, [.t 8 false], none⟩ .any,
     .one ⟨some 75, .mov, [.t 11 false], none⟩ .any,
     .one ⟨some 76, .pure (.bin .add), [.t 75 false, .c (AV.int .i64 1)], none⟩ .any,
     .one ⟨some 77, .pure (.bin .add), [.t 74 false, .t 76 false], none⟩ .any,
     .one ⟨some 8, .mov, [.t 77 false], none⟩ .any])))
   .skip))
  (.cut 100021 [0, 1, 5, 6, 7, 8, 9, 10] [0, 1, 5, 6, 7, 8, 9, 10] k104_21))))
def r104 : RFunc := ⟨143,
 (.seq
 (.region none [0, 1] [
   .one ⟨some 4, .mov, [.c (AV.int .i64 0)], none⟩ .any])
 (.seq
 (.region none [0, 1, 5] [
   .one ⟨some 14, .mov, [.t 1 false], none⟩ .any,
   .one ⟨some 15, .pure .lenS, [.t 14 false], none⟩ .any,
   .one ⟨some 5, .mov, [.t 15 false], none⟩ .any])
 (.seq
 (.block 0
  (.seq
  (.region none [0, 1, 5, 16] [
    .one ⟨some 17, .mov, [.t 5 false], none⟩ .any,
    .one ⟨some 18, .pure (.bin .eql), [.t 17 false, .c (AV.int .i64 0)], none⟩ .any,
    .one ⟨some 19, .mov, [.t 18 false], none⟩ .any,
    .sub [(⟨some 20, .mov, [.t 1 false], some (19, false)⟩, .any),
      (⟨some 21, .mov, [.t 0 false], some (19, false)⟩, .any),
      (⟨some 22, .pure (.bin .eql), [.t 20 false, .t 21 false], some (19, false)⟩, .any),
      (⟨some 23, .pure .pick, [.t 19 false, .c (AV.bool true), .t 22 false], none⟩, .any)] 23,
    .one ⟨some 16, .mov, [.t 23 false], none⟩ .any])
  (.cond (.t 16 false)
   (.seq
   (.region none [4] [
     .one ⟨some 4, .mov, [.c (AV.int .i64 0)], none⟩ .any])
   (.ret [4]))
   (.seq
   (.region none [0, 1, 5, 24] [
     .one ⟨some 25, .mov, [.t 5 false], none⟩ .any,
     .one ⟨some 26, .pure (.bin .eql), [.t 25 false, .c (AV.int .i64 1)], none⟩ .any,
     .one ⟨some 24, .mov, [.t 26 false], none⟩ .any])
   (.cond (.t 24 false)
    (.seq
    (.region none [4] [
      .one ⟨some 27, .mov, [.t 0 false], none⟩ .any,
      .one ⟨some 28, .mov, [.t 1 false], none⟩ .any,
      .one ⟨some 29, .pure .idxStr, [.t 28 false, .c (AV.int .i64 0)], none⟩ .any,
      .one ⟨some 30, .call 60, [.t 27 false, .t 29 false], none⟩ .any,
      .one ⟨some 4, .mov, [.t 30 false], none⟩ .any])
    (.ret [4]))
    (.seq
    (.region none [0, 1, 5, 31] [
      .one ⟨some 32, .mov, [.t 5 false], none⟩ .any,
      .one ⟨some 33, .mov, [.t 0 false], none⟩ .any,
      .one ⟨some 34, .pure .lenS, [.t 33 false], none⟩ .any,
      .one ⟨some 35, .pure (.bin .geq), [.t 32 false, .t 34 false], none⟩ .any,
      .one ⟨some 31, .mov, [.t 35 false], none⟩ .any])
    (.cond (.t 31 false)
     (.seq
     (.region none [4] [
       .one ⟨some 4, .mov, [.c (AV.int .i64 (-1))], none⟩ .any])
     (.ret [4]))
     (.seq
     (.region none [0, 1, 5, 36] [
       .one ⟨some 37, .mov, [.t 5 false], none⟩ .any,
       .one ⟨some 38, .bad, [], none⟩ .any,
       .one ⟨some 39, .pure (.bin .leq), [.t 37 false, .t 38 false], none⟩ .any,
       .one ⟨some 40, .mov, [.t 39 false], none⟩ .any,
       .sub [(⟨some 41, .mov, [.t 0 false], some (40, true)⟩, .any),
         (⟨some 42, .pure .lenS, [.t 41 false], some (40, true)⟩, .any),
         (⟨some 43, .pure (.bin .leq), [.t 42 false, .c (AV.int .i64 64)], some (40, true)⟩, .any),
         (⟨some 44, .pure .pick, [.t 40 false, .t 43 false, .c (AV.bool false)], none⟩, .any)] 44,
       .one ⟨some 36, .mov, [.t 44 false], none⟩ .any])
     (.cond (.t 36 false)
      (.seq
      (.region none [4] [
        .one ⟨some 45, .mov, [.t 0 false], none⟩ .any,
        .one ⟨some 46, .mov, [.t 1 false], none⟩ .any,
        .one ⟨some 47, .call 105, [.t 45 false, .t 46 false], none⟩ .any,
        .one ⟨some 4, .mov, [.t 47 false], none⟩ .any])
      (.ret [4]))
      .skip)))))))))
 (.seq
 (.region none [0, 1, 5, 6] [
   .one ⟨some 48, .mov, [.t 1 false], none⟩ .any,
   .one ⟨some 49, .pure .idxStr, [.t 48 false, .c (AV.int .i64 0)], none⟩ .any,
   .one ⟨some 6, .mov, [.t 49 false], none⟩ .any])
 (.seq
 (.region none [0, 1, 5, 6, 7] [
   .one ⟨some 50, .mov, [.t 1 false], none⟩ .any,
   .one ⟨some 51, .pure .idxStr, [.t 50 false, .c (AV.int .i64 1)], none⟩ .any,
   .one ⟨some 7, .mov, [.t 51 false], none⟩ .any])
 (.seq
 (.region none [0, 1, 5, 6, 7, 8] [
   .one ⟨some 8, .mov, [.c (AV.int .i64 0)], none⟩ .any])
 (.seq
 (.region none [0, 1, 5, 6, 7, 8, 9] [
   .one ⟨some 52, .mov, [.t 0 false], none⟩ .any,
   .one ⟨some 53, .pure .lenS, [.t 52 false], none⟩ .any,
   .one ⟨some 54, .mov, [.t 5 false], none⟩ .any,
   .one ⟨some 55, .pure (.bin .sub), [.t 53 false, .t 54 false], none⟩ .any,
   .one ⟨some 56, .pure (.bin .add), [.t 55 false, .c (AV.int .i64 1)], none⟩ .any,
   .one ⟨some 9, .mov, [.t 56 false], none⟩ .any])
 (.seq
 (.region none [0, 1, 5, 6, 7, 8, 9, 10] [
   .one ⟨some 10, .mov, [.c (AV.int .i64 0)], none⟩ .any])
 (.seq
 (.block 1
  (.loop 15 [0, 1, 5, 6, 7, 8, 9, 10] l104_15))
 (.seq
 (.region none [4] [
   .one ⟨some 4, .mov, [.c (AV.int .i64 (-1))], none⟩ .any])
 (.ret [4]))))))))))),
 [.tmp 4 false], false⟩
def a104 : Ann := mkAnn [] [(15, [0, 1, 5, 6, 7, 8, 9, 10])] false [] [] [(0, [0, 1]), (1, [0, 1, 5]), (2, [0, 1, 5, 16]), (3, [4]), (4, [0, 1, 5, 24]), (5, [4]), (6, [0, 1, 5, 31]), (7, [4]), (8, [0, 1, 5, 36]), (9, [4]), (10, [0, 1, 5, 6]), (11, [0, 1, 5, 6, 7]), (12, [0, 1, 5, 6, 7, 8]), (13, [0, 1, 5, 6, 7, 8, 9]), (14, [0, 1, 5, 6, 7, 8, 9, 10]), (15, [0, 1, 5, 6, 7, 8, 9, 10, 59]), (16, [0, 1, 5, 6, 7, 8, 9, 10, 64]), (17, [0, 1, 5, 6, 7, 8, 9, 10, 11]), (18, [0, 1, 5, 6, 7, 8, 9, 10, 11, 73]), (19, [4]), (20, [0, 1, 5, 6, 7, 8, 9, 10]), (21, [0, 1, 5, 6, 7, 8, 9, 10, 93]), (22, [4]), (23, [0, 1, 5, 6, 7, 8, 9, 10]), (24, [0, 1, 5, 6, 7, 8, 9, 10]), (25, [0, 1, 5, 6, 7, 8, 9, 10, 107]), (26, [8, 12]), (27, [8, 12, 114]), (28, [4]), (29, [4]), (30, [0, 1, 5, 6, 7, 8, 9, 10, 132]), (31, [8, 13]), (32, [8, 13, 139]), (33, [4]), (34, [4]), (35, [4])] [] [] [(21, [0, 1, 5, 6, 7, 8, 9, 10], [0, 1, 5, 6, 7, 8, 9, 10])] [(0, [0, 1, 5]), (1, []), (2, [0, 1, 5, 6, 7, 8, 9, 10])] [4] [false] [(2, [(3, none), (4, some 23)]), (8, [(4, none), (4, some 44)]), (21, [(7, none), (9, some 93)]), (25, [(4, none), (5, some 107)]), (30, [(4, none), (6, some 127), (1, none), (4, some 132)])] [] []
set_option maxRecDepth 100000 in
theorem c104 : convFn Try.prog a104 104 = some r104 := by kernel_rfl

end Go.Proofs.Ytomaefbhcpmbiaa
