/- The functions as they are told. -/
import Derived.Test.YtomaefbhcpmbiaaYa
set_option linter.unusedVariables false
set_option maxRecDepth 100000
namespace Go.Proofs.Ytomaefbhcpmbiaa
open Go Go.Eng Go.Proofs

def fnT : List (FuncId × RFunc) := [(4, r4), (6, r6), (7, r7), (9, r9), (10, r10), (11, r11), (12, r12), (18, r18), (19, r19), (20, r20), (21, r21), (22, r22), (23, r23), (27, r27), (28, r28), (29, r29), (37, r37), (38, r38), (39, r39), (40, r40), (41, r41), (45, r45), (48, r48), (49, r49), (50, r50), (51, r51), (55, r55), (60, r60), (61, r61), (62, r62), (70, r70), (73, r73), (79, r79), (80, r80), (81, r81), (82, r82), (83, r83), (84, r84), (90, r90), (91, r91), (92, r92), (93, r93), (94, r94), (95, r95), (96, r96), (102, r102), (103, r103), (104, r104)]
def extT : List (FuncId × (List AV → Mem → Option (AV × Mem))) := [(72, eIndexByte), (46, eWriteString 85 5), (47, eString 85 5)]
def tp : Prog := ⟨fun f => fnT.lookup f, fun f => extT.lookup f⟩
theorem tp_ren : ProgRen tp where
  ext f e h := by
    have := lookup_mem h
    simp only [extT, List.mem_cons, Prod.mk.injEq, List.not_mem_nil, or_false] at this
    rcases this with ⟨rfl, rfl⟩ | ⟨rfl, rfl⟩ | ⟨rfl, rfl⟩
    · exact indexByte_ren
    · exact writeString_ren
    · exact string_ren
  fn f fn h := by
    have hall : fnT.all (fun p => p.2.body.free) = true := by kernel_rfl
    exact List.all_eq_true.1 hall _ (lookup_mem h)
def q0 := Cod.tup (CodL.cons Cod.str (CodL.one (Cod.int .i64)))
def q1 := Cod.agg (CodL.cons Cod.str (CodL.cons (Cod.int .i64) (CodL.one (Cod.int .i64))))
def q2 := Cod.agg (CodL.cons Cod.str (CodL.cons Cod.str (CodL.cons (Cod.int .i64) (CodL.cons Cod.str (CodL.one (Cod.sl false 5))))))
def q3 := Cod.agg (CodL.cons (Cod.sl false 2) (CodL.cons (Cod.int .i64) (CodL.cons Cod.str (CodL.cons (Cod.int .i64) (CodL.one (Cod.int .i64))))))
def q4 := Cod.agg (CodL.cons Cod.str (CodL.one (Cod.int .i64)))
def q5 := Cod.agg (CodL.cons Cod.str (CodL.cons (Cod.int .i64) (CodL.one Cod.str)))
def q6 := Cod.agg (CodL.cons Cod.str (CodL.cons Cod.str (CodL.cons (Cod.int .i64) (CodL.cons Cod.str (CodL.one (Cod.sl true 5))))))
def q7 := Cod.agg (CodL.cons Cod.str (CodL.cons Cod.str (CodL.cons Cod.str (CodL.one Cod.bool))))
def q8 := Cod.tup (CodL.cons q7 (CodL.one Cod.bool))
def q9 := Cod.tup (CodL.cons (Cod.sl false 4) (CodL.one Cod.bool))
def q10 := Cod.tup (CodL.cons Cod.str (CodL.cons Cod.str (CodL.one Cod.bool)))
def q11 := Cod.tup (CodL.cons Cod.str (CodL.one Cod.str))
def q12 := Cod.tup (CodL.cons (Cod.int .u32) (CodL.one (Cod.int .u32)))
def q13 := Cod.agg (CodL.fix (AV.bld 85 5) (CodL.one (Cod.sl true 1)))
noncomputable def drayagelaw15_RdepBack (a1 a2 : Bs) (a3 : Int) (a4 : Bs) (a5 : As) (a6 : Bs) : Option Bool := FnU tp 4 [AV.agg [AV.str a1, AV.str a2, AV.int .i64 a3, AV.str a4, AV.sl false 5 a5], AV.str a6] [] (.one Cod.bool)
noncomputable def drayagelaw15_awake  : Option Bool := FnU tp 6 [] [] (.one Cod.bool)
noncomputable def drayageref15_Size (a1 a2 : Bs) (a3 : Int) (a4 : Bs) (a5 : As) (a6 : Int) : Option Int := FnU tp 10 [AV.agg [AV.str a1, AV.str a2, AV.int .i64 a3, AV.str a4, AV.sl false 5 a5], AV.int .i64 a6] [] (.one (Cod.int .i64))
noncomputable def rdep_Print (a1 a2 : Bs) (a3 : Int) (a4 : Bs) (a5 : As) : Option (List UInt8 × Int) := FnU tp 11 [AV.agg [AV.str a1, AV.str a2, AV.int .i64 a3, AV.str a4, AV.sl false 5 a5]] [] (.one q0)
noncomputable def rdep_Parse (a1 : Bs) : Option ((List UInt8 × List UInt8 × Int × List UInt8 × List AV) × (List UInt8 × Int × Int)) := FnU tp 7 [AV.str a1] [] (.one (Cod.tup (CodL.cons q2 (CodL.one q1))))
noncomputable def drayageref15_Same (a1 a2 : Bs) (a3 : Int) (a4 : Bs) (a5 : As) (a6 a7 : Bs) (a8 : Int) (a9 : Bs) (a10 : As) : Option Bool := FnU tp 9 [AV.agg [AV.str a1, AV.str a2, AV.int .i64 a3, AV.str a4, AV.sl false 5 a5], AV.agg [AV.str a6, AV.str a7, AV.int .i64 a8, AV.str a9, AV.sl false 5 a10]] [] (.one Cod.bool)
noncomputable def rdep_Check (a1 a2 : Bs) (a3 : Int) (a4 : Bs) (a5 : As) : Option Int := FnU tp 12 [AV.agg [AV.str a1, AV.str a2, AV.int .i64 a3, AV.str a4, AV.sl false 5 a5]] [] (.one (Cod.int .i64))
noncomputable def rdep_Depth (a1 a2 : Bs) (a3 : Int) (a4 : Bs) (a5 : As) : Option Int := FnU tp 18 [AV.agg [AV.str a1, AV.str a2, AV.int .i64 a3, AV.str a4, AV.sl false 5 a5]] [] (.one (Cod.int .i64))
noncomputable def rdep_Name (a1 : Bs) : Option Bool := FnU tp 19 [AV.str a1] [] (.one Cod.bool)
noncomputable def rdep_text (a1 a2 : Bs) (a3 : Int) (a4 : Bs) (a5 : As) : Option (List UInt8) := FnU tp 27 [AV.agg [AV.str a1, AV.str a2, AV.int .i64 a3, AV.str a4, AV.sl false 5 a5]] [] (.one Cod.str)
noncomputable def rdep_parts (a1 : Bs) : Option (List AV) := FnU tp 20 [AV.str a1] [] (.one (Cod.sl false 2))
noncomputable def rdep_reader_dep (m1 : As) (m2 : Int) (m3 : Bs) (m4 m5 m6 a7 : Int) : Option ((List UInt8 × List UInt8 × Int × List UInt8 × List AV) × ((List AV × Int × List UInt8 × Int × Int) × Int)) := FnU tp 21 [AV.ptr 0 0, AV.int .i64 a7, AV.ptr 1 0] [[AV.sl false 2 m1, AV.int .i64 m2, AV.str m3, AV.int .i64 m4, AV.int .i64 m5], [AV.int .i64 m6]] (.cons q2 (CodL.cons q3 (CodL.one (Cod.agg (CodL.one (Cod.int .i64))))))
noncomputable def rdep_reader_look (m1 : As) (m2 : Int) (m3 : Bs) (m4 m5 : Int) : Option (List UInt8 × Int) := FnQ tp 22 [AV.ptr 0 0] [[AV.sl false 2 m1, AV.int .i64 m2, AV.str m3, AV.int .i64 m4, AV.int .i64 m5]] q4
noncomputable def rdep_reader_fail (m1 : As) (m2 : Int) (m3 : Bs) (m4 m5 a6 a7 : Int) : Option (Unit × ((List AV × Int × List UInt8 × Int × Int))) := FnU tp 23 [AV.ptr 0 0, AV.int .i64 a6, AV.int .i64 a7] [[AV.sl false 2 m1, AV.int .i64 m2, AV.str m3, AV.int .i64 m4, AV.int .i64 m5]] (.cons (Cod.fix (AV.tup [])) (CodL.one q3))
noncomputable def rdep_atoms (a1 a2 : Bs) (a3 : Int) (a4 : Bs) (a5 : As) (a6 : Int) : Option Int := FnU tp 28 [AV.agg [AV.str a1, AV.str a2, AV.int .i64 a3, AV.str a4, AV.sl false 5 a5], AV.int .i64 a6] [] (.one (Cod.int .i64))
noncomputable def rdep_check (a1 a2 : Bs) (a3 : Int) (a4 : Bs) (a5 : As) : Option Int := FnU tp 29 [AV.agg [AV.str a1, AV.str a2, AV.int .i64 a3, AV.str a4, AV.sl false 5 a5]] [] (.one (Cod.int .i64))
noncomputable def strings_IndexByte (a1 : Bs) (a2 : Int) : Option Int := FnU tp 37 [AV.str a1, AV.int .u8 a2] [] (.one (Cod.int .i64))
noncomputable def rdep_signs  : Option (List AV) := FnU tp 45 [] [] (.one (Cod.sl false 1))
noncomputable def rdep_reader_take (m1 : As) (m2 : Int) (m3 : Bs) (m4 m5 : Int) : Option ((List UInt8 × Int) × ((List AV × Int × List UInt8 × Int × Int))) := FnU tp 38 [AV.ptr 0 0] [[AV.sl false 2 m1, AV.int .i64 m2, AV.str m3, AV.int .i64 m4, AV.int .i64 m5]] (.cons q4 (CodL.one q3))
noncomputable def rdep_part_plain (a1 : Bs) (a2 : Int) : Option Bool := FnU tp 39 [AV.agg [AV.str a1, AV.int .i64 a2]] [] (.one Cod.bool)
noncomputable def rdep_reader_atom (m1 : As) (m2 : Int) (m3 : Bs) (m4 m5 m6 : Int) (a7 : Bs) (a8 : Int) : Option ((List UInt8 × Int × List UInt8) × ((List AV × Int × List UInt8 × Int × Int) × Int)) := FnU tp 40 [AV.ptr 0 0, AV.agg [AV.str a7, AV.int .i64 a8], AV.ptr 1 0] [[AV.sl false 2 m1, AV.int .i64 m2, AV.str m3, AV.int .i64 m4, AV.int .i64 m5], [AV.int .i64 m6]] (.cons q5 (CodL.cons q3 (CodL.one (Cod.agg (CodL.one (Cod.int .i64))))))
noncomputable def rdep_reader_rich (m1 : As) (m2 : Int) (m3 : Bs) (m4 m5 m6 : Int) (m7 m8 : Bs) (m9 : Int) (m10 : Bs) (m11 : As) (a12 : Int) : Option (Unit × ((List AV × Int × List UInt8 × Int × Int) × Int × (List UInt8 × List UInt8 × Int × List UInt8 × List AV))) := FnU tp 41 [AV.ptr 0 0, AV.ptr 2 0, AV.int .i64 a12, AV.ptr 1 0] [[AV.sl false 2 m1, AV.int .i64 m2, AV.str m3, AV.int .i64 m4, AV.int .i64 m5], [AV.int .i64 m6], [AV.str m7, AV.str m8, AV.int .i64 m9, AV.str m10, AV.sl true 5 m11]] (.cons (Cod.fix (AV.tup [])) (CodL.cons q3 (CodL.cons (Cod.agg (CodL.one (Cod.int .i64))) (CodL.one q6))))
noncomputable def rdep_atom (a1 : Bs) (a2 : Int) (a3 : Bs) : Option Int := FnU tp 48 [AV.agg [AV.str a1, AV.int .i64 a2, AV.str a3]] [] (.one (Cod.int .i64))
noncomputable def rdep_words  : Option (List AV) := FnU tp 50 [] [] (.one (Cod.sl false 1))
noncomputable def slices_Contains_string_string (a1 : As) (a2 : Bs) : Option Bool := FnU tp 49 [AV.sl false 1 a1, AV.str a2] [] (.one Cod.bool)
noncomputable def rdep_count (a1 : Bs) (a2 : Int) : Option Bool := FnU tp 51 [AV.str a1, AV.int .i64 a2] [] (.one Cod.bool)
noncomputable def i_stringslite_IndexByte (a1 : Bs) (a2 : Int) : Option Int := FnU tp 60 [AV.str a1, AV.int .u8 a2] [] (.one (Cod.int .i64))
noncomputable def slices_Index_string_string (a1 : As) (a2 : Bs) : Option Int := FnU tp 61 [AV.sl false 1 a1, AV.str a2] [] (.one (Cod.int .i64))
noncomputable def version_Check (a1 : Int) (a2 : Bs) : Option Int := FnU tp 62 [AV.int .i64 a1, AV.str a2] [] (.one (Cod.int .i64))
noncomputable def version_part (a1 : Int) (a2 : Bs) : Option ((List UInt8 × List UInt8 × List UInt8 × Bool) × Bool) := FnU tp 73 [AV.int .i64 a1, AV.str a2] [] (.one q8)
noncomputable def version_pieces (a1 : Bs) : Option (List AV × Bool) := FnU tp 79 [AV.str a1] [] (.one q9)
noncomputable def strings_LastIndex (a1 a2 : Bs) : Option Int := FnU tp 80 [AV.str a1, AV.str a2] [] (.one (Cod.int .i64))
noncomputable def version_epochs (a1 : Bs) : Option (List UInt8 × List UInt8 × Bool) := FnU tp 81 [AV.str a1] [] (.one q10)
noncomputable def strings_LastIndexByte (a1 : Bs) (a2 : Int) : Option Int := FnU tp 82 [AV.str a1, AV.int .u8 a2] [] (.one (Cod.int .i64))
noncomputable def version_made (a1 a2 : Bs) : Option Bool := FnU tp 83 [AV.str a1, AV.str a2] [] (.one Cod.bool)
noncomputable def version_digit (a1 : Int) : Option Bool := FnU tp 84 [AV.int .u8 a1] [] (.one Cod.bool)
noncomputable def version_number (a1 : Bs) : Option (List UInt8 × List UInt8) := FnU tp 90 [AV.str a1] [] (.one q11)
noncomputable def version_begins (a1 : Bs) (a2 : Int) : Option Bool := FnU tp 91 [AV.str a1, AV.int .u8 a2] [] (.one Cod.bool)
noncomputable def version_word (a1 : Bs) : Option (List UInt8 × List UInt8) := FnU tp 92 [AV.str a1] [] (.one q11)
noncomputable def strings_HasPrefix (a1 a2 : Bs) : Option Bool := FnU tp 55 [AV.str a1, AV.str a2] [] (.one Cod.bool)
noncomputable def i_bytealg_LastIndexByteString (a1 : Bs) (a2 : Int) : Option Int := FnU tp 93 [AV.str a1, AV.int .u8 a2] [] (.one (Cod.int .i64))
noncomputable def i_bytealg_LastIndexRabinKarp_string (a1 a2 : Bs) : Option Int := FnU tp 94 [AV.str a1, AV.str a2] [] (.one (Cod.int .i64))
noncomputable def strings_Cut (a1 a2 : Bs) : Option (List UInt8 × List UInt8 × Bool) := FnU tp 95 [AV.str a1, AV.str a2] [] (.one q10)
noncomputable def version_letter (a1 : Int) : Option Bool := FnU tp 96 [AV.int .u8 a1] [] (.one Cod.bool)
noncomputable def i_stringslite_HasPrefix (a1 a2 : Bs) : Option Bool := FnU tp 70 [AV.str a1, AV.str a2] [] (.one Cod.bool)
noncomputable def i_bytealg_hashStrRev_string (a1 : Bs) : Option (Int × Int) := FnU tp 102 [AV.str a1] [] (.one q12)
noncomputable def i_stringslite_Cut (a1 a2 : Bs) : Option (List UInt8 × List UInt8 × Bool) := FnU tp 103 [AV.str a1, AV.str a2] [] (.one q10)
noncomputable def i_stringslite_Index (a1 a2 : Bs) : Option Int := FnU tp 104 [AV.str a1, AV.str a2] [] (.one (Cod.int .i64))
noncomputable def drayagelaw15_RdepBack_k10 (a14 a15 a16 : Bs) (a17 : Int) (a18 : Bs) (a19 : As) : Option (Bool × (List UInt8 × List UInt8 × Int × List UInt8 × List AV)) :=
  CutU tp [4] k4_10 (mkEnv 101 [1] [AV.str a14]) [[AV.str a15, AV.str a16, AV.int .i64 a17, AV.str a18, AV.sl false 5 a19]] (XCod.one .ret 101 [4] (CodL.cons Cod.bool (CodL.one q2)))
noncomputable def drayagelaw15_RdepBack_k10_t : LoopT := mkT 100010 101 [1] (CodL.cons Cod.str (CodL.one q2)) (XCod.one .ret 101 [4] (CodL.cons Cod.bool (CodL.one q2))) (fun v => drayagelaw15_RdepBack_k10 v.1 v.2.1 v.2.2.1 v.2.2.2.1 v.2.2.2.2.1 v.2.2.2.2.2)
theorem drayagelaw15_RdepBack_k10_t_ok : drayagelaw15_RdepBack_k10_t.OkC tp [1] [4] k4_10 := mkT_okC (fun _ => rfl)
noncomputable def drayageref15_Size_l5 (a10 a11 a12 : Int) (a13 a14 : Bs) (a15 : Int) (a16 : Bs) (a17 : As) : Option (Int × (List UInt8 × List UInt8 × Int × List UInt8 × List AV)) :=
  LoopU tp [1, 2, 5, 6] l10_5 (mkEnv 55 [1, 2, 5, 6] [AV.int .i64 a10, AV.ptr 0 0, AV.int .i64 a11, AV.int .i64 a12]) [[AV.str a13, AV.str a14, AV.int .i64 a15, AV.str a16, AV.sl false 5 a17]] (XCod.one (.exit 0) 55 [5] (CodL.cons (Cod.int .i64) (CodL.one q2)))
noncomputable def drayageref15_Size_l5_t : LoopT := mkT 5 55 [1, 2, 5, 6] (CodL.cons (Cod.int .i64) (CodL.fix (AV.ptr 0 0) (CodL.cons (Cod.int .i64) (CodL.cons (Cod.int .i64) (CodL.one q2))))) (XCod.one (.exit 0) 55 [5] (CodL.cons (Cod.int .i64) (CodL.one q2))) (fun v => drayageref15_Size_l5 v.1 v.2.1 v.2.2.1 v.2.2.2.1 v.2.2.2.2.1 v.2.2.2.2.2.1 v.2.2.2.2.2.2.1 v.2.2.2.2.2.2.2)
theorem drayageref15_Size_l5_t_ok : drayageref15_Size_l5_t.OkL tp [1, 2, 5, 6] l10_5 := mkT_okL (fun _ => rfl)
noncomputable def rdep_Parse_k7 (a6 a7 : Bs) (a8 : Int) (a9 : Bs) (a10 : As) (a11 : Bs) (a12 a13 : Int) (a14 : As) (a15 : Int) (a16 : Bs) (a17 a18 a19 : Int) (a20 a21 : Bs) (a22 : Int) (a23 : Bs) (a24 : As) (a25 : Bs) (a26 : Int) : Option ((List UInt8 × List UInt8 × Int × List UInt8 × List AV) × (List UInt8 × Int × Int) × (List AV × Int × List UInt8 × Int × Int) × Int × (List UInt8 × List UInt8 × Int × List UInt8 × List AV) × (List UInt8 × Int)) :=
  CutU tp [2, 3] k7_7 (mkEnv 36 [2, 3, 4, 6] [AV.ptr 0 0, AV.ptr 1 0, AV.ptr 2 0, AV.ptr 4 0]) [[AV.str a6, AV.str a7, AV.int .i64 a8, AV.str a9, AV.sl false 5 a10], [AV.str a11, AV.int .i64 a12, AV.int .i64 a13], [AV.sl false 2 a14, AV.int .i64 a15, AV.str a16, AV.int .i64 a17, AV.int .i64 a18], [AV.int .i64 a19], [AV.str a20, AV.str a21, AV.int .i64 a22, AV.str a23, AV.sl false 5 a24], [AV.str a25, AV.int .i64 a26]] (XCod.one .ret 36 [2, 3] (CodL.fix (AV.ptr 0 0) (CodL.fix (AV.ptr 1 0) (CodL.cons q2 (CodL.cons q1 (CodL.cons q3 (CodL.cons (Cod.agg (CodL.one (Cod.int .i64))) (CodL.cons q2 (CodL.one q4)))))))))
noncomputable def rdep_Parse_k7_t : LoopT := mkT 100007 36 [2, 3, 4, 6] (CodL.fix (AV.ptr 0 0) (CodL.fix (AV.ptr 1 0) (CodL.fix (AV.ptr 2 0) (CodL.fix (AV.ptr 4 0) (CodL.cons q2 (CodL.cons q1 (CodL.cons q3 (CodL.cons (Cod.agg (CodL.one (Cod.int .i64))) (CodL.cons q2 (CodL.one q4)))))))))) (XCod.one .ret 36 [2, 3] (CodL.fix (AV.ptr 0 0) (CodL.fix (AV.ptr 1 0) (CodL.cons q2 (CodL.cons q1 (CodL.cons q3 (CodL.cons (Cod.agg (CodL.one (Cod.int .i64))) (CodL.cons q2 (CodL.one q4))))))))) (fun v => rdep_Parse_k7 v.1.1 v.1.2.1 v.1.2.2.1 v.1.2.2.2.1 v.1.2.2.2.2 v.2.1.1 v.2.1.2.1 v.2.1.2.2 v.2.2.1.1 v.2.2.1.2.1 v.2.2.1.2.2.1 v.2.2.1.2.2.2.1 v.2.2.1.2.2.2.2 v.2.2.2.1 v.2.2.2.2.1.1 v.2.2.2.2.1.2.1 v.2.2.2.2.1.2.2.1 v.2.2.2.2.1.2.2.2.1 v.2.2.2.2.1.2.2.2.2 v.2.2.2.2.2.1 v.2.2.2.2.2.2)
theorem rdep_Parse_k7_t_ok : rdep_Parse_k7_t.OkC tp [2, 3, 4, 6] [2, 3] k7_7 := mkT_okC (fun _ => rfl)
noncomputable def drayageref15_Same_l4 (a13 : Int) (a14 a15 : Bs) (a16 : Int) (a17 : Bs) (a18 : As) (a19 a20 : Bs) (a21 : Int) (a22 : Bs) (a23 : As) : Option (((List UInt8 × List UInt8 × Int × List UInt8 × List AV) × (List UInt8 × List UInt8 × Int × List UInt8 × List AV)) ⊕ (Bool × (List UInt8 × List UInt8 × Int × List UInt8 × List AV) × (List UInt8 × List UInt8 × Int × List UInt8 × List AV))) :=
  LoopU tp [2, 3, 5] l9_4 (mkEnv 46 [2, 3, 5] [AV.ptr 0 0, AV.ptr 1 0, AV.int .i64 a13]) [[AV.str a14, AV.str a15, AV.int .i64 a16, AV.str a17, AV.sl false 5 a18], [AV.str a19, AV.str a20, AV.int .i64 a21, AV.str a22, AV.sl false 5 a23]] (XCod.alt (.exit 0) (XCod.one (.exit 0) 46 [] (CodL.cons q2 (CodL.one q2))) (XCod.one .ret 46 [4] (CodL.cons Cod.bool (CodL.cons q2 (CodL.one q2)))))
noncomputable def drayageref15_Same_l4_t : LoopT := mkT 4 46 [2, 3, 5] (CodL.fix (AV.ptr 0 0) (CodL.fix (AV.ptr 1 0) (CodL.cons (Cod.int .i64) (CodL.cons q2 (CodL.one q2))))) (XCod.alt (.exit 0) (XCod.one (.exit 0) 46 [] (CodL.cons q2 (CodL.one q2))) (XCod.one .ret 46 [4] (CodL.cons Cod.bool (CodL.cons q2 (CodL.one q2))))) (fun v => drayageref15_Same_l4 v.1 v.2.1.1 v.2.1.2.1 v.2.1.2.2.1 v.2.1.2.2.2.1 v.2.1.2.2.2.2 v.2.2.1 v.2.2.2.1 v.2.2.2.2.1 v.2.2.2.2.2.1 v.2.2.2.2.2.2)
theorem drayageref15_Same_l4_t_ok : drayageref15_Same_l4_t.OkL tp [2, 3, 5] l9_4 := mkT_okL (fun _ => rfl)
noncomputable def rdep_Depth_l3 (a6 : Int) (a7 : As) (a8 a9 : Int) (a10 a11 : Bs) (a12 : Int) (a13 : Bs) (a14 : As) : Option (Int × (List UInt8 × List UInt8 × Int × List UInt8 × List AV)) :=
  LoopU tp [1, 3, 7, 8, 9] l18_3 (mkEnv 25 [1, 3, 7, 8, 9] [AV.ptr 0 0, AV.int .i64 a6, AV.sl false 5 a7, AV.int .i64 a8, AV.int .i64 a9]) [[AV.str a10, AV.str a11, AV.int .i64 a12, AV.str a13, AV.sl false 5 a14]] (XCod.one (.exit 0) 25 [1, 3] (CodL.fix (AV.ptr 0 0) (CodL.cons (Cod.int .i64) (CodL.one q2))))
noncomputable def rdep_Depth_l3_t : LoopT := mkT 3 25 [1, 3, 7, 8, 9] (CodL.fix (AV.ptr 0 0) (CodL.cons (Cod.int .i64) (CodL.cons (Cod.sl false 5) (CodL.cons (Cod.int .i64) (CodL.cons (Cod.int .i64) (CodL.one q2)))))) (XCod.one (.exit 0) 25 [1, 3] (CodL.fix (AV.ptr 0 0) (CodL.cons (Cod.int .i64) (CodL.one q2)))) (fun v => rdep_Depth_l3 v.1 v.2.1 v.2.2.1 v.2.2.2.1 v.2.2.2.2.1 v.2.2.2.2.2.1 v.2.2.2.2.2.2.1 v.2.2.2.2.2.2.2.1 v.2.2.2.2.2.2.2.2)
theorem rdep_Depth_l3_t_ok : rdep_Depth_l3_t.OkL tp [1, 3, 7, 8, 9] l18_3 := mkT_okL (fun _ => rfl)
noncomputable def rdep_Name_l3 (a2 : Bs) (a3 a4 : Int) : Option ((List UInt8 × Int) ⊕ Bool) :=
  LoopU tp [0, 3, 4] l19_3 (mkEnv 83 [0, 3, 4] [AV.str a2, AV.int .i64 a3, AV.int .i64 a4]) [] (XCod.alt (.exit 0) (XCod.one (.exit 0) 83 [0, 3] (CodL.cons Cod.str (CodL.one (Cod.int .i64)))) (XCod.one .ret 83 [2] (CodL.one Cod.bool)))
noncomputable def rdep_Name_l3_t : LoopT := mkT 3 83 [0, 3, 4] (CodL.cons Cod.str (CodL.cons (Cod.int .i64) (CodL.one (Cod.int .i64)))) (XCod.alt (.exit 0) (XCod.one (.exit 0) 83 [0, 3] (CodL.cons Cod.str (CodL.one (Cod.int .i64)))) (XCod.one .ret 83 [2] (CodL.one Cod.bool))) (fun v => rdep_Name_l3 v.1 v.2.1 v.2.2)
theorem rdep_Name_l3_t_ok : rdep_Name_l3_t.OkL tp [0, 3, 4] l19_3 := mkT_okL (fun _ => rfl)
noncomputable def rdep_text_l7 (a14 : As) (a15 a16 : Int) (a17 a18 : Bs) (a19 : Int) (a20 : Bs) (a21 a22 : As) : Option ((List UInt8 × List UInt8 × Int × List UInt8 × List AV) × List AV) :=
  LoopU tp [1, 3, 40, 41, 42] l27_7 (mkEnv 76 [1, 3, 40, 41, 42] [AV.ptr 0 0, AV.ptr 1 0, AV.sl false 5 a14, AV.int .i64 a15, AV.int .i64 a16]) [[AV.str a17, AV.str a18, AV.int .i64 a19, AV.str a20, AV.sl false 5 a21], [AV.bld 85 5, AV.sl true 1 a22]] (XCod.one (.exit 1) 76 [3] (CodL.fix (AV.ptr 1 0) (CodL.cons q2 (CodL.one q13))))
noncomputable def rdep_text_l7_t : LoopT := mkT 7 76 [1, 3, 40, 41, 42] (CodL.fix (AV.ptr 0 0) (CodL.fix (AV.ptr 1 0) (CodL.cons (Cod.sl false 5) (CodL.cons (Cod.int .i64) (CodL.cons (Cod.int .i64) (CodL.cons q2 (CodL.one q13))))))) (XCod.one (.exit 1) 76 [3] (CodL.fix (AV.ptr 1 0) (CodL.cons q2 (CodL.one q13)))) (fun v => rdep_text_l7 v.1 v.2.1 v.2.2.1 v.2.2.2.1.1 v.2.2.2.1.2.1 v.2.2.2.1.2.2.1 v.2.2.2.1.2.2.2.1 v.2.2.2.1.2.2.2.2 v.2.2.2.2)
theorem rdep_text_l7_t_ok : rdep_text_l7_t.OkL tp [1, 3, 40, 41, 42] l27_7 := mkT_okL (fun _ => rfl)
noncomputable def rdep_parts_k17 (a6 : Bs) (a7 : As) (a8 a9 : Int) : Option (List UInt8 × List AV × Int) :=
  CutU tp [0, 3, 4] k20_17 (mkEnv 73 [0, 3, 4, 5] [AV.str a6, AV.sl true 2 a7, AV.int .i64 a8, AV.int .i64 a9]) [] (XCod.one .normal 73 [0, 3, 4] (CodL.cons Cod.str (CodL.cons (Cod.sl true 2) (CodL.one (Cod.int .i64)))))
noncomputable def rdep_parts_k17_t : LoopT := mkT 100017 73 [0, 3, 4, 5] (CodL.cons Cod.str (CodL.cons (Cod.sl true 2) (CodL.cons (Cod.int .i64) (CodL.one (Cod.int .i64))))) (XCod.one .normal 73 [0, 3, 4] (CodL.cons Cod.str (CodL.cons (Cod.sl true 2) (CodL.one (Cod.int .i64))))) (fun v => rdep_parts_k17 v.1 v.2.1 v.2.2.1 v.2.2.2)
theorem rdep_parts_k17_t_ok : rdep_parts_k17_t.OkC tp [0, 3, 4, 5] [0, 3, 4] k20_17 := mkT_okC (fun _ => rfl)
noncomputable def rdep_parts_l6 (a12 : Bs) (a13 : As) (a14 a15 a16 : Int) : Option (List UInt8 × List AV × Int × Int) :=
  LoopU tp [0, 3, 4, 5, 6] l20_6 (mkEnv 73 [0, 3, 4, 5, 6] [AV.str a12, AV.sl true 2 a13, AV.int .i64 a14, AV.int .i64 a15, AV.int .i64 a16]) [] (XCod.one (.exit 3) 73 [0, 3, 4, 5] (CodL.cons Cod.str (CodL.cons (Cod.sl true 2) (CodL.cons (Cod.int .i64) (CodL.one (Cod.int .i64))))))
noncomputable def rdep_parts_l6_t : LoopT := mkT 6 73 [0, 3, 4, 5, 6] (CodL.cons Cod.str (CodL.cons (Cod.sl true 2) (CodL.cons (Cod.int .i64) (CodL.cons (Cod.int .i64) (CodL.one (Cod.int .i64)))))) (XCod.one (.exit 3) 73 [0, 3, 4, 5] (CodL.cons Cod.str (CodL.cons (Cod.sl true 2) (CodL.cons (Cod.int .i64) (CodL.one (Cod.int .i64)))))) (fun v => rdep_parts_l6 v.1 v.2.1 v.2.2.1 v.2.2.2.1 v.2.2.2.2)
theorem rdep_parts_l6_t_ok : rdep_parts_l6_t.OkL tp [0, 3, 4, 5, 6] l20_6 := mkT_okL (fun _ => rfl)
noncomputable def rdep_parts_l3 (a2 : Bs) (a3 : As) (a4 : Int) : Option (List UInt8 × List AV) :=
  LoopU tp [0, 3, 4] l20_3 (mkEnv 73 [0, 3, 4] [AV.str a2, AV.sl true 2 a3, AV.int .i64 a4]) [] (XCod.one (.exit 0) 73 [0, 3] (CodL.cons Cod.str (CodL.one (Cod.sl true 2))))
noncomputable def rdep_parts_l3_t : LoopT := mkT 3 73 [0, 3, 4] (CodL.cons Cod.str (CodL.cons (Cod.sl true 2) (CodL.one (Cod.int .i64)))) (XCod.one (.exit 0) 73 [0, 3] (CodL.cons Cod.str (CodL.one (Cod.sl true 2)))) (fun v => rdep_parts_l3 v.1 v.2.1 v.2.2)
theorem rdep_parts_l3_t_ok : rdep_parts_l3_t.OkL tp [0, 3, 4] l20_3 := mkT_okL (fun _ => rfl)
noncomputable def rdep_atoms_l5 (a7 a8 : Int) (a9 : As) (a10 a11 : Int) (a12 a13 : Bs) (a14 : Int) (a15 : Bs) (a16 : As) : Option (Int × (List UInt8 × List UInt8 × Int × List UInt8 × List AV)) :=
  LoopU tp [1, 5, 12, 13, 14] l28_5 (mkEnv 32 [1, 5, 12, 13, 14] [AV.int .i64 a7, AV.int .i64 a8, AV.sl false 5 a9, AV.int .i64 a10, AV.int .i64 a11]) [[AV.str a12, AV.str a13, AV.int .i64 a14, AV.str a15, AV.sl false 5 a16]] (XCod.one (.exit 0) 32 [5] (CodL.cons (Cod.int .i64) (CodL.one q2)))
noncomputable def rdep_atoms_l5_t : LoopT := mkT 5 32 [1, 5, 12, 13, 14] (CodL.cons (Cod.int .i64) (CodL.cons (Cod.int .i64) (CodL.cons (Cod.sl false 5) (CodL.cons (Cod.int .i64) (CodL.cons (Cod.int .i64) (CodL.one q2)))))) (XCod.one (.exit 0) 32 [5] (CodL.cons (Cod.int .i64) (CodL.one q2))) (fun v => rdep_atoms_l5 v.1 v.2.1 v.2.2.1 v.2.2.2.1 v.2.2.2.2.1 v.2.2.2.2.2.1 v.2.2.2.2.2.2.1 v.2.2.2.2.2.2.2.1 v.2.2.2.2.2.2.2.2.1 v.2.2.2.2.2.2.2.2.2)
theorem rdep_atoms_l5_t_ok : rdep_atoms_l5_t.OkL tp [1, 5, 12, 13, 14] l28_5 := mkT_okL (fun _ => rfl)
noncomputable def rdep_check_l12 (a11 : As) (a12 a13 : Int) (a14 a15 : Bs) (a16 : Int) (a17 : Bs) (a18 : As) : Option (((List UInt8 × List UInt8 × Int × List UInt8 × List AV)) ⊕ (Int × (List UInt8 × List UInt8 × Int × List UInt8 × List AV))) :=
  LoopU tp [43, 44, 45] l29_12 (mkEnv 55 [43, 44, 45] [AV.sl false 5 a11, AV.int .i64 a12, AV.int .i64 a13]) [[AV.str a14, AV.str a15, AV.int .i64 a16, AV.str a17, AV.sl false 5 a18]] (XCod.alt (.exit 1) (XCod.one (.exit 1) 55 [] (CodL.one q2)) (XCod.one .ret 55 [2] (CodL.cons (Cod.int .i64) (CodL.one q2))))
noncomputable def rdep_check_l12_t : LoopT := mkT 12 55 [43, 44, 45] (CodL.cons (Cod.sl false 5) (CodL.cons (Cod.int .i64) (CodL.cons (Cod.int .i64) (CodL.one q2)))) (XCod.alt (.exit 1) (XCod.one (.exit 1) 55 [] (CodL.one q2)) (XCod.one .ret 55 [2] (CodL.cons (Cod.int .i64) (CodL.one q2)))) (fun v => rdep_check_l12 v.1 v.2.1 v.2.2.1 v.2.2.2.1 v.2.2.2.2.1 v.2.2.2.2.2.1 v.2.2.2.2.2.2.1 v.2.2.2.2.2.2.2)
theorem rdep_check_l12_t_ok : rdep_check_l12_t.OkL tp [43, 44, 45] l29_12 := mkT_okL (fun _ => rfl)
noncomputable def rdep_reader_atom_k7 (a26 : As) (a27 : Int) (a28 : Bs) (a29 a30 a31 : Int) (a32 : Bs) (a33 : Int) (a34 : Bs) (a35 : Int) (a36 a37 : Bs) (a38 : Int) (a39 : Bs) : Option ((List AV × Int × List UInt8 × Int × Int) × Int × (List UInt8 × Int) × (List UInt8 × Int × List UInt8) × (List UInt8 × Int × List UInt8)) :=
  CutU tp [6] k40_7 (mkEnv 69 [0, 6, 7] [AV.ptr 0 0, AV.ptr 3 0, AV.ptr 4 0]) [[AV.sl false 2 a26, AV.int .i64 a27, AV.str a28, AV.int .i64 a29, AV.int .i64 a30], [AV.int .i64 a31], [AV.str a32, AV.int .i64 a33], [AV.str a34, AV.int .i64 a35, AV.str a36], [AV.str a37, AV.int .i64 a38, AV.str a39]] (XCod.one .ret 69 [6] (CodL.fix (AV.ptr 3 0) (CodL.cons q3 (CodL.cons (Cod.agg (CodL.one (Cod.int .i64))) (CodL.cons q4 (CodL.cons q5 (CodL.one q5)))))))
noncomputable def rdep_reader_atom_k7_t : LoopT := mkT 100007 69 [0, 6, 7] (CodL.fix (AV.ptr 0 0) (CodL.fix (AV.ptr 3 0) (CodL.fix (AV.ptr 4 0) (CodL.cons q3 (CodL.cons (Cod.agg (CodL.one (Cod.int .i64))) (CodL.cons q4 (CodL.cons q5 (CodL.one q5)))))))) (XCod.one .ret 69 [6] (CodL.fix (AV.ptr 3 0) (CodL.cons q3 (CodL.cons (Cod.agg (CodL.one (Cod.int .i64))) (CodL.cons q4 (CodL.cons q5 (CodL.one q5))))))) (fun v => rdep_reader_atom_k7 v.1.1 v.1.2.1 v.1.2.2.1 v.1.2.2.2.1 v.1.2.2.2.2 v.2.1 v.2.2.1.1 v.2.2.1.2 v.2.2.2.1.1 v.2.2.2.1.2.1 v.2.2.2.1.2.2 v.2.2.2.2.1 v.2.2.2.2.2.1 v.2.2.2.2.2.2)
theorem rdep_reader_atom_k7_t_ok : rdep_reader_atom_k7_t.OkC tp [0, 6, 7] [6] k40_7 := mkT_okC (fun _ => rfl)
noncomputable def rdep_reader_atom_k5 (a10 : As) (a11 : Int) (a12 : Bs) (a13 a14 a15 : Int) (a16 : Bs) (a17 : Int) (a18 : Bs) (a19 : Int) (a20 a21 : Bs) (a22 : Int) (a23 : Bs) : Option ((List AV × Int × List UInt8 × Int × Int) × Int × (List UInt8 × Int) × (List UInt8 × Int × List UInt8) × (List UInt8 × Int × List UInt8)) :=
  CutU tp [6] k40_5 (mkEnv 69 [0, 4, 6, 7] [AV.ptr 0 0, AV.ptr 2 0, AV.ptr 3 0, AV.ptr 4 0]) [[AV.sl false 2 a10, AV.int .i64 a11, AV.str a12, AV.int .i64 a13, AV.int .i64 a14], [AV.int .i64 a15], [AV.str a16, AV.int .i64 a17], [AV.str a18, AV.int .i64 a19, AV.str a20], [AV.str a21, AV.int .i64 a22, AV.str a23]] (XCod.one .ret 69 [6] (CodL.fix (AV.ptr 3 0) (CodL.cons q3 (CodL.cons (Cod.agg (CodL.one (Cod.int .i64))) (CodL.cons q4 (CodL.cons q5 (CodL.one q5)))))))
noncomputable def rdep_reader_atom_k5_t : LoopT := mkT 100005 69 [0, 4, 6, 7] (CodL.fix (AV.ptr 0 0) (CodL.fix (AV.ptr 2 0) (CodL.fix (AV.ptr 3 0) (CodL.fix (AV.ptr 4 0) (CodL.cons q3 (CodL.cons (Cod.agg (CodL.one (Cod.int .i64))) (CodL.cons q4 (CodL.cons q5 (CodL.one q5))))))))) (XCod.one .ret 69 [6] (CodL.fix (AV.ptr 3 0) (CodL.cons q3 (CodL.cons (Cod.agg (CodL.one (Cod.int .i64))) (CodL.cons q4 (CodL.cons q5 (CodL.one q5))))))) (fun v => rdep_reader_atom_k5 v.1.1 v.1.2.1 v.1.2.2.1 v.1.2.2.2.1 v.1.2.2.2.2 v.2.1 v.2.2.1.1 v.2.2.1.2 v.2.2.2.1.1 v.2.2.2.1.2.1 v.2.2.2.1.2.2 v.2.2.2.2.1 v.2.2.2.2.2.1 v.2.2.2.2.2.2)
theorem rdep_reader_atom_k5_t_ok : rdep_reader_atom_k5_t.OkC tp [0, 4, 6, 7] [6] k40_5 := mkT_okC (fun _ => rfl)
noncomputable def rdep_reader_rich_l0 (a13 : Int) (a14 : As) (a15 : Int) (a16 : Bs) (a17 a18 a19 : Int) (a20 a21 : Bs) (a22 : Int) (a23 : Bs) (a24 : As) : Option (((List AV × Int × List UInt8 × Int × Int) × Int × (List UInt8 × List UInt8 × Int × List UInt8 × List AV)) ⊕ ((List AV × Int × List UInt8 × Int × Int) × Int × (List UInt8 × List UInt8 × Int × List UInt8 × List AV))) :=
  LoopU tp [0, 1, 2, 3] l41_0 (mkEnv 113 [0, 1, 2, 3] [AV.ptr 0 0, AV.ptr 2 0, AV.int .i64 a13, AV.ptr 1 0]) [[AV.sl false 2 a14, AV.int .i64 a15, AV.str a16, AV.int .i64 a17, AV.int .i64 a18], [AV.int .i64 a19], [AV.str a20, AV.str a21, AV.int .i64 a22, AV.str a23, AV.sl true 5 a24]] (XCod.alt (.exit 0) (XCod.one (.exit 0) 113 [] (CodL.cons q3 (CodL.cons (Cod.agg (CodL.one (Cod.int .i64))) (CodL.one q6)))) (XCod.one .ret 113 [] (CodL.cons q3 (CodL.cons (Cod.agg (CodL.one (Cod.int .i64))) (CodL.one q6)))))
noncomputable def rdep_reader_rich_l0_t : LoopT := mkT 0 113 [0, 1, 2, 3] (CodL.fix (AV.ptr 0 0) (CodL.fix (AV.ptr 2 0) (CodL.cons (Cod.int .i64) (CodL.fix (AV.ptr 1 0) (CodL.cons q3 (CodL.cons (Cod.agg (CodL.one (Cod.int .i64))) (CodL.one q6))))))) (XCod.alt (.exit 0) (XCod.one (.exit 0) 113 [] (CodL.cons q3 (CodL.cons (Cod.agg (CodL.one (Cod.int .i64))) (CodL.one q6)))) (XCod.one .ret 113 [] (CodL.cons q3 (CodL.cons (Cod.agg (CodL.one (Cod.int .i64))) (CodL.one q6))))) (fun v => rdep_reader_rich_l0 v.1 v.2.1.1 v.2.1.2.1 v.2.1.2.2.1 v.2.1.2.2.2.1 v.2.1.2.2.2.2 v.2.2.1 v.2.2.2.1 v.2.2.2.2.1 v.2.2.2.2.2.1 v.2.2.2.2.2.2.1 v.2.2.2.2.2.2.2)
theorem rdep_reader_rich_l0_t_ok : rdep_reader_rich_l0_t.OkL tp [0, 1, 2, 3] l41_0 := mkT_okL (fun _ => rfl)
noncomputable def slices_Index_string_string_l2 (a3 : As) (a4 : Bs) (a5 a6 : Int) : Option (Unit ⊕ Int) :=
  LoopU tp [0, 1, 7, 8] l61_2 (mkEnv 19 [0, 1, 7, 8] [AV.sl false 1 a3, AV.str a4, AV.int .i64 a5, AV.int .i64 a6]) [] (XCod.alt (.exit 0) (XCod.one (.exit 0) 19 [] CodL.nil) (XCod.one .ret 19 [4] (CodL.one (Cod.int .i64))))
noncomputable def slices_Index_string_string_l2_t : LoopT := mkT 2 19 [0, 1, 7, 8] (CodL.cons (Cod.sl false 1) (CodL.cons Cod.str (CodL.cons (Cod.int .i64) (CodL.one (Cod.int .i64))))) (XCod.alt (.exit 0) (XCod.one (.exit 0) 19 [] CodL.nil) (XCod.one .ret 19 [4] (CodL.one (Cod.int .i64)))) (fun v => slices_Index_string_string_l2 v.1 v.2.1 v.2.2.1 v.2.2.2)
theorem slices_Index_string_string_l2_t_ok : slices_Index_string_string_l2_t.OkL tp [0, 1, 7, 8] l61_2 := mkT_okL (fun _ => rfl)
noncomputable def version_part_k17 (a24 : Bool) (a25 a26 a27 a28 : Bs) (a29 : Bool) : Option (Bool × (List UInt8 × List UInt8 × List UInt8 × Bool)) :=
  CutU tp [4, 5] k73_17 (mkEnv 114 [4, 5, 8] [AV.ptr 0 0, AV.bool a24, AV.str a25]) [[AV.str a26, AV.str a27, AV.str a28, AV.bool a29]] (XCod.one .ret 114 [4, 5] (CodL.fix (AV.ptr 0 0) (CodL.cons Cod.bool (CodL.one q7))))
noncomputable def version_part_k17_t : LoopT := mkT 100017 114 [4, 5, 8] (CodL.fix (AV.ptr 0 0) (CodL.cons Cod.bool (CodL.cons Cod.str (CodL.one q7)))) (XCod.one .ret 114 [4, 5] (CodL.fix (AV.ptr 0 0) (CodL.cons Cod.bool (CodL.one q7)))) (fun v => version_part_k17 v.1 v.2.1 v.2.2.1 v.2.2.2.1 v.2.2.2.2.1 v.2.2.2.2.2)
theorem version_part_k17_t_ok : version_part_k17_t.OkC tp [4, 5, 8] [4, 5] k73_17 := mkT_okC (fun _ => rfl)
noncomputable def version_part_k11 (a11 : Int) (a12 : Bool) (a13 a14 a15 : Bs) (a16 : Bool) : Option (Bool × (List UInt8 × List UInt8 × List UInt8 × Bool)) :=
  CutU tp [4, 5] k73_11 (mkEnv 114 [0, 4, 5] [AV.int .i64 a11, AV.ptr 0 0, AV.bool a12]) [[AV.str a13, AV.str a14, AV.str a15, AV.bool a16]] (XCod.one .ret 114 [4, 5] (CodL.fix (AV.ptr 0 0) (CodL.cons Cod.bool (CodL.one q7))))
noncomputable def version_part_k11_t : LoopT := mkT 100011 114 [0, 4, 5] (CodL.cons (Cod.int .i64) (CodL.fix (AV.ptr 0 0) (CodL.cons Cod.bool (CodL.one q7)))) (XCod.one .ret 114 [4, 5] (CodL.fix (AV.ptr 0 0) (CodL.cons Cod.bool (CodL.one q7)))) (fun v => version_part_k11 v.1 v.2.1 v.2.2.1 v.2.2.2.1 v.2.2.2.2.1 v.2.2.2.2.2)
theorem version_part_k11_t_ok : version_part_k11_t.OkC tp [0, 4, 5] [4, 5] k73_11 := mkT_okC (fun _ => rfl)
noncomputable def version_pieces_l2 (a2 : Bs) (a3 : As) : Option ((List UInt8 × List AV) ⊕ (List AV × Bool)) :=
  LoopU tp [0, 4] l79_2 (mkEnv 110 [0, 4] [AV.str a2, AV.sl true 4 a3]) [] (XCod.alt (.exit 0) (XCod.one (.exit 0) 110 [0, 4] (CodL.cons Cod.str (CodL.one (Cod.sl true 4)))) (XCod.one .ret 110 [2, 3] (CodL.cons (Cod.sl false 4) (CodL.one Cod.bool))))
noncomputable def version_pieces_l2_t : LoopT := mkT 2 110 [0, 4] (CodL.cons Cod.str (CodL.one (Cod.sl true 4))) (XCod.alt (.exit 0) (XCod.one (.exit 0) 110 [0, 4] (CodL.cons Cod.str (CodL.one (Cod.sl true 4)))) (XCod.one .ret 110 [2, 3] (CodL.cons (Cod.sl false 4) (CodL.one Cod.bool)))) (fun v => version_pieces_l2 v.1 v.2)
theorem version_pieces_l2_t_ok : version_pieces_l2_t.OkL tp [0, 4] l79_2 := mkT_okL (fun _ => rfl)
noncomputable def version_pieces_k20 (a24 : As) (a25 : Bs) (a26 a27 : Int) : Option (List UInt8 × List AV) :=
  CutU tp [0, 4] k79_20 (mkEnv 110 [4, 8, 9, 10] [AV.sl true 4 a24, AV.str a25, AV.int .i64 a26, AV.int .i64 a27]) [] (XCod.one .normal 110 [0, 4] (CodL.cons Cod.str (CodL.one (Cod.sl true 4))))
noncomputable def version_pieces_k20_t : LoopT := mkT 100020 110 [4, 8, 9, 10] (CodL.cons (Cod.sl true 4) (CodL.cons Cod.str (CodL.cons (Cod.int .i64) (CodL.one (Cod.int .i64))))) (XCod.one .normal 110 [0, 4] (CodL.cons Cod.str (CodL.one (Cod.sl true 4)))) (fun v => version_pieces_k20 v.1 v.2.1 v.2.2.1 v.2.2.2)
theorem version_pieces_k20_t_ok : version_pieces_k20_t.OkC tp [4, 8, 9, 10] [0, 4] k79_20 := mkT_okC (fun _ => rfl)
noncomputable def version_pieces_l12 (a18 : Bs) (a19 : As) : Option ((List UInt8 × List AV) ⊕ (List AV × Bool)) :=
  LoopU tp [0, 4] l79_12 (mkEnv 110 [0, 4] [AV.str a18, AV.sl true 4 a19]) [] (XCod.alt (.exit 2) (XCod.one (.exit 2) 110 [0, 4] (CodL.cons Cod.str (CodL.one (Cod.sl true 4)))) (XCod.one .ret 110 [2, 3] (CodL.cons (Cod.sl false 4) (CodL.one Cod.bool))))
noncomputable def version_pieces_l12_t : LoopT := mkT 12 110 [0, 4] (CodL.cons Cod.str (CodL.one (Cod.sl true 4))) (XCod.alt (.exit 2) (XCod.one (.exit 2) 110 [0, 4] (CodL.cons Cod.str (CodL.one (Cod.sl true 4)))) (XCod.one .ret 110 [2, 3] (CodL.cons (Cod.sl false 4) (CodL.one Cod.bool)))) (fun v => version_pieces_l12 v.1 v.2)
theorem version_pieces_l12_t_ok : version_pieces_l12_t.OkL tp [0, 4] l79_12 := mkT_okL (fun _ => rfl)
noncomputable def version_pieces_k12 (a16 : Bs) (a17 : As) : Option (List AV × Bool) :=
  CutU tp [2, 3] k79_12 (mkEnv 110 [0, 4] [AV.str a16, AV.sl true 4 a17]) [] (XCod.one .ret 110 [2, 3] (CodL.cons (Cod.sl false 4) (CodL.one Cod.bool)))
noncomputable def version_pieces_k12_t : LoopT := mkT 100012 110 [0, 4] (CodL.cons Cod.str (CodL.one (Cod.sl true 4))) (XCod.one .ret 110 [2, 3] (CodL.cons (Cod.sl false 4) (CodL.one Cod.bool))) (fun v => version_pieces_k12 v.1 v.2)
theorem version_pieces_k12_t_ok : version_pieces_k12_t.OkC tp [0, 4] [2, 3] k79_12 := mkT_okC (fun _ => rfl)
noncomputable def version_made_l2 (a3 a4 : Bs) (a5 : Int) : Option (List UInt8 ⊕ Bool) :=
  LoopU tp [0, 1, 5] l83_2 (mkEnv 34 [0, 1, 5] [AV.str a3, AV.str a4, AV.int .i64 a5]) [] (XCod.alt (.exit 0) (XCod.one (.exit 0) 34 [0] (CodL.one Cod.str)) (XCod.one .ret 34 [4] (CodL.one Cod.bool)))
noncomputable def version_made_l2_t : LoopT := mkT 2 34 [0, 1, 5] (CodL.cons Cod.str (CodL.cons Cod.str (CodL.one (Cod.int .i64)))) (XCod.alt (.exit 0) (XCod.one (.exit 0) 34 [0] (CodL.one Cod.str)) (XCod.one .ret 34 [4] (CodL.one Cod.bool))) (fun v => version_made_l2 v.1 v.2.1 v.2.2)
theorem version_made_l2_t_ok : version_made_l2_t.OkL tp [0, 1, 5] l83_2 := mkT_okL (fun _ => rfl)
noncomputable def version_number_l2 (a2 : Bs) (a3 : Int) : Option (List UInt8 × Int) :=
  LoopU tp [0, 4] l90_2 (mkEnv 23 [0, 4] [AV.str a2, AV.int .i64 a3]) [] (XCod.one (.exit 0) 23 [0, 4] (CodL.cons Cod.str (CodL.one (Cod.int .i64))))
noncomputable def version_number_l2_t : LoopT := mkT 2 23 [0, 4] (CodL.cons Cod.str (CodL.one (Cod.int .i64))) (XCod.one (.exit 0) 23 [0, 4] (CodL.cons Cod.str (CodL.one (Cod.int .i64)))) (fun v => version_number_l2 v.1 v.2)
theorem version_number_l2_t_ok : version_number_l2_t.OkL tp [0, 4] l90_2 := mkT_okL (fun _ => rfl)
noncomputable def version_word_l2 (a2 : Bs) (a3 : Int) : Option (List UInt8 × Int) :=
  LoopU tp [0, 4] l92_2 (mkEnv 23 [0, 4] [AV.str a2, AV.int .i64 a3]) [] (XCod.one (.exit 0) 23 [0, 4] (CodL.cons Cod.str (CodL.one (Cod.int .i64))))
noncomputable def version_word_l2_t : LoopT := mkT 2 23 [0, 4] (CodL.cons Cod.str (CodL.one (Cod.int .i64))) (XCod.one (.exit 0) 23 [0, 4] (CodL.cons Cod.str (CodL.one (Cod.int .i64)))) (fun v => version_word_l2 v.1 v.2)
theorem version_word_l2_t_ok : version_word_l2_t.OkL tp [0, 4] l92_2 := mkT_okL (fun _ => rfl)
noncomputable def i_bytealg_LastIndexByteString_l2 (a3 : Bs) (a4 a5 : Int) : Option (Unit ⊕ Int) :=
  LoopU tp [0, 1, 5] l93_2 (mkEnv 19 [0, 1, 5] [AV.str a3, AV.int .u8 a4, AV.int .i64 a5]) [] (XCod.alt (.exit 0) (XCod.one (.exit 0) 19 [] CodL.nil) (XCod.one .ret 19 [4] (CodL.one (Cod.int .i64))))
noncomputable def i_bytealg_LastIndexByteString_l2_t : LoopT := mkT 2 19 [0, 1, 5] (CodL.cons Cod.str (CodL.cons (Cod.int .u8) (CodL.one (Cod.int .i64)))) (XCod.alt (.exit 0) (XCod.one (.exit 0) 19 [] CodL.nil) (XCod.one .ret 19 [4] (CodL.one (Cod.int .i64)))) (fun v => i_bytealg_LastIndexByteString_l2 v.1 v.2.1 v.2.2)
theorem i_bytealg_LastIndexByteString_l2_t_ok : i_bytealg_LastIndexByteString_l2_t.OkL tp [0, 1, 5] l93_2 := mkT_okL (fun _ => rfl)
noncomputable def i_bytealg_LastIndexRabinKarp_string_l6 (a4 a5 : Bs) (a6 a7 a8 a9 a10 a11 : Int) : Option (List UInt8 × List UInt8 × Int × Int × Int × Int × Int) :=
  LoopU tp [0, 1, 5, 6, 7, 8, 9, 10] l94_6 (mkEnv 87 [0, 1, 5, 6, 7, 8, 9, 10] [AV.str a4, AV.str a5, AV.int .u32 a6, AV.int .u32 a7, AV.int .i64 a8, AV.int .i64 a9, AV.int .u32 a10, AV.int .i64 a11]) [] (XCod.one (.exit 0) 87 [0, 1, 5, 6, 7, 8, 9] (CodL.cons Cod.str (CodL.cons Cod.str (CodL.cons (Cod.int .u32) (CodL.cons (Cod.int .u32) (CodL.cons (Cod.int .i64) (CodL.cons (Cod.int .i64) (CodL.one (Cod.int .u32)))))))))
noncomputable def i_bytealg_LastIndexRabinKarp_string_l6_t : LoopT := mkT 6 87 [0, 1, 5, 6, 7, 8, 9, 10] (CodL.cons Cod.str (CodL.cons Cod.str (CodL.cons (Cod.int .u32) (CodL.cons (Cod.int .u32) (CodL.cons (Cod.int .i64) (CodL.cons (Cod.int .i64) (CodL.cons (Cod.int .u32) (CodL.one (Cod.int .i64))))))))) (XCod.one (.exit 0) 87 [0, 1, 5, 6, 7, 8, 9] (CodL.cons Cod.str (CodL.cons Cod.str (CodL.cons (Cod.int .u32) (CodL.cons (Cod.int .u32) (CodL.cons (Cod.int .i64) (CodL.cons (Cod.int .i64) (CodL.one (Cod.int .u32))))))))) (fun v => i_bytealg_LastIndexRabinKarp_string_l6 v.1 v.2.1 v.2.2.1 v.2.2.2.1 v.2.2.2.2.1 v.2.2.2.2.2.1 v.2.2.2.2.2.2.1 v.2.2.2.2.2.2.2)
theorem i_bytealg_LastIndexRabinKarp_string_l6_t_ok : i_bytealg_LastIndexRabinKarp_string_l6_t.OkL tp [0, 1, 5, 6, 7, 8, 9, 10] l94_6 := mkT_okL (fun _ => rfl)
noncomputable def i_bytealg_LastIndexRabinKarp_string_l12 (a16 a17 : Bs) (a18 a19 a20 a21 a22 : Int) : Option (Unit ⊕ Int) :=
  LoopU tp [0, 1, 5, 6, 7, 9, 11] l94_12 (mkEnv 87 [0, 1, 5, 6, 7, 9, 11] [AV.str a16, AV.str a17, AV.int .u32 a18, AV.int .u32 a19, AV.int .i64 a20, AV.int .u32 a21, AV.int .i64 a22]) [] (XCod.alt (.exit 2) (XCod.one (.exit 2) 87 [] CodL.nil) (XCod.one .ret 87 [4] (CodL.one (Cod.int .i64))))
noncomputable def i_bytealg_LastIndexRabinKarp_string_l12_t : LoopT := mkT 12 87 [0, 1, 5, 6, 7, 9, 11] (CodL.cons Cod.str (CodL.cons Cod.str (CodL.cons (Cod.int .u32) (CodL.cons (Cod.int .u32) (CodL.cons (Cod.int .i64) (CodL.cons (Cod.int .u32) (CodL.one (Cod.int .i64)))))))) (XCod.alt (.exit 2) (XCod.one (.exit 2) 87 [] CodL.nil) (XCod.one .ret 87 [4] (CodL.one (Cod.int .i64)))) (fun v => i_bytealg_LastIndexRabinKarp_string_l12 v.1 v.2.1 v.2.2.1 v.2.2.2.1 v.2.2.2.2.1 v.2.2.2.2.2.1 v.2.2.2.2.2.2)
theorem i_bytealg_LastIndexRabinKarp_string_l12_t_ok : i_bytealg_LastIndexRabinKarp_string_l12_t.OkL tp [0, 1, 5, 6, 7, 9, 11] l94_12 := mkT_okL (fun _ => rfl)
noncomputable def i_bytealg_hashStrRev_string_l3 (a2 : Bs) (a3 a4 : Int) : Option (List UInt8 × Int) :=
  LoopU tp [0, 4, 5] l102_3 (mkEnv 40 [0, 4, 5] [AV.str a2, AV.int .u32 a3, AV.int .i64 a4]) [] (XCod.one (.exit 0) 40 [0, 4] (CodL.cons Cod.str (CodL.one (Cod.int .u32))))
noncomputable def i_bytealg_hashStrRev_string_l3_t : LoopT := mkT 3 40 [0, 4, 5] (CodL.cons Cod.str (CodL.cons (Cod.int .u32) (CodL.one (Cod.int .i64)))) (XCod.one (.exit 0) 40 [0, 4] (CodL.cons Cod.str (CodL.one (Cod.int .u32)))) (fun v => i_bytealg_hashStrRev_string_l3 v.1 v.2.1 v.2.2)
theorem i_bytealg_hashStrRev_string_l3_t_ok : i_bytealg_hashStrRev_string_l3_t.OkL tp [0, 4, 5] l102_3 := mkT_okL (fun _ => rfl)
noncomputable def i_bytealg_hashStrRev_string_l8 (a7 a8 a9 a10 : Int) : Option (Int × Int) :=
  LoopU tp [4, 6, 7, 8] l102_8 (mkEnv 40 [4, 6, 7, 8] [AV.int .u32 a7, AV.int .u32 a8, AV.int .u32 a9, AV.int .i64 a10]) [] (XCod.one (.exit 2) 40 [4, 6] (CodL.cons (Cod.int .u32) (CodL.one (Cod.int .u32))))
noncomputable def i_bytealg_hashStrRev_string_l8_t : LoopT := mkT 8 40 [4, 6, 7, 8] (CodL.cons (Cod.int .u32) (CodL.cons (Cod.int .u32) (CodL.cons (Cod.int .u32) (CodL.one (Cod.int .i64))))) (XCod.one (.exit 2) 40 [4, 6] (CodL.cons (Cod.int .u32) (CodL.one (Cod.int .u32)))) (fun v => i_bytealg_hashStrRev_string_l8 v.1 v.2.1 v.2.2.1 v.2.2.2)
theorem i_bytealg_hashStrRev_string_l8_t_ok : i_bytealg_hashStrRev_string_l8_t.OkL tp [4, 6, 7, 8] l102_8 := mkT_okL (fun _ => rfl)
noncomputable def h4 : CallT := ⟨4, true, fun ds mem _ K => match ds with
  | [AV.agg [AV.str a0, AV.str a1, AV.int .i64 a2, AV.str a3, AV.sl false 5 a4], AV.str a5] => (drayagelaw15_RdepBack a0 a1 a2 a3 a4 a5).bind fun r => K (Cod.bool.enc r) mem
  | _ => none⟩
theorem h4_ok : h4.Ok tp := by
  intro ds mem R K r h
  simp only [h4] at h
  split at h
  · exact pureT_ok tp_ren rfl rfl rfl h
  · cases h
noncomputable def h6 : CallT := ⟨6, true, fun ds mem _ K => match ds with
  | [] => (drayagelaw15_awake).bind fun r => K (Cod.bool.enc r) mem
  | _ => none⟩
theorem h6_ok : h6.Ok tp := by
  intro ds mem R K r h
  simp only [h6] at h
  split at h
  · exact pureT_ok tp_ren rfl rfl rfl h
  · cases h
noncomputable def h7 : CallT := ⟨7, true, fun ds mem _ K => match ds with
  | [AV.str a0] => (rdep_Parse a0).bind fun r => K ((Cod.tup (CodL.cons q2 (CodL.one q1))).enc r) mem
  | _ => none⟩
theorem h7_ok : h7.Ok tp := by
  intro ds mem R K r h
  simp only [h7] at h
  split at h
  · exact pureT_ok tp_ren rfl rfl rfl h
  · cases h
noncomputable def h9 : CallT := ⟨9, true, fun ds mem _ K => match ds with
  | [AV.agg [AV.str a0, AV.str a1, AV.int .i64 a2, AV.str a3, AV.sl false 5 a4], AV.agg [AV.str a5, AV.str a6, AV.int .i64 a7, AV.str a8, AV.sl false 5 a9]] => (drayageref15_Same a0 a1 a2 a3 a4 a5 a6 a7 a8 a9).bind fun r => K (Cod.bool.enc r) mem
  | _ => none⟩
theorem h9_ok : h9.Ok tp := by
  intro ds mem R K r h
  simp only [h9] at h
  split at h
  · exact pureT_ok tp_ren rfl rfl rfl h
  · cases h
noncomputable def h10 : CallT := ⟨10, true, fun ds mem _ K => match ds with
  | [AV.agg [AV.str a0, AV.str a1, AV.int .i64 a2, AV.str a3, AV.sl false 5 a4], AV.int .i64 a5] => (drayageref15_Size a0 a1 a2 a3 a4 a5).bind fun r => K ((Cod.int .i64).enc r) mem
  | _ => none⟩
theorem h10_ok : h10.Ok tp := by
  intro ds mem R K r h
  simp only [h10] at h
  split at h
  · exact pureT_ok tp_ren rfl rfl rfl h
  · cases h
noncomputable def h11 : CallT := ⟨11, true, fun ds mem _ K => match ds with
  | [AV.agg [AV.str a0, AV.str a1, AV.int .i64 a2, AV.str a3, AV.sl false 5 a4]] => (rdep_Print a0 a1 a2 a3 a4).bind fun r => K (q0.enc r) mem
  | _ => none⟩
theorem h11_ok : h11.Ok tp := by
  intro ds mem R K r h
  simp only [h11] at h
  split at h
  · exact pureT_ok tp_ren rfl rfl rfl h
  · cases h
noncomputable def h12 : CallT := ⟨12, true, fun ds mem _ K => match ds with
  | [AV.agg [AV.str a0, AV.str a1, AV.int .i64 a2, AV.str a3, AV.sl false 5 a4]] => (rdep_Check a0 a1 a2 a3 a4).bind fun r => K ((Cod.int .i64).enc r) mem
  | _ => none⟩
theorem h12_ok : h12.Ok tp := by
  intro ds mem R K r h
  simp only [h12] at h
  split at h
  · exact pureT_ok tp_ren rfl rfl rfl h
  · cases h
noncomputable def h18 : CallT := ⟨18, true, fun ds mem _ K => match ds with
  | [AV.agg [AV.str a0, AV.str a1, AV.int .i64 a2, AV.str a3, AV.sl false 5 a4]] => (rdep_Depth a0 a1 a2 a3 a4).bind fun r => K ((Cod.int .i64).enc r) mem
  | _ => none⟩
theorem h18_ok : h18.Ok tp := by
  intro ds mem R K r h
  simp only [h18] at h
  split at h
  · exact pureT_ok tp_ren rfl rfl rfl h
  · cases h
noncomputable def h19 : CallT := ⟨19, true, fun ds mem _ K => match ds with
  | [AV.str a0] => (rdep_Name a0).bind fun r => K (Cod.bool.enc r) mem
  | _ => none⟩
theorem h19_ok : h19.Ok tp := by
  intro ds mem R K r h
  simp only [h19] at h
  split at h
  · exact pureT_ok tp_ren rfl rfl rfl h
  · cases h
noncomputable def h20 : CallT := ⟨20, true, fun ds mem _ K => match ds with
  | [AV.str a0] => (rdep_parts a0).bind fun r => K ((Cod.sl false 2).enc r) mem
  | _ => none⟩
theorem h20_ok : h20.Ok tp := by
  intro ds mem R K r h
  simp only [h20] at h
  split at h
  · exact pureT_ok tp_ren rfl rfl rfl h
  · cases h
noncomputable def h21 : CallT := ⟨21, false, fun ds mem _ K => match ds with
  | [.ptr b0 0, AV.int .i64 a0, .ptr b1 0] => if incr [b0, b1] = true then (getAll mem [b0, b1]).bind fun css => match css with
      | [[AV.sl false 2 m0, AV.int .i64 m1, AV.str m2, AV.int .i64 m3, AV.int .i64 m4], [AV.int .i64 m5]] => (rdep_reader_dep m0 m1 m2 m3 m4 m5 a0).bind fun v => K (q2.enc v.1) (setAll mem [b0, b1] (((CodL.cons q3 (CodL.one (Cod.agg (CodL.one (Cod.int .i64))))).enc v.2).map AV.cells))
      | _ => none
    else none
  | _ => none⟩
theorem h21_ok : h21.Ok tp := by
  intro ds mem R K r h
  simp only [h21] at h
  split at h
  · rename_i b0 a0 b1
    split at h
    · rename_i hi
      cases hg : getAll mem [b0, b1] with
      | none => rw [hg] at h; cases h
      | some css =>
        rw [hg] at h
        simp only [Option.bind_some] at h
        split at h
        · exact ptrT_ok tp_ren rfl rfl rfl hi hg rfl rfl (fun _ => rfl) h
        · cases h
    · cases h
  · cases h
noncomputable def h22 : CallT := ⟨22, true, fun ds mem _ K => match ds with
  | [.ptr b0 0] => if incr [b0] = true then (getAll mem [b0]).bind fun css => match css with
      | [[AV.sl false 2 m0, AV.int .i64 m1, AV.str m2, AV.int .i64 m3, AV.int .i64 m4]] => (rdep_reader_look m0 m1 m2 m3 m4).bind fun v => K (q4.enc v) mem
      | _ => none
    else none
  | _ => none⟩
theorem h22_ok : h22.Ok tp := by
  intro ds mem R K r h
  simp only [h22] at h
  split at h
  · rename_i b0
    split at h
    · rename_i hi
      cases hg : getAll mem [b0] with
      | none => rw [hg] at h; cases h
      | some css =>
        rw [hg] at h
        simp only [Option.bind_some] at h
        split at h
        · exact ptrQ_ok tp_ren rfl rfl hi hg rfl rfl h
        · cases h
    · cases h
  · cases h
noncomputable def h23 : CallT := ⟨23, false, fun ds mem _ K => match ds with
  | [.ptr b0 0, AV.int .i64 a0, AV.int .i64 a1] => if incr [b0] = true then (getAll mem [b0]).bind fun css => match css with
      | [[AV.sl false 2 m0, AV.int .i64 m1, AV.str m2, AV.int .i64 m3, AV.int .i64 m4]] => (rdep_reader_fail m0 m1 m2 m3 m4 a0 a1).bind fun v => K ((Cod.fix (AV.tup [])).enc v.1) (setAll mem [b0] (((CodL.one q3).enc v.2).map AV.cells))
      | _ => none
    else none
  | _ => none⟩
theorem h23_ok : h23.Ok tp := by
  intro ds mem R K r h
  simp only [h23] at h
  split at h
  · rename_i b0 a0 a1
    split at h
    · rename_i hi
      cases hg : getAll mem [b0] with
      | none => rw [hg] at h; cases h
      | some css =>
        rw [hg] at h
        simp only [Option.bind_some] at h
        split at h
        · exact ptrT_ok tp_ren rfl rfl rfl hi hg rfl rfl (fun _ => rfl) h
        · cases h
    · cases h
  · cases h
noncomputable def h27 : CallT := ⟨27, true, fun ds mem _ K => match ds with
  | [AV.agg [AV.str a0, AV.str a1, AV.int .i64 a2, AV.str a3, AV.sl false 5 a4]] => (rdep_text a0 a1 a2 a3 a4).bind fun r => K (Cod.str.enc r) mem
  | _ => none⟩
theorem h27_ok : h27.Ok tp := by
  intro ds mem R K r h
  simp only [h27] at h
  split at h
  · exact pureT_ok tp_ren rfl rfl rfl h
  · cases h
noncomputable def h28 : CallT := ⟨28, true, fun ds mem _ K => match ds with
  | [AV.agg [AV.str a0, AV.str a1, AV.int .i64 a2, AV.str a3, AV.sl false 5 a4], AV.int .i64 a5] => (rdep_atoms a0 a1 a2 a3 a4 a5).bind fun r => K ((Cod.int .i64).enc r) mem
  | _ => none⟩
theorem h28_ok : h28.Ok tp := by
  intro ds mem R K r h
  simp only [h28] at h
  split at h
  · exact pureT_ok tp_ren rfl rfl rfl h
  · cases h
noncomputable def h29 : CallT := ⟨29, true, fun ds mem _ K => match ds with
  | [AV.agg [AV.str a0, AV.str a1, AV.int .i64 a2, AV.str a3, AV.sl false 5 a4]] => (rdep_check a0 a1 a2 a3 a4).bind fun r => K ((Cod.int .i64).enc r) mem
  | _ => none⟩
theorem h29_ok : h29.Ok tp := by
  intro ds mem R K r h
  simp only [h29] at h
  split at h
  · exact pureT_ok tp_ren rfl rfl rfl h
  · cases h
noncomputable def h37 : CallT := ⟨37, true, fun ds mem _ K => match ds with
  | [AV.str a0, AV.int .u8 a1] => (strings_IndexByte a0 a1).bind fun r => K ((Cod.int .i64).enc r) mem
  | _ => none⟩
theorem h37_ok : h37.Ok tp := by
  intro ds mem R K r h
  simp only [h37] at h
  split at h
  · exact pureT_ok tp_ren rfl rfl rfl h
  · cases h
noncomputable def h38 : CallT := ⟨38, false, fun ds mem _ K => match ds with
  | [.ptr b0 0] => if incr [b0] = true then (getAll mem [b0]).bind fun css => match css with
      | [[AV.sl false 2 m0, AV.int .i64 m1, AV.str m2, AV.int .i64 m3, AV.int .i64 m4]] => (rdep_reader_take m0 m1 m2 m3 m4).bind fun v => K (q4.enc v.1) (setAll mem [b0] (((CodL.one q3).enc v.2).map AV.cells))
      | _ => none
    else none
  | _ => none⟩
theorem h38_ok : h38.Ok tp := by
  intro ds mem R K r h
  simp only [h38] at h
  split at h
  · rename_i b0
    split at h
    · rename_i hi
      cases hg : getAll mem [b0] with
      | none => rw [hg] at h; cases h
      | some css =>
        rw [hg] at h
        simp only [Option.bind_some] at h
        split at h
        · exact ptrT_ok tp_ren rfl rfl rfl hi hg rfl rfl (fun _ => rfl) h
        · cases h
    · cases h
  · cases h
noncomputable def h39 : CallT := ⟨39, true, fun ds mem _ K => match ds with
  | [AV.agg [AV.str a0, AV.int .i64 a1]] => (rdep_part_plain a0 a1).bind fun r => K (Cod.bool.enc r) mem
  | _ => none⟩
theorem h39_ok : h39.Ok tp := by
  intro ds mem R K r h
  simp only [h39] at h
  split at h
  · exact pureT_ok tp_ren rfl rfl rfl h
  · cases h
noncomputable def h40 : CallT := ⟨40, false, fun ds mem _ K => match ds with
  | [.ptr b0 0, AV.agg [AV.str a0, AV.int .i64 a1], .ptr b1 0] => if incr [b0, b1] = true then (getAll mem [b0, b1]).bind fun css => match css with
      | [[AV.sl false 2 m0, AV.int .i64 m1, AV.str m2, AV.int .i64 m3, AV.int .i64 m4], [AV.int .i64 m5]] => (rdep_reader_atom m0 m1 m2 m3 m4 m5 a0 a1).bind fun v => K (q5.enc v.1) (setAll mem [b0, b1] (((CodL.cons q3 (CodL.one (Cod.agg (CodL.one (Cod.int .i64))))).enc v.2).map AV.cells))
      | _ => none
    else none
  | _ => none⟩
theorem h40_ok : h40.Ok tp := by
  intro ds mem R K r h
  simp only [h40] at h
  split at h
  · rename_i b0 a0 a1 b1
    split at h
    · rename_i hi
      cases hg : getAll mem [b0, b1] with
      | none => rw [hg] at h; cases h
      | some css =>
        rw [hg] at h
        simp only [Option.bind_some] at h
        split at h
        · exact ptrT_ok tp_ren rfl rfl rfl hi hg rfl rfl (fun _ => rfl) h
        · cases h
    · cases h
  · cases h
noncomputable def h41 : CallT := ⟨41, false, fun ds mem _ K => match ds with
  | [.ptr b0 0, .ptr b1 0, AV.int .i64 a0, .ptr b2 0] => if incr [b0, b2, b1] = true then (getAll mem [b0, b2, b1]).bind fun css => match css with
      | [[AV.sl false 2 m0, AV.int .i64 m1, AV.str m2, AV.int .i64 m3, AV.int .i64 m4], [AV.int .i64 m5], [AV.str m6, AV.str m7, AV.int .i64 m8, AV.str m9, AV.sl true 5 m10]] => (rdep_reader_rich m0 m1 m2 m3 m4 m5 m6 m7 m8 m9 m10 a0).bind fun v => K ((Cod.fix (AV.tup [])).enc v.1) (setAll mem [b0, b2, b1] (((CodL.cons q3 (CodL.cons (Cod.agg (CodL.one (Cod.int .i64))) (CodL.one q6))).enc v.2).map AV.cells))
      | _ => none
    else none
  | _ => none⟩
theorem h41_ok : h41.Ok tp := by
  intro ds mem R K r h
  simp only [h41] at h
  split at h
  · rename_i b0 b1 a0 b2
    split at h
    · rename_i hi
      cases hg : getAll mem [b0, b2, b1] with
      | none => rw [hg] at h; cases h
      | some css =>
        rw [hg] at h
        simp only [Option.bind_some] at h
        split at h
        · exact ptrT_ok tp_ren rfl rfl rfl hi hg rfl rfl (fun _ => rfl) h
        · cases h
    · cases h
  · cases h
noncomputable def h45 : CallT := ⟨45, true, fun ds mem _ K => match ds with
  | [] => (rdep_signs).bind fun r => K ((Cod.sl false 1).enc r) mem
  | _ => none⟩
theorem h45_ok : h45.Ok tp := by
  intro ds mem R K r h
  simp only [h45] at h
  split at h
  · exact pureT_ok tp_ren rfl rfl rfl h
  · cases h
noncomputable def h48 : CallT := ⟨48, true, fun ds mem _ K => match ds with
  | [AV.agg [AV.str a0, AV.int .i64 a1, AV.str a2]] => (rdep_atom a0 a1 a2).bind fun r => K ((Cod.int .i64).enc r) mem
  | _ => none⟩
theorem h48_ok : h48.Ok tp := by
  intro ds mem R K r h
  simp only [h48] at h
  split at h
  · exact pureT_ok tp_ren rfl rfl rfl h
  · cases h
noncomputable def h49 : CallT := ⟨49, true, fun ds mem _ K => match ds with
  | [AV.sl false 1 a0, AV.str a1] => (slices_Contains_string_string a0 a1).bind fun r => K (Cod.bool.enc r) mem
  | _ => none⟩
theorem h49_ok : h49.Ok tp := by
  intro ds mem R K r h
  simp only [h49] at h
  split at h
  · exact pureT_ok tp_ren rfl rfl rfl h
  · cases h
noncomputable def h50 : CallT := ⟨50, true, fun ds mem _ K => match ds with
  | [] => (rdep_words).bind fun r => K ((Cod.sl false 1).enc r) mem
  | _ => none⟩
theorem h50_ok : h50.Ok tp := by
  intro ds mem R K r h
  simp only [h50] at h
  split at h
  · exact pureT_ok tp_ren rfl rfl rfl h
  · cases h
noncomputable def h51 : CallT := ⟨51, true, fun ds mem _ K => match ds with
  | [AV.str a0, AV.int .i64 a1] => (rdep_count a0 a1).bind fun r => K (Cod.bool.enc r) mem
  | _ => none⟩
theorem h51_ok : h51.Ok tp := by
  intro ds mem R K r h
  simp only [h51] at h
  split at h
  · exact pureT_ok tp_ren rfl rfl rfl h
  · cases h
noncomputable def h55 : CallT := ⟨55, true, fun ds mem _ K => match ds with
  | [AV.str a0, AV.str a1] => (strings_HasPrefix a0 a1).bind fun r => K (Cod.bool.enc r) mem
  | _ => none⟩
theorem h55_ok : h55.Ok tp := by
  intro ds mem R K r h
  simp only [h55] at h
  split at h
  · exact pureT_ok tp_ren rfl rfl rfl h
  · cases h
noncomputable def h60 : CallT := ⟨60, true, fun ds mem _ K => match ds with
  | [AV.str a0, AV.int .u8 a1] => (i_stringslite_IndexByte a0 a1).bind fun r => K ((Cod.int .i64).enc r) mem
  | _ => none⟩
theorem h60_ok : h60.Ok tp := by
  intro ds mem R K r h
  simp only [h60] at h
  split at h
  · exact pureT_ok tp_ren rfl rfl rfl h
  · cases h
noncomputable def h61 : CallT := ⟨61, true, fun ds mem _ K => match ds with
  | [AV.sl false 1 a0, AV.str a1] => (slices_Index_string_string a0 a1).bind fun r => K ((Cod.int .i64).enc r) mem
  | _ => none⟩
theorem h61_ok : h61.Ok tp := by
  intro ds mem R K r h
  simp only [h61] at h
  split at h
  · exact pureT_ok tp_ren rfl rfl rfl h
  · cases h
noncomputable def h62 : CallT := ⟨62, true, fun ds mem _ K => match ds with
  | [AV.int .i64 a0, AV.str a1] => (version_Check a0 a1).bind fun r => K ((Cod.int .i64).enc r) mem
  | _ => none⟩
theorem h62_ok : h62.Ok tp := by
  intro ds mem R K r h
  simp only [h62] at h
  split at h
  · exact pureT_ok tp_ren rfl rfl rfl h
  · cases h
noncomputable def h70 : CallT := ⟨70, true, fun ds mem _ K => match ds with
  | [AV.str a0, AV.str a1] => (i_stringslite_HasPrefix a0 a1).bind fun r => K (Cod.bool.enc r) mem
  | _ => none⟩
theorem h70_ok : h70.Ok tp := by
  intro ds mem R K r h
  simp only [h70] at h
  split at h
  · exact pureT_ok tp_ren rfl rfl rfl h
  · cases h
noncomputable def h73 : CallT := ⟨73, true, fun ds mem _ K => match ds with
  | [AV.int .i64 a0, AV.str a1] => (version_part a0 a1).bind fun r => K (q8.enc r) mem
  | _ => none⟩
theorem h73_ok : h73.Ok tp := by
  intro ds mem R K r h
  simp only [h73] at h
  split at h
  · exact pureT_ok tp_ren rfl rfl rfl h
  · cases h
noncomputable def h79 : CallT := ⟨79, true, fun ds mem _ K => match ds with
  | [AV.str a0] => (version_pieces a0).bind fun r => K (q9.enc r) mem
  | _ => none⟩
theorem h79_ok : h79.Ok tp := by
  intro ds mem R K r h
  simp only [h79] at h
  split at h
  · exact pureT_ok tp_ren rfl rfl rfl h
  · cases h
noncomputable def h80 : CallT := ⟨80, true, fun ds mem _ K => match ds with
  | [AV.str a0, AV.str a1] => (strings_LastIndex a0 a1).bind fun r => K ((Cod.int .i64).enc r) mem
  | _ => none⟩
theorem h80_ok : h80.Ok tp := by
  intro ds mem R K r h
  simp only [h80] at h
  split at h
  · exact pureT_ok tp_ren rfl rfl rfl h
  · cases h
noncomputable def h81 : CallT := ⟨81, true, fun ds mem _ K => match ds with
  | [AV.str a0] => (version_epochs a0).bind fun r => K (q10.enc r) mem
  | _ => none⟩
theorem h81_ok : h81.Ok tp := by
  intro ds mem R K r h
  simp only [h81] at h
  split at h
  · exact pureT_ok tp_ren rfl rfl rfl h
  · cases h
noncomputable def h82 : CallT := ⟨82, true, fun ds mem _ K => match ds with
  | [AV.str a0, AV.int .u8 a1] => (strings_LastIndexByte a0 a1).bind fun r => K ((Cod.int .i64).enc r) mem
  | _ => none⟩
theorem h82_ok : h82.Ok tp := by
  intro ds mem R K r h
  simp only [h82] at h
  split at h
  · exact pureT_ok tp_ren rfl rfl rfl h
  · cases h
noncomputable def h83 : CallT := ⟨83, true, fun ds mem _ K => match ds with
  | [AV.str a0, AV.str a1] => (version_made a0 a1).bind fun r => K (Cod.bool.enc r) mem
  | _ => none⟩
theorem h83_ok : h83.Ok tp := by
  intro ds mem R K r h
  simp only [h83] at h
  split at h
  · exact pureT_ok tp_ren rfl rfl rfl h
  · cases h
noncomputable def h84 : CallT := ⟨84, true, fun ds mem _ K => match ds with
  | [AV.int .u8 a0] => (version_digit a0).bind fun r => K (Cod.bool.enc r) mem
  | _ => none⟩
theorem h84_ok : h84.Ok tp := by
  intro ds mem R K r h
  simp only [h84] at h
  split at h
  · exact pureT_ok tp_ren rfl rfl rfl h
  · cases h
noncomputable def h90 : CallT := ⟨90, true, fun ds mem _ K => match ds with
  | [AV.str a0] => (version_number a0).bind fun r => K (q11.enc r) mem
  | _ => none⟩
theorem h90_ok : h90.Ok tp := by
  intro ds mem R K r h
  simp only [h90] at h
  split at h
  · exact pureT_ok tp_ren rfl rfl rfl h
  · cases h
noncomputable def h91 : CallT := ⟨91, true, fun ds mem _ K => match ds with
  | [AV.str a0, AV.int .u8 a1] => (version_begins a0 a1).bind fun r => K (Cod.bool.enc r) mem
  | _ => none⟩
theorem h91_ok : h91.Ok tp := by
  intro ds mem R K r h
  simp only [h91] at h
  split at h
  · exact pureT_ok tp_ren rfl rfl rfl h
  · cases h
noncomputable def h92 : CallT := ⟨92, true, fun ds mem _ K => match ds with
  | [AV.str a0] => (version_word a0).bind fun r => K (q11.enc r) mem
  | _ => none⟩
theorem h92_ok : h92.Ok tp := by
  intro ds mem R K r h
  simp only [h92] at h
  split at h
  · exact pureT_ok tp_ren rfl rfl rfl h
  · cases h
noncomputable def h93 : CallT := ⟨93, true, fun ds mem _ K => match ds with
  | [AV.str a0, AV.int .u8 a1] => (i_bytealg_LastIndexByteString a0 a1).bind fun r => K ((Cod.int .i64).enc r) mem
  | _ => none⟩
theorem h93_ok : h93.Ok tp := by
  intro ds mem R K r h
  simp only [h93] at h
  split at h
  · exact pureT_ok tp_ren rfl rfl rfl h
  · cases h
noncomputable def h94 : CallT := ⟨94, true, fun ds mem _ K => match ds with
  | [AV.str a0, AV.str a1] => (i_bytealg_LastIndexRabinKarp_string a0 a1).bind fun r => K ((Cod.int .i64).enc r) mem
  | _ => none⟩
theorem h94_ok : h94.Ok tp := by
  intro ds mem R K r h
  simp only [h94] at h
  split at h
  · exact pureT_ok tp_ren rfl rfl rfl h
  · cases h
noncomputable def h95 : CallT := ⟨95, true, fun ds mem _ K => match ds with
  | [AV.str a0, AV.str a1] => (strings_Cut a0 a1).bind fun r => K (q10.enc r) mem
  | _ => none⟩
theorem h95_ok : h95.Ok tp := by
  intro ds mem R K r h
  simp only [h95] at h
  split at h
  · exact pureT_ok tp_ren rfl rfl rfl h
  · cases h
noncomputable def h96 : CallT := ⟨96, true, fun ds mem _ K => match ds with
  | [AV.int .u8 a0] => (version_letter a0).bind fun r => K (Cod.bool.enc r) mem
  | _ => none⟩
theorem h96_ok : h96.Ok tp := by
  intro ds mem R K r h
  simp only [h96] at h
  split at h
  · exact pureT_ok tp_ren rfl rfl rfl h
  · cases h
noncomputable def h102 : CallT := ⟨102, true, fun ds mem _ K => match ds with
  | [AV.str a0] => (i_bytealg_hashStrRev_string a0).bind fun r => K (q12.enc r) mem
  | _ => none⟩
theorem h102_ok : h102.Ok tp := by
  intro ds mem R K r h
  simp only [h102] at h
  split at h
  · exact pureT_ok tp_ren rfl rfl rfl h
  · cases h
noncomputable def h103 : CallT := ⟨103, true, fun ds mem _ K => match ds with
  | [AV.str a0, AV.str a1] => (i_stringslite_Cut a0 a1).bind fun r => K (q10.enc r) mem
  | _ => none⟩
theorem h103_ok : h103.Ok tp := by
  intro ds mem R K r h
  simp only [h103] at h
  split at h
  · exact pureT_ok tp_ren rfl rfl rfl h
  · cases h
noncomputable def h104 : CallT := ⟨104, true, fun ds mem _ K => match ds with
  | [AV.str a0, AV.str a1] => (i_stringslite_Index a0 a1).bind fun r => K ((Cod.int .i64).enc r) mem
  | _ => none⟩
theorem h104_ok : h104.Ok tp := by
  intro ds mem R K r h
  simp only [h104] at h
  split at h
  · exact pureT_ok tp_ren rfl rfl rfl h
  · cases h
noncomputable def tbl : List CallT := [h4, h6, h7, h9, h10, h11, h12, h18, h19, h20, h21, h22, h23, h27, h28, h29, h37, h38, h39, h40, h41, h45, h48, h49, h50, h51, h55, h60, h61, h62, h70, h73, h79, h80, h81, h82, h83, h84, h90, h91, h92, h93, h94, h95, h96, h102, h103, h104, tIndexByte 72, tWriteString 46 85 5, tString 47 85 5]
theorem tbl_ok : ∀ t ∈ tbl, t.Ok tp := by
  intro t ht
  simp only [tbl, List.mem_cons, List.not_mem_nil, or_false] at ht
  rcases ht with rfl | rfl | rfl | rfl | rfl | rfl | rfl | rfl | rfl | rfl | rfl | rfl | rfl | rfl | rfl | rfl | rfl | rfl | rfl | rfl | rfl | rfl | rfl | rfl | rfl | rfl | rfl | rfl | rfl | rfl | rfl | rfl | rfl | rfl | rfl | rfl | rfl | rfl | rfl | rfl | rfl | rfl | rfl | rfl | rfl | rfl | rfl | rfl | rfl | rfl | rfl
  · exact h4_ok
  · exact h6_ok
  · exact h7_ok
  · exact h9_ok
  · exact h10_ok
  · exact h11_ok
  · exact h12_ok
  · exact h18_ok
  · exact h19_ok
  · exact h20_ok
  · exact h21_ok
  · exact h22_ok
  · exact h23_ok
  · exact h27_ok
  · exact h28_ok
  · exact h29_ok
  · exact h37_ok
  · exact h38_ok
  · exact h39_ok
  · exact h40_ok
  · exact h41_ok
  · exact h45_ok
  · exact h48_ok
  · exact h49_ok
  · exact h50_ok
  · exact h51_ok
  · exact h55_ok
  · exact h60_ok
  · exact h61_ok
  · exact h62_ok
  · exact h70_ok
  · exact h73_ok
  · exact h79_ok
  · exact h80_ok
  · exact h81_ok
  · exact h82_ok
  · exact h83_ok
  · exact h84_ok
  · exact h90_ok
  · exact h91_ok
  · exact h92_ok
  · exact h93_ok
  · exact h94_ok
  · exact h95_ok
  · exact h96_ok
  · exact h102_ok
  · exact h103_ok
  · exact h104_ok
  · exact tIndexByte_ok rfl
  · exact tWriteString_ok rfl
  · exact tString_ok rfl
end Go.Proofs.Ytomaefbhcpmbiaa
