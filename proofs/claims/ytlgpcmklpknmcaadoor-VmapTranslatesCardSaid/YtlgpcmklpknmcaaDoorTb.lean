/- The functions as they are told. -/
import Derived.Test.YtlgpcmklpknmcaaDoorTa
set_option linter.unusedVariables false
set_option maxRecDepth 100000
namespace Go.Proofs.YtlgpcmklpknmcaaDoor
open Go Go.Eng Go.Proofs

def fnT : List (FuncId × RFunc) := [(5, r5), (6, r6), (13, r13), (15, r15), (17, r17), (18, r18), (19, r19), (20, r20), (22, r22), (23, r23), (24, r24), (25, r25), (39, r39), (40, r40), (47, r47), (48, r48), (49, r49), (50, r50), (51, r51), (52, r52), (53, r53), (54, r54), (55, r55), (56, r56), (57, r57), (58, r58), (59, r59), (60, r60), (61, r61), (62, r62), (63, r63), (64, r64), (65, r65), (69, r69), (75, r75), (77, r77), (78, r78), (79, r79), (80, r80), (81, r81), (82, r82), (83, r83), (84, r84), (92, r92), (95, r95), (96, r96), (97, r97), (98, r98), (99, r99), (100, r100), (101, r101), (102, r102), (103, r103), (104, r104), (106, r106), (113, r113), (114, r114), (115, r115), (122, r122), (123, r123), (124, r124), (125, r125), (126, r126), (127, r127), (128, r128), (137, r137), (144, r144), (145, r145), (146, r146), (147, r147), (148, r148)]
def extT : List (FuncId × (List AV → Mem → Option (AV × Mem))) := [(130, eIndexByte), (91, eWriteString 117 5), (94, eString 117 5), (93, eWriteByte 117 5), (90, eTrimLeft)]
def tp : Prog := ⟨fun f => fnT.lookup f, fun f => extT.lookup f⟩
theorem tp_ren : ProgRen tp where
  ext f e h := by
    have := lookup_mem h
    simp only [extT, List.mem_cons, Prod.mk.injEq, List.not_mem_nil, or_false] at this
    rcases this with ⟨rfl, rfl⟩ | ⟨rfl, rfl⟩ | ⟨rfl, rfl⟩ | ⟨rfl, rfl⟩ | ⟨rfl, rfl⟩
    · exact indexByte_ren
    · exact writeString_ren
    · exact string_ren
    · exact writeByte_ren
    · exact trimLeft_ren
  fn f fn h := by
    have hall : fnT.all (fun p => p.2.body.free) = true := by kernel_rfl
    exact List.all_eq_true.1 hall _ (lookup_mem h)
def q0 := Cod.tup (CodL.cons Cod.str (CodL.one (Cod.int .i64)))
def q1 := Cod.agg (CodL.cons (Cod.int .i64) (CodL.cons (Cod.sl false 1) (CodL.cons Cod.str (CodL.cons Cod.str (CodL.cons (Cod.int .i64) (CodL.one (Cod.int .i64)))))))
def q2 := Cod.tup (CodL.cons q1 (CodL.one (Cod.int .i64)))
def q3 := Cod.tup (CodL.cons Cod.str (CodL.cons Cod.str (CodL.one Cod.bool)))
def q4 := Cod.tup (CodL.cons (Cod.int .i64) (CodL.one Cod.str))
def q5 := Cod.tup (CodL.cons Cod.str (CodL.one Cod.bool))
def q6 := Cod.agg (CodL.cons (Cod.int .i64) (CodL.cons Cod.str (CodL.one Cod.bool)))
def q7 := Cod.agg (CodL.cons Cod.str (CodL.cons Cod.str (CodL.cons Cod.str (CodL.one Cod.bool))))
def q8 := Cod.tup (CodL.cons q7 (CodL.one Cod.bool))
def q9 := Cod.tup (CodL.cons (Cod.int .i64) (CodL.one (Cod.int .i64)))
def q10 := Cod.agg (CodL.cons (Cod.sl false 1) (CodL.cons (Cod.int .i64) (CodL.one (Cod.int .i64))))
def q11 := Cod.tup (CodL.cons (Cod.sl false 4) (CodL.one Cod.bool))
def q12 := Cod.tup (CodL.cons (Cod.int .i64) (CodL.one Cod.bool))
def q13 := Cod.tup (CodL.cons Cod.str (CodL.one Cod.str))
def q14 := Cod.tup (CodL.cons (Cod.int .u32) (CodL.one (Cod.int .u32)))
def q15 := Cod.agg (CodL.cons (Cod.int .i64) (CodL.cons (Cod.sl true 1) (CodL.cons Cod.str (CodL.cons Cod.str (CodL.cons (Cod.int .i64) (CodL.one (Cod.int .i64)))))))
def q16 := Cod.agg (CodL.fix (AV.bld 117 5) (CodL.one (Cod.sl true 1)))
def q17 := Cod.agg (CodL.fix (AV.bld 117 5) (CodL.one (Cod.sl false 1)))
noncomputable def drayagelaw13_VmapTranslates (a1 a2 : Int) (a3 : Bs) : Option Bool := FnU tp 5 [AV.int .i64 a1, AV.int .i64 a2, AV.str a3] [] (.one Cod.bool)
noncomputable def drayagelaw13_VmapBack (a1 a2 a3 : Int) (a4 : Bs) : Option Bool := FnU tp 6 [AV.int .i64 a1, AV.int .i64 a2, AV.int .i64 a3, AV.str a4] [] (.one Cod.bool)
noncomputable def drayagelaw13_awake  : Option Bool := FnU tp 15 [] [] (.one Cod.bool)
noncomputable def vmap_Translate (a1 a2 : Int) (a3 : Bs) : Option (List UInt8 × Int) := FnU tp 24 [AV.int .i64 a1, AV.int .i64 a2, AV.str a3] [] (.one q0)
noncomputable def drayageref13_Translate (a1 a2 : Int) (a3 : Bs) : Option (List UInt8 × Int) := FnU tp 25 [AV.int .i64 a1, AV.int .i64 a2, AV.str a3] [] (.one q0)
noncomputable def vmap_known (a1 : Int) : Option Bool := FnU tp 47 [AV.int .i64 a1] [] (.one Cod.bool)
noncomputable def vmap_Parse (a1 : Int) (a2 : Bs) : Option ((Int × List AV × List UInt8 × List UInt8 × Int × Int) × Int) := FnU tp 19 [AV.int .i64 a1, AV.str a2] [] (.one q2)
noncomputable def vmap_Print (a1 a2 : Int) (a3 : As) (a4 a5 : Bs) (a6 a7 : Int) : Option (List UInt8 × Int) := FnU tp 17 [AV.int .i64 a1, AV.agg [AV.int .i64 a2, AV.sl false 1 a3, AV.str a4, AV.str a5, AV.int .i64 a6, AV.int .i64 a7]] [] (.one q0)
noncomputable def drayageref13_Parse (a1 : Int) (a2 : Bs) : Option ((Int × List AV × List UInt8 × List UInt8 × Int × Int) × Int) := FnU tp 20 [AV.int .i64 a1, AV.str a2] [] (.one q2)
noncomputable def drayageref13_Print (a1 a2 : Int) (a3 : As) (a4 a5 : Bs) (a6 a7 : Int) : Option (List UInt8 × Int) := FnU tp 18 [AV.int .i64 a1, AV.agg [AV.int .i64 a2, AV.sl false 1 a3, AV.str a4, AV.str a5, AV.int .i64 a6, AV.int .i64 a7]] [] (.one q0)
noncomputable def version_Check (a1 : Int) (a2 : Bs) : Option Int := FnU tp 13 [AV.int .i64 a1, AV.str a2] [] (.one (Cod.int .i64))
noncomputable def strings_Cut (a1 a2 : Bs) : Option (List UInt8 × List UInt8 × Bool) := FnU tp 50 [AV.str a1, AV.str a2] [] (.one q3)
noncomputable def vmap_take (a1 : Bs) : Option (Int × List UInt8) := FnU tp 51 [AV.str a1] [] (.one q4)
noncomputable def strings_HasPrefix (a1 a2 : Bs) : Option Bool := FnU tp 52 [AV.str a1, AV.str a2] [] (.one Cod.bool)
noncomputable def vmap_pres  : Option (List AV) := FnU tp 53 [] [] (.one (Cod.sl false 1))
noncomputable def strings_CutPrefix (a1 a2 : Bs) : Option (List UInt8 × Bool) := FnU tp 54 [AV.str a1, AV.str a2] [] (.one q5)
noncomputable def strings_TrimPrefix (a1 a2 : Bs) : Option (List UInt8) := FnU tp 55 [AV.str a1, AV.str a2] [] (.one Cod.str)
noncomputable def vmap_Check (a1 : Int) (a2 : As) (a3 a4 : Bs) (a5 a6 : Int) : Option Int := FnU tp 22 [AV.agg [AV.int .i64 a1, AV.sl false 1 a2, AV.str a3, AV.str a4, AV.int .i64 a5, AV.int .i64 a6]] [] (.one (Cod.int .i64))
noncomputable def vmap_text (a1 a2 : Int) (a3 : As) (a4 a5 : Bs) (a6 a7 : Int) : Option (List UInt8) := FnU tp 48 [AV.int .i64 a1, AV.agg [AV.int .i64 a2, AV.sl false 1 a3, AV.str a4, AV.str a5, AV.int .i64 a6, AV.int .i64 a7]] [] (.one Cod.str)
noncomputable def drayageref12_Check (a1 : Int) (a2 : Bs) : Option Int := FnU tp 56 [AV.int .i64 a1, AV.str a2] [] (.one (Cod.int .i64))
noncomputable def drayageref13_take (a1 : Bs) : Option (Int × List UInt8 × Bool) := FnU tp 57 [AV.str a1] [] (.one q6)
noncomputable def drayageref13_begins (a1 a2 : Bs) : Option Bool := FnU tp 58 [AV.str a1, AV.str a2] [] (.one Cod.bool)
noncomputable def drayageref13_word (a1 : Int) : Option (List UInt8) := FnU tp 59 [AV.int .i64 a1] [] (.one Cod.str)
noncomputable def drayageref13_Check (a1 : Int) (a2 : As) (a3 a4 : Bs) (a5 a6 : Int) : Option Int := FnU tp 23 [AV.agg [AV.int .i64 a1, AV.sl false 1 a2, AV.str a3, AV.str a4, AV.int .i64 a5, AV.int .i64 a6]] [] (.one (Cod.int .i64))
noncomputable def drayageref13_text (a1 a2 : Int) (a3 : As) (a4 a5 : Bs) (a6 a7 : Int) : Option (List UInt8) := FnU tp 49 [AV.int .i64 a1, AV.agg [AV.int .i64 a2, AV.sl false 1 a3, AV.str a4, AV.str a5, AV.int .i64 a6, AV.int .i64 a7]] [] (.one Cod.str)
noncomputable def version_part (a1 : Int) (a2 : Bs) : Option ((List UInt8 × List UInt8 × List UInt8 × Bool) × Bool) := FnU tp 39 [AV.int .i64 a1, AV.str a2] [] (.one q8)
noncomputable def i_stringslite_Cut (a1 a2 : Bs) : Option (List UInt8 × List UInt8 × Bool) := FnU tp 96 [AV.str a1, AV.str a2] [] (.one q3)
noncomputable def codec_Undec (a1 : Bs) : Option (Int × Int) := FnU tp 97 [AV.str a1] [] (.one q9)
noncomputable def i_stringslite_HasPrefix (a1 a2 : Bs) : Option Bool := FnU tp 98 [AV.str a1, AV.str a2] [] (.one Cod.bool)
noncomputable def i_stringslite_CutPrefix (a1 a2 : Bs) : Option (List UInt8 × Bool) := FnU tp 99 [AV.str a1, AV.str a2] [] (.one q5)
noncomputable def i_stringslite_TrimPrefix (a1 a2 : Bs) : Option (List UInt8) := FnU tp 100 [AV.str a1, AV.str a2] [] (.one Cod.str)
noncomputable def slices_Contains_string_string (a1 : As) (a2 : Bs) : Option Bool := FnU tp 60 [AV.sl false 1 a1, AV.str a2] [] (.one Cod.bool)
noncomputable def slices_ContainsFunc_int_int_f62 (a1 : As) : Option Bool := FnU tp 61 [AV.sl false 1 a1, AV.fn 62 []] [] (.one Cod.bool)
noncomputable def codec_Dec (a1 : Int) : Option (List UInt8) := FnU tp 92 [AV.int .i64 a1] [] (.one Cod.str)
noncomputable def drayageref12_Part (a1 : Int) (a2 : Bs) : Option (List UInt8 × List UInt8 × List UInt8 × Bool) := FnU tp 101 [AV.int .i64 a1, AV.str a2] [] (.one q7)
noncomputable def drayageref12_Digits (a1 : Bs) : Option Int := FnU tp 102 [AV.str a1] [] (.one (Cod.int .i64))
noncomputable def drayageref01_Undec (a1 : Bs) : Option (List AV × Int × Int) := FnU tp 103 [AV.str a1] [] (.one q10)
noncomputable def drayageref13_number (a1 : Int) : Option Bool := FnU tp 64 [AV.int .i64 a1] [] (.one Cod.bool)
noncomputable def drayageref13_Rank (a1 : Bs) : Option Int := FnU tp 65 [AV.str a1] [] (.one (Cod.int .i64))
noncomputable def drayageref01_Dec (a1 : Int) : Option (List UInt8) := FnU tp 95 [AV.int .i64 a1] [] (.one Cod.str)
noncomputable def version_pieces (a1 : Bs) : Option (List AV × Bool) := FnU tp 40 [AV.str a1] [] (.one q11)
noncomputable def strings_LastIndex (a1 a2 : Bs) : Option Int := FnU tp 77 [AV.str a1, AV.str a2] [] (.one (Cod.int .i64))
noncomputable def version_epochs (a1 : Bs) : Option (List UInt8 × List UInt8 × Bool) := FnU tp 78 [AV.str a1] [] (.one q3)
noncomputable def strings_LastIndexByte (a1 : Bs) (a2 : Int) : Option Int := FnU tp 79 [AV.str a1, AV.int .u8 a2] [] (.one (Cod.int .i64))
noncomputable def version_made (a1 a2 : Bs) : Option Bool := FnU tp 80 [AV.str a1, AV.str a2] [] (.one Cod.bool)
noncomputable def version_digit (a1 : Int) : Option Bool := FnU tp 81 [AV.int .u8 a1] [] (.one Cod.bool)
noncomputable def i_stringslite_Index (a1 a2 : Bs) : Option Int := FnU tp 122 [AV.str a1, AV.str a2] [] (.one (Cod.int .i64))
noncomputable def codec_number (a1 : Bs) (a2 : Int) : Option (Int × Bool) := FnU tp 123 [AV.str a1, AV.int .i64 a2] [] (.one q12)
noncomputable def slices_Index_string_string (a1 : As) (a2 : Bs) : Option Int := FnU tp 75 [AV.sl false 1 a1, AV.str a2] [] (.one (Cod.int .i64))
noncomputable def slices_IndexFunc_int_int_f62 (a1 : As) : Option Int := FnU tp 104 [AV.sl false 1 a1, AV.fn 62 []] [] (.one (Cod.int .i64))
noncomputable def drayageref12_pieces (a1 : Bs) : Option (List AV) := FnU tp 124 [AV.str a1] [] (.one (Cod.sl false 3))
noncomputable def drayageref12_place (a1 : Bs) (a2 : Int) : Option Int := FnU tp 125 [AV.str a1, AV.int .u8 a2] [] (.one (Cod.int .i64))
noncomputable def drayageref12_made (a1 a2 : Bs) : Option Bool := FnU tp 126 [AV.str a1, AV.str a2] [] (.one Cod.bool)
noncomputable def drayageref12_digit (a1 : Int) : Option Bool := FnU tp 127 [AV.int .u8 a1] [] (.one Cod.bool)
noncomputable def drayageref01_number (a1 : Bs) (a2 : Int) : Option (List AV × Int × Int) := FnU tp 128 [AV.str a1, AV.int .i64 a2] [] (.one q10)
noncomputable def version_number (a1 : Bs) : Option (List UInt8 × List UInt8) := FnU tp 82 [AV.str a1] [] (.one q13)
noncomputable def version_begins (a1 : Bs) (a2 : Int) : Option Bool := FnU tp 83 [AV.str a1, AV.int .u8 a2] [] (.one Cod.bool)
noncomputable def version_word (a1 : Bs) : Option (List UInt8 × List UInt8) := FnU tp 84 [AV.str a1] [] (.one q13)
noncomputable def i_bytealg_LastIndexByteString (a1 : Bs) (a2 : Int) : Option Int := FnU tp 113 [AV.str a1, AV.int .u8 a2] [] (.one (Cod.int .i64))
noncomputable def i_bytealg_LastIndexRabinKarp_string (a1 a2 : Bs) : Option Int := FnU tp 114 [AV.str a1, AV.str a2] [] (.one (Cod.int .i64))
noncomputable def version_letter (a1 : Int) : Option Bool := FnU tp 115 [AV.int .u8 a1] [] (.one Cod.bool)
noncomputable def strings_IndexByte (a1 : Bs) (a2 : Int) : Option Int := FnU tp 69 [AV.str a1, AV.int .u8 a2] [] (.one (Cod.int .i64))
noncomputable def i_stringslite_IndexByte (a1 : Bs) (a2 : Int) : Option Int := FnU tp 106 [AV.str a1, AV.int .u8 a2] [] (.one (Cod.int .i64))
noncomputable def vmap_Check_1 (a1 : Int) : Option Bool := FnU tp 62 [AV.int .i64 a1] [] (.one Cod.bool)
noncomputable def drayageref12_has (a1 : Bs) (a2 : Int) : Option Bool := FnU tp 144 [AV.str a1, AV.int .u8 a2] [] (.one Cod.bool)
noncomputable def drayageref12_letters (a1 : Bs) : Option Int := FnU tp 145 [AV.str a1] [] (.one (Cod.int .i64))
noncomputable def drayageref12_words  : Option (List AV) := FnU tp 146 [] [] (.one (Cod.sl false 1))
noncomputable def drayageref12_letter (a1 : Int) : Option Bool := FnU tp 147 [AV.int .u8 a1] [] (.one Cod.bool)
noncomputable def drayageref12_in (a1 : Int) (a2 : Bs) : Option Bool := FnU tp 148 [AV.int .u8 a1, AV.str a2] [] (.one Cod.bool)
noncomputable def i_bytealg_hashStrRev_string (a1 : Bs) : Option (Int × Int) := FnU tp 137 [AV.str a1] [] (.one q14)
noncomputable def vmap_within (a1 : Int) : Option Bool := FnU tp 63 [AV.int .i64 a1] [] (.one Cod.bool)
noncomputable def vmap_Parse_l10 (a21 : Int) (a22 a23 : Bs) (a24 : Int) (a25 : As) (a26 a27 : Bs) (a28 a29 a30 : Int) (a31 : As) (a32 a33 : Bs) (a34 a35 : Int) : Option (Int × List UInt8 × List UInt8 × (Int × List AV × List UInt8 × List UInt8 × Int × Int) × (Int × List AV × List UInt8 × List UInt8 × Int × Int)) :=
  LoopU tp [0, 1, 4, 7, 8] l19_10 (mkEnv 142 [0, 1, 4, 7, 8] [AV.int .i64 a21, AV.str a22, AV.ptr 0 0, AV.ptr 1 0, AV.str a23]) [[AV.int .i64 a24, AV.sl false 1 a25, AV.str a26, AV.str a27, AV.int .i64 a28, AV.int .i64 a29], [AV.int .i64 a30, AV.sl true 1 a31, AV.str a32, AV.str a33, AV.int .i64 a34, AV.int .i64 a35]] (XCod.one (.exit 0) 142 [0, 1, 4, 7, 8] (CodL.cons (Cod.int .i64) (CodL.cons Cod.str (CodL.fix (AV.ptr 0 0) (CodL.fix (AV.ptr 1 0) (CodL.cons Cod.str (CodL.cons q1 (CodL.one q15))))))))
noncomputable def vmap_Parse_l10_t : LoopT := mkT 10 142 [0, 1, 4, 7, 8] (CodL.cons (Cod.int .i64) (CodL.cons Cod.str (CodL.fix (AV.ptr 0 0) (CodL.fix (AV.ptr 1 0) (CodL.cons Cod.str (CodL.cons q1 (CodL.one q15))))))) (XCod.one (.exit 0) 142 [0, 1, 4, 7, 8] (CodL.cons (Cod.int .i64) (CodL.cons Cod.str (CodL.fix (AV.ptr 0 0) (CodL.fix (AV.ptr 1 0) (CodL.cons Cod.str (CodL.cons q1 (CodL.one q15)))))))) (fun v => vmap_Parse_l10 v.1 v.2.1 v.2.2.1 v.2.2.2.1.1 v.2.2.2.1.2.1 v.2.2.2.1.2.2.1 v.2.2.2.1.2.2.2.1 v.2.2.2.1.2.2.2.2.1 v.2.2.2.1.2.2.2.2.2 v.2.2.2.2.1 v.2.2.2.2.2.1 v.2.2.2.2.2.2.1 v.2.2.2.2.2.2.2.1 v.2.2.2.2.2.2.2.2.1 v.2.2.2.2.2.2.2.2.2)
theorem vmap_Parse_l10_t_ok : vmap_Parse_l10_t.OkL tp [0, 1, 4, 7, 8] l19_10 := mkT_okL (fun _ => rfl)
noncomputable def vmap_Parse_l21 (a83 : Int) (a84 a85 a86 : Bs) (a87 : As) (a88 a89 : Int) (a90 : As) (a91 a92 a93 : Int) (a94 : As) (a95 a96 : Bs) (a97 a98 a99 : Int) (a100 : As) (a101 a102 : Bs) (a103 a104 : Int) : Option (Int × List UInt8 × List UInt8 × List AV × Int × Int × (Int × List AV × List UInt8 × List UInt8 × Int × Int) × (Int × List AV × List UInt8 × List UInt8 × Int × Int)) :=
  LoopU tp [0, 1, 4, 7, 8, 15, 82, 83, 84, 88, 89, 90] l19_21 (mkEnv 142 [0, 1, 4, 7, 8, 15, 82, 83, 84, 88, 89, 90] [AV.int .i64 a83, AV.str a84, AV.ptr 0 0, AV.ptr 1 0, AV.str a85, AV.str a86, AV.sl false 1 a87, AV.int .i64 a88, AV.int .i64 a89, AV.sl true 1 a90, AV.int .i64 a91, AV.int .i64 a92]) [[AV.int .i64 a93, AV.sl false 1 a94, AV.str a95, AV.str a96, AV.int .i64 a97, AV.int .i64 a98], [AV.int .i64 a99, AV.sl true 1 a100, AV.str a101, AV.str a102, AV.int .i64 a103, AV.int .i64 a104]] (XCod.one (.exit 4) 142 [0, 1, 4, 7, 8, 82, 83, 84] (CodL.cons (Cod.int .i64) (CodL.cons Cod.str (CodL.fix (AV.ptr 0 0) (CodL.fix (AV.ptr 1 0) (CodL.cons Cod.str (CodL.cons (Cod.sl false 1) (CodL.cons (Cod.int .i64) (CodL.cons (Cod.int .i64) (CodL.cons q1 (CodL.one q15)))))))))))
noncomputable def vmap_Parse_l21_t : LoopT := mkT 21 142 [0, 1, 4, 7, 8, 15, 82, 83, 84, 88, 89, 90] (CodL.cons (Cod.int .i64) (CodL.cons Cod.str (CodL.fix (AV.ptr 0 0) (CodL.fix (AV.ptr 1 0) (CodL.cons Cod.str (CodL.cons Cod.str (CodL.cons (Cod.sl false 1) (CodL.cons (Cod.int .i64) (CodL.cons (Cod.int .i64) (CodL.cons (Cod.sl true 1) (CodL.cons (Cod.int .i64) (CodL.cons (Cod.int .i64) (CodL.cons q1 (CodL.one q15)))))))))))))) (XCod.one (.exit 4) 142 [0, 1, 4, 7, 8, 82, 83, 84] (CodL.cons (Cod.int .i64) (CodL.cons Cod.str (CodL.fix (AV.ptr 0 0) (CodL.fix (AV.ptr 1 0) (CodL.cons Cod.str (CodL.cons (Cod.sl false 1) (CodL.cons (Cod.int .i64) (CodL.cons (Cod.int .i64) (CodL.cons q1 (CodL.one q15))))))))))) (fun v => vmap_Parse_l21 v.1 v.2.1 v.2.2.1 v.2.2.2.1 v.2.2.2.2.1 v.2.2.2.2.2.1 v.2.2.2.2.2.2.1 v.2.2.2.2.2.2.2.1 v.2.2.2.2.2.2.2.2.1 v.2.2.2.2.2.2.2.2.2.1 v.2.2.2.2.2.2.2.2.2.2.1.1 v.2.2.2.2.2.2.2.2.2.2.1.2.1 v.2.2.2.2.2.2.2.2.2.2.1.2.2.1 v.2.2.2.2.2.2.2.2.2.2.1.2.2.2.1 v.2.2.2.2.2.2.2.2.2.2.1.2.2.2.2.1 v.2.2.2.2.2.2.2.2.2.2.1.2.2.2.2.2 v.2.2.2.2.2.2.2.2.2.2.2.1 v.2.2.2.2.2.2.2.2.2.2.2.2.1 v.2.2.2.2.2.2.2.2.2.2.2.2.2.1 v.2.2.2.2.2.2.2.2.2.2.2.2.2.2.1 v.2.2.2.2.2.2.2.2.2.2.2.2.2.2.2.1 v.2.2.2.2.2.2.2.2.2.2.2.2.2.2.2.2)
theorem vmap_Parse_l21_t_ok : vmap_Parse_l21_t.OkL tp [0, 1, 4, 7, 8, 15, 82, 83, 84, 88, 89, 90] l19_21 := mkT_okL (fun _ => rfl)
noncomputable def vmap_Parse_l18 (a63 : Int) (a64 a65 : Bs) (a66 : As) (a67 a68 a69 : Int) (a70 : As) (a71 a72 : Bs) (a73 a74 a75 : Int) (a76 : As) (a77 a78 : Bs) (a79 a80 : Int) : Option (Int × List UInt8 × List UInt8 × (Int × List AV × List UInt8 × List UInt8 × Int × Int) × (Int × List AV × List UInt8 × List UInt8 × Int × Int)) :=
  LoopU tp [0, 1, 4, 7, 8, 82, 83, 84] l19_18 (mkEnv 142 [0, 1, 4, 7, 8, 82, 83, 84] [AV.int .i64 a63, AV.str a64, AV.ptr 0 0, AV.ptr 1 0, AV.str a65, AV.sl false 1 a66, AV.int .i64 a67, AV.int .i64 a68]) [[AV.int .i64 a69, AV.sl false 1 a70, AV.str a71, AV.str a72, AV.int .i64 a73, AV.int .i64 a74], [AV.int .i64 a75, AV.sl true 1 a76, AV.str a77, AV.str a78, AV.int .i64 a79, AV.int .i64 a80]] (XCod.one (.exit 2) 142 [0, 1, 4, 7, 8] (CodL.cons (Cod.int .i64) (CodL.cons Cod.str (CodL.fix (AV.ptr 0 0) (CodL.fix (AV.ptr 1 0) (CodL.cons Cod.str (CodL.cons q1 (CodL.one q15))))))))
noncomputable def vmap_Parse_l18_t : LoopT := mkT 18 142 [0, 1, 4, 7, 8, 82, 83, 84] (CodL.cons (Cod.int .i64) (CodL.cons Cod.str (CodL.fix (AV.ptr 0 0) (CodL.fix (AV.ptr 1 0) (CodL.cons Cod.str (CodL.cons (Cod.sl false 1) (CodL.cons (Cod.int .i64) (CodL.cons (Cod.int .i64) (CodL.cons q1 (CodL.one q15)))))))))) (XCod.one (.exit 2) 142 [0, 1, 4, 7, 8] (CodL.cons (Cod.int .i64) (CodL.cons Cod.str (CodL.fix (AV.ptr 0 0) (CodL.fix (AV.ptr 1 0) (CodL.cons Cod.str (CodL.cons q1 (CodL.one q15)))))))) (fun v => vmap_Parse_l18 v.1 v.2.1 v.2.2.1 v.2.2.2.1 v.2.2.2.2.1 v.2.2.2.2.2.1 v.2.2.2.2.2.2.1.1 v.2.2.2.2.2.2.1.2.1 v.2.2.2.2.2.2.1.2.2.1 v.2.2.2.2.2.2.1.2.2.2.1 v.2.2.2.2.2.2.1.2.2.2.2.1 v.2.2.2.2.2.2.1.2.2.2.2.2 v.2.2.2.2.2.2.2.1 v.2.2.2.2.2.2.2.2.1 v.2.2.2.2.2.2.2.2.2.1 v.2.2.2.2.2.2.2.2.2.2.1 v.2.2.2.2.2.2.2.2.2.2.2.1 v.2.2.2.2.2.2.2.2.2.2.2.2)
theorem vmap_Parse_l18_t_ok : vmap_Parse_l18_t.OkL tp [0, 1, 4, 7, 8, 82, 83, 84] l19_18 := mkT_okL (fun _ => rfl)
noncomputable def vmap_Parse_k17 (a47 : Int) (a48 a49 : Bs) (a50 : Int) (a51 : As) (a52 a53 : Bs) (a54 a55 a56 : Int) (a57 : As) (a58 a59 : Bs) (a60 a61 : Int) : Option (Int × (Int × List AV × List UInt8 × List UInt8 × Int × Int) × (Int × List AV × List UInt8 × List UInt8 × Int × Int)) :=
  CutU tp [4, 5] k19_17 (mkEnv 142 [0, 1, 4, 7, 8] [AV.int .i64 a47, AV.str a48, AV.ptr 0 0, AV.ptr 1 0, AV.str a49]) [[AV.int .i64 a50, AV.sl false 1 a51, AV.str a52, AV.str a53, AV.int .i64 a54, AV.int .i64 a55], [AV.int .i64 a56, AV.sl true 1 a57, AV.str a58, AV.str a59, AV.int .i64 a60, AV.int .i64 a61]] (XCod.one .ret 142 [4, 5] (CodL.fix (AV.ptr 0 0) (CodL.cons (Cod.int .i64) (CodL.cons q1 (CodL.one q15)))))
noncomputable def vmap_Parse_k17_t : LoopT := mkT 100017 142 [0, 1, 4, 7, 8] (CodL.cons (Cod.int .i64) (CodL.cons Cod.str (CodL.fix (AV.ptr 0 0) (CodL.fix (AV.ptr 1 0) (CodL.cons Cod.str (CodL.cons q1 (CodL.one q15))))))) (XCod.one .ret 142 [4, 5] (CodL.fix (AV.ptr 0 0) (CodL.cons (Cod.int .i64) (CodL.cons q1 (CodL.one q15))))) (fun v => vmap_Parse_k17 v.1 v.2.1 v.2.2.1 v.2.2.2.1.1 v.2.2.2.1.2.1 v.2.2.2.1.2.2.1 v.2.2.2.1.2.2.2.1 v.2.2.2.1.2.2.2.2.1 v.2.2.2.1.2.2.2.2.2 v.2.2.2.2.1 v.2.2.2.2.2.1 v.2.2.2.2.2.2.1 v.2.2.2.2.2.2.2.1 v.2.2.2.2.2.2.2.2.1 v.2.2.2.2.2.2.2.2.2)
theorem vmap_Parse_k17_t_ok : vmap_Parse_k17_t.OkC tp [0, 1, 4, 7, 8] [4, 5] k19_17 := mkT_okC (fun _ => rfl)
noncomputable def vmap_Parse_k10 (a6 : Int) (a7 a8 : Bs) (a9 : Int) (a10 : As) (a11 a12 : Bs) (a13 a14 a15 : Int) (a16 : As) (a17 a18 : Bs) (a19 a20 : Int) : Option (Int × (Int × List AV × List UInt8 × List UInt8 × Int × Int) × (Int × List AV × List UInt8 × List UInt8 × Int × Int)) :=
  CutU tp [4, 5] k19_10 (mkEnv 142 [0, 1, 4, 7, 8] [AV.int .i64 a6, AV.str a7, AV.ptr 0 0, AV.ptr 1 0, AV.str a8]) [[AV.int .i64 a9, AV.sl false 1 a10, AV.str a11, AV.str a12, AV.int .i64 a13, AV.int .i64 a14], [AV.int .i64 a15, AV.sl true 1 a16, AV.str a17, AV.str a18, AV.int .i64 a19, AV.int .i64 a20]] (XCod.one .ret 142 [4, 5] (CodL.fix (AV.ptr 0 0) (CodL.cons (Cod.int .i64) (CodL.cons q1 (CodL.one q15)))))
noncomputable def vmap_Parse_k10_t : LoopT := mkT 100010 142 [0, 1, 4, 7, 8] (CodL.cons (Cod.int .i64) (CodL.cons Cod.str (CodL.fix (AV.ptr 0 0) (CodL.fix (AV.ptr 1 0) (CodL.cons Cod.str (CodL.cons q1 (CodL.one q15))))))) (XCod.one .ret 142 [4, 5] (CodL.fix (AV.ptr 0 0) (CodL.cons (Cod.int .i64) (CodL.cons q1 (CodL.one q15))))) (fun v => vmap_Parse_k10 v.1 v.2.1 v.2.2.1 v.2.2.2.1.1 v.2.2.2.1.2.1 v.2.2.2.1.2.2.1 v.2.2.2.1.2.2.2.1 v.2.2.2.1.2.2.2.2.1 v.2.2.2.1.2.2.2.2.2 v.2.2.2.2.1 v.2.2.2.2.2.1 v.2.2.2.2.2.2.1 v.2.2.2.2.2.2.2.1 v.2.2.2.2.2.2.2.2.1 v.2.2.2.2.2.2.2.2.2)
theorem vmap_Parse_k10_t_ok : vmap_Parse_k10_t.OkC tp [0, 1, 4, 7, 8] [4, 5] k19_10 := mkT_okC (fun _ => rfl)
noncomputable def drayageref13_Parse_l7 (a4 : Int) (a5 a6 : Bs) (a7 a8 : Int) (a9 : As) (a10 a11 : Bs) (a12 a13 a14 : Int) (a15 : As) (a16 a17 : Bs) (a18 a19 : Int) : Option ((Int × List UInt8 × List UInt8 × (Int × List AV × List UInt8 × List UInt8 × Int × Int) × (Int × List AV × List UInt8 × List UInt8 × Int × Int)) ⊕ (Int × (Int × List AV × List UInt8 × List UInt8 × Int × Int) × (Int × List AV × List UInt8 × List UInt8 × Int × Int))) :=
  LoopU tp [0, 1, 4, 7, 8, 9] l20_7 (mkEnv 164 [0, 1, 4, 7, 8, 9] [AV.int .i64 a4, AV.str a5, AV.ptr 0 0, AV.ptr 1 0, AV.str a6, AV.int .i64 a7]) [[AV.int .i64 a8, AV.sl false 1 a9, AV.str a10, AV.str a11, AV.int .i64 a12, AV.int .i64 a13], [AV.int .i64 a14, AV.sl true 1 a15, AV.str a16, AV.str a17, AV.int .i64 a18, AV.int .i64 a19]] (XCod.alt (.exit 0) (XCod.one (.exit 0) 164 [0, 1, 4, 7, 8] (CodL.cons (Cod.int .i64) (CodL.cons Cod.str (CodL.fix (AV.ptr 0 0) (CodL.fix (AV.ptr 1 0) (CodL.cons Cod.str (CodL.cons q1 (CodL.one q15)))))))) (XCod.one .ret 164 [4, 5] (CodL.fix (AV.ptr 0 0) (CodL.cons (Cod.int .i64) (CodL.cons q1 (CodL.one q15))))))
noncomputable def drayageref13_Parse_l7_t : LoopT := mkT 7 164 [0, 1, 4, 7, 8, 9] (CodL.cons (Cod.int .i64) (CodL.cons Cod.str (CodL.fix (AV.ptr 0 0) (CodL.fix (AV.ptr 1 0) (CodL.cons Cod.str (CodL.cons (Cod.int .i64) (CodL.cons q1 (CodL.one q15)))))))) (XCod.alt (.exit 0) (XCod.one (.exit 0) 164 [0, 1, 4, 7, 8] (CodL.cons (Cod.int .i64) (CodL.cons Cod.str (CodL.fix (AV.ptr 0 0) (CodL.fix (AV.ptr 1 0) (CodL.cons Cod.str (CodL.cons q1 (CodL.one q15)))))))) (XCod.one .ret 164 [4, 5] (CodL.fix (AV.ptr 0 0) (CodL.cons (Cod.int .i64) (CodL.cons q1 (CodL.one q15)))))) (fun v => drayageref13_Parse_l7 v.1 v.2.1 v.2.2.1 v.2.2.2.1 v.2.2.2.2.1.1 v.2.2.2.2.1.2.1 v.2.2.2.2.1.2.2.1 v.2.2.2.2.1.2.2.2.1 v.2.2.2.2.1.2.2.2.2.1 v.2.2.2.2.1.2.2.2.2.2 v.2.2.2.2.2.1 v.2.2.2.2.2.2.1 v.2.2.2.2.2.2.2.1 v.2.2.2.2.2.2.2.2.1 v.2.2.2.2.2.2.2.2.2.1 v.2.2.2.2.2.2.2.2.2.2)
theorem drayageref13_Parse_l7_t_ok : drayageref13_Parse_l7_t.OkL tp [0, 1, 4, 7, 8, 9] l20_7 := mkT_okL (fun _ => rfl)
noncomputable def drayageref13_Parse_l15 (a26 : Int) (a27 a28 : Bs) (a29 : Int) (a30 : As) (a31 a32 : Bs) (a33 a34 a35 : Int) (a36 : As) (a37 a38 : Bs) (a39 a40 : Int) : Option ((Int × List UInt8 × List UInt8 × (Int × List AV × List UInt8 × List UInt8 × Int × Int) × (Int × List AV × List UInt8 × List UInt8 × Int × Int)) ⊕ (Int × (Int × List AV × List UInt8 × List UInt8 × Int × Int) × (Int × List AV × List UInt8 × List UInt8 × Int × Int))) :=
  LoopU tp [0, 1, 4, 7, 8] l20_15 (mkEnv 164 [0, 1, 4, 7, 8] [AV.int .i64 a26, AV.str a27, AV.ptr 0 0, AV.ptr 1 0, AV.str a28]) [[AV.int .i64 a29, AV.sl false 1 a30, AV.str a31, AV.str a32, AV.int .i64 a33, AV.int .i64 a34], [AV.int .i64 a35, AV.sl true 1 a36, AV.str a37, AV.str a38, AV.int .i64 a39, AV.int .i64 a40]] (XCod.alt (.exit 2) (XCod.one (.exit 2) 164 [0, 1, 4, 7, 8] (CodL.cons (Cod.int .i64) (CodL.cons Cod.str (CodL.fix (AV.ptr 0 0) (CodL.fix (AV.ptr 1 0) (CodL.cons Cod.str (CodL.cons q1 (CodL.one q15)))))))) (XCod.one .ret 164 [4, 5] (CodL.fix (AV.ptr 0 0) (CodL.cons (Cod.int .i64) (CodL.cons q1 (CodL.one q15))))))
noncomputable def drayageref13_Parse_l15_t : LoopT := mkT 15 164 [0, 1, 4, 7, 8] (CodL.cons (Cod.int .i64) (CodL.cons Cod.str (CodL.fix (AV.ptr 0 0) (CodL.fix (AV.ptr 1 0) (CodL.cons Cod.str (CodL.cons q1 (CodL.one q15))))))) (XCod.alt (.exit 2) (XCod.one (.exit 2) 164 [0, 1, 4, 7, 8] (CodL.cons (Cod.int .i64) (CodL.cons Cod.str (CodL.fix (AV.ptr 0 0) (CodL.fix (AV.ptr 1 0) (CodL.cons Cod.str (CodL.cons q1 (CodL.one q15)))))))) (XCod.one .ret 164 [4, 5] (CodL.fix (AV.ptr 0 0) (CodL.cons (Cod.int .i64) (CodL.cons q1 (CodL.one q15)))))) (fun v => drayageref13_Parse_l15 v.1 v.2.1 v.2.2.1 v.2.2.2.1.1 v.2.2.2.1.2.1 v.2.2.2.1.2.2.1 v.2.2.2.1.2.2.2.1 v.2.2.2.1.2.2.2.2.1 v.2.2.2.1.2.2.2.2.2 v.2.2.2.2.1 v.2.2.2.2.2.1 v.2.2.2.2.2.2.1 v.2.2.2.2.2.2.2.1 v.2.2.2.2.2.2.2.2.1 v.2.2.2.2.2.2.2.2.2)
theorem drayageref13_Parse_l15_t_ok : drayageref13_Parse_l15_t.OkL tp [0, 1, 4, 7, 8] l20_15 := mkT_okL (fun _ => rfl)
noncomputable def drayageref13_Parse_l30 (a85 : Int) (a86 a87 a88 a89 : Bs) (a90 a91 : Int) (a92 : As) (a93 a94 : Bs) (a95 a96 a97 : Int) (a98 : As) (a99 a100 : Bs) (a101 a102 : Int) : Option ((Int × List UInt8 × List UInt8 × List UInt8 × (Int × List AV × List UInt8 × List UInt8 × Int × Int) × (Int × List AV × List UInt8 × List UInt8 × Int × Int)) ⊕ (Int × (Int × List AV × List UInt8 × List UInt8 × Int × Int) × (Int × List AV × List UInt8 × List UInt8 × Int × Int))) :=
  LoopU tp [0, 1, 4, 7, 8, 12, 13, 14] l20_30 (mkEnv 164 [0, 1, 4, 7, 8, 12, 13, 14] [AV.int .i64 a85, AV.str a86, AV.ptr 0 0, AV.ptr 1 0, AV.str a87, AV.str a88, AV.str a89, AV.int .i64 a90]) [[AV.int .i64 a91, AV.sl false 1 a92, AV.str a93, AV.str a94, AV.int .i64 a95, AV.int .i64 a96], [AV.int .i64 a97, AV.sl true 1 a98, AV.str a99, AV.str a100, AV.int .i64 a101, AV.int .i64 a102]] (XCod.alt (.exit 4) (XCod.one (.exit 4) 164 [0, 1, 4, 7, 8, 13] (CodL.cons (Cod.int .i64) (CodL.cons Cod.str (CodL.fix (AV.ptr 0 0) (CodL.fix (AV.ptr 1 0) (CodL.cons Cod.str (CodL.cons Cod.str (CodL.cons q1 (CodL.one q15))))))))) (XCod.one .ret 164 [4, 5] (CodL.fix (AV.ptr 0 0) (CodL.cons (Cod.int .i64) (CodL.cons q1 (CodL.one q15))))))
noncomputable def drayageref13_Parse_l30_t : LoopT := mkT 30 164 [0, 1, 4, 7, 8, 12, 13, 14] (CodL.cons (Cod.int .i64) (CodL.cons Cod.str (CodL.fix (AV.ptr 0 0) (CodL.fix (AV.ptr 1 0) (CodL.cons Cod.str (CodL.cons Cod.str (CodL.cons Cod.str (CodL.cons (Cod.int .i64) (CodL.cons q1 (CodL.one q15)))))))))) (XCod.alt (.exit 4) (XCod.one (.exit 4) 164 [0, 1, 4, 7, 8, 13] (CodL.cons (Cod.int .i64) (CodL.cons Cod.str (CodL.fix (AV.ptr 0 0) (CodL.fix (AV.ptr 1 0) (CodL.cons Cod.str (CodL.cons Cod.str (CodL.cons q1 (CodL.one q15))))))))) (XCod.one .ret 164 [4, 5] (CodL.fix (AV.ptr 0 0) (CodL.cons (Cod.int .i64) (CodL.cons q1 (CodL.one q15)))))) (fun v => drayageref13_Parse_l30 v.1 v.2.1 v.2.2.1 v.2.2.2.1 v.2.2.2.2.1 v.2.2.2.2.2.1 v.2.2.2.2.2.2.1.1 v.2.2.2.2.2.2.1.2.1 v.2.2.2.2.2.2.1.2.2.1 v.2.2.2.2.2.2.1.2.2.2.1 v.2.2.2.2.2.2.1.2.2.2.2.1 v.2.2.2.2.2.2.1.2.2.2.2.2 v.2.2.2.2.2.2.2.1 v.2.2.2.2.2.2.2.2.1 v.2.2.2.2.2.2.2.2.2.1 v.2.2.2.2.2.2.2.2.2.2.1 v.2.2.2.2.2.2.2.2.2.2.2.1 v.2.2.2.2.2.2.2.2.2.2.2.2)
theorem drayageref13_Parse_l30_t_ok : drayageref13_Parse_l30_t.OkL tp [0, 1, 4, 7, 8, 12, 13, 14] l20_30 := mkT_okL (fun _ => rfl)
noncomputable def drayageref13_Parse_k29 (a68 : Int) (a69 a70 a71 a72 : Bs) (a73 : Int) (a74 : As) (a75 a76 : Bs) (a77 a78 a79 : Int) (a80 : As) (a81 a82 : Bs) (a83 a84 : Int) : Option (Int × (Int × List AV × List UInt8 × List UInt8 × Int × Int) × (Int × List AV × List UInt8 × List UInt8 × Int × Int)) :=
  CutU tp [4, 5] k20_29 (mkEnv 164 [0, 1, 4, 7, 8, 12, 13] [AV.int .i64 a68, AV.str a69, AV.ptr 0 0, AV.ptr 1 0, AV.str a70, AV.str a71, AV.str a72]) [[AV.int .i64 a73, AV.sl false 1 a74, AV.str a75, AV.str a76, AV.int .i64 a77, AV.int .i64 a78], [AV.int .i64 a79, AV.sl true 1 a80, AV.str a81, AV.str a82, AV.int .i64 a83, AV.int .i64 a84]] (XCod.one .ret 164 [4, 5] (CodL.fix (AV.ptr 0 0) (CodL.cons (Cod.int .i64) (CodL.cons q1 (CodL.one q15)))))
noncomputable def drayageref13_Parse_k29_t : LoopT := mkT 100029 164 [0, 1, 4, 7, 8, 12, 13] (CodL.cons (Cod.int .i64) (CodL.cons Cod.str (CodL.fix (AV.ptr 0 0) (CodL.fix (AV.ptr 1 0) (CodL.cons Cod.str (CodL.cons Cod.str (CodL.cons Cod.str (CodL.cons q1 (CodL.one q15))))))))) (XCod.one .ret 164 [4, 5] (CodL.fix (AV.ptr 0 0) (CodL.cons (Cod.int .i64) (CodL.cons q1 (CodL.one q15))))) (fun v => drayageref13_Parse_k29 v.1 v.2.1 v.2.2.1 v.2.2.2.1 v.2.2.2.2.1 v.2.2.2.2.2.1.1 v.2.2.2.2.2.1.2.1 v.2.2.2.2.2.1.2.2.1 v.2.2.2.2.2.1.2.2.2.1 v.2.2.2.2.2.1.2.2.2.2.1 v.2.2.2.2.2.1.2.2.2.2.2 v.2.2.2.2.2.2.1 v.2.2.2.2.2.2.2.1 v.2.2.2.2.2.2.2.2.1 v.2.2.2.2.2.2.2.2.2.1 v.2.2.2.2.2.2.2.2.2.2.1 v.2.2.2.2.2.2.2.2.2.2.2)
theorem drayageref13_Parse_k29_t_ok : drayageref13_Parse_k29_t.OkC tp [0, 1, 4, 7, 8, 12, 13] [4, 5] k20_29 := mkT_okC (fun _ => rfl)
noncomputable def drayageref13_Parse_k25 (a53 : Int) (a54 a55 : Bs) (a56 : Int) (a57 : As) (a58 a59 : Bs) (a60 a61 a62 : Int) (a63 : As) (a64 a65 : Bs) (a66 a67 : Int) : Option (Int × (Int × List AV × List UInt8 × List UInt8 × Int × Int) × (Int × List AV × List UInt8 × List UInt8 × Int × Int)) :=
  CutU tp [4, 5] k20_25 (mkEnv 164 [0, 1, 4, 7, 8] [AV.int .i64 a53, AV.str a54, AV.ptr 0 0, AV.ptr 1 0, AV.str a55]) [[AV.int .i64 a56, AV.sl false 1 a57, AV.str a58, AV.str a59, AV.int .i64 a60, AV.int .i64 a61], [AV.int .i64 a62, AV.sl true 1 a63, AV.str a64, AV.str a65, AV.int .i64 a66, AV.int .i64 a67]] (XCod.one .ret 164 [4, 5] (CodL.fix (AV.ptr 0 0) (CodL.cons (Cod.int .i64) (CodL.cons q1 (CodL.one q15)))))
noncomputable def drayageref13_Parse_k25_t : LoopT := mkT 100025 164 [0, 1, 4, 7, 8] (CodL.cons (Cod.int .i64) (CodL.cons Cod.str (CodL.fix (AV.ptr 0 0) (CodL.fix (AV.ptr 1 0) (CodL.cons Cod.str (CodL.cons q1 (CodL.one q15))))))) (XCod.one .ret 164 [4, 5] (CodL.fix (AV.ptr 0 0) (CodL.cons (Cod.int .i64) (CodL.cons q1 (CodL.one q15))))) (fun v => drayageref13_Parse_k25 v.1 v.2.1 v.2.2.1 v.2.2.2.1.1 v.2.2.2.1.2.1 v.2.2.2.1.2.2.1 v.2.2.2.1.2.2.2.1 v.2.2.2.1.2.2.2.2.1 v.2.2.2.1.2.2.2.2.2 v.2.2.2.2.1 v.2.2.2.2.2.1 v.2.2.2.2.2.2.1 v.2.2.2.2.2.2.2.1 v.2.2.2.2.2.2.2.2.1 v.2.2.2.2.2.2.2.2.2)
theorem drayageref13_Parse_k25_t_ok : drayageref13_Parse_k25_t.OkC tp [0, 1, 4, 7, 8] [4, 5] k20_25 := mkT_okC (fun _ => rfl)
noncomputable def vmap_text_l5 (a18 : Int) (a19 : As) (a20 a21 a22 : Int) (a23 : As) (a24 a25 : Bs) (a26 a27 : Int) (a28 : As) : Option (Int × (Int × List AV × List UInt8 × List UInt8 × Int × Int) × List AV) :=
  LoopU tp [0, 3, 5, 19, 20, 21] l48_5 (mkEnv 57 [0, 3, 5, 19, 20, 21] [AV.int .i64 a18, AV.ptr 0 0, AV.ptr 1 0, AV.sl false 1 a19, AV.int .i64 a20, AV.int .i64 a21]) [[AV.int .i64 a22, AV.sl false 1 a23, AV.str a24, AV.str a25, AV.int .i64 a26, AV.int .i64 a27], [AV.bld 117 5, AV.sl true 1 a28]] (XCod.one (.exit 0) 57 [0, 3, 5] (CodL.cons (Cod.int .i64) (CodL.fix (AV.ptr 0 0) (CodL.fix (AV.ptr 1 0) (CodL.cons q1 (CodL.one q16))))))
noncomputable def vmap_text_l5_t : LoopT := mkT 5 57 [0, 3, 5, 19, 20, 21] (CodL.cons (Cod.int .i64) (CodL.fix (AV.ptr 0 0) (CodL.fix (AV.ptr 1 0) (CodL.cons (Cod.sl false 1) (CodL.cons (Cod.int .i64) (CodL.cons (Cod.int .i64) (CodL.cons q1 (CodL.one q16)))))))) (XCod.one (.exit 0) 57 [0, 3, 5] (CodL.cons (Cod.int .i64) (CodL.fix (AV.ptr 0 0) (CodL.fix (AV.ptr 1 0) (CodL.cons q1 (CodL.one q16)))))) (fun v => vmap_text_l5 v.1 v.2.1 v.2.2.1 v.2.2.2.1 v.2.2.2.2.1.1 v.2.2.2.2.1.2.1 v.2.2.2.2.1.2.2.1 v.2.2.2.2.1.2.2.2.1 v.2.2.2.2.1.2.2.2.2.1 v.2.2.2.2.1.2.2.2.2.2 v.2.2.2.2.2)
theorem vmap_text_l5_t_ok : vmap_text_l5_t.OkL tp [0, 3, 5, 19, 20, 21] l48_5 := mkT_okL (fun _ => rfl)
noncomputable def vmap_text_k17 (a46 : Bs) (a47 : Int) (a48 : As) (a49 a50 : Bs) (a51 a52 : Int) (a53 : As) : Option (List UInt8 × (Int × List AV × List UInt8 × List UInt8 × Int × Int) × List AV) :=
  CutU tp [4] k48_17 (mkEnv 57 [3, 5, 9] [AV.ptr 0 0, AV.ptr 1 0, AV.str a46]) [[AV.int .i64 a47, AV.sl false 1 a48, AV.str a49, AV.str a50, AV.int .i64 a51, AV.int .i64 a52], [AV.bld 117 5, AV.sl true 1 a53]] (XCod.one .ret 57 [4] (CodL.cons Cod.str (CodL.cons q1 (CodL.one q17))))
noncomputable def vmap_text_k17_t : LoopT := mkT 100017 57 [3, 5, 9] (CodL.fix (AV.ptr 0 0) (CodL.fix (AV.ptr 1 0) (CodL.cons Cod.str (CodL.cons q1 (CodL.one q16))))) (XCod.one .ret 57 [4] (CodL.cons Cod.str (CodL.cons q1 (CodL.one q17)))) (fun v => vmap_text_k17 v.1 v.2.1.1 v.2.1.2.1 v.2.1.2.2.1 v.2.1.2.2.2.1 v.2.1.2.2.2.2.1 v.2.1.2.2.2.2.2 v.2.2)
theorem vmap_text_k17_t_ok : vmap_text_k17_t.OkC tp [3, 5, 9] [4] k48_17 := mkT_okC (fun _ => rfl)
noncomputable def vmap_text_k15 (a34 a35 : Bs) (a36 : Int) (a37 : As) (a38 a39 : Bs) (a40 a41 : Int) (a42 : As) : Option (List UInt8 × (Int × List AV × List UInt8 × List UInt8 × Int × Int) × List AV) :=
  CutU tp [4] k48_15 (mkEnv 57 [3, 5, 8, 9] [AV.ptr 0 0, AV.ptr 1 0, AV.str a34, AV.str a35]) [[AV.int .i64 a36, AV.sl false 1 a37, AV.str a38, AV.str a39, AV.int .i64 a40, AV.int .i64 a41], [AV.bld 117 5, AV.sl true 1 a42]] (XCod.one .ret 57 [4] (CodL.cons Cod.str (CodL.cons q1 (CodL.one q17))))
noncomputable def vmap_text_k15_t : LoopT := mkT 100015 57 [3, 5, 8, 9] (CodL.fix (AV.ptr 0 0) (CodL.fix (AV.ptr 1 0) (CodL.cons Cod.str (CodL.cons Cod.str (CodL.cons q1 (CodL.one q16)))))) (XCod.one .ret 57 [4] (CodL.cons Cod.str (CodL.cons q1 (CodL.one q17)))) (fun v => vmap_text_k15 v.1 v.2.1 v.2.2.1.1 v.2.2.1.2.1 v.2.2.1.2.2.1 v.2.2.1.2.2.2.1 v.2.2.1.2.2.2.2.1 v.2.2.1.2.2.2.2.2 v.2.2.2)
theorem vmap_text_k15_t_ok : vmap_text_k15_t.OkC tp [3, 5, 8, 9] [4] k48_15 := mkT_okC (fun _ => rfl)
noncomputable def vmap_text_k4 (a10 a11 : Int) (a12 : As) (a13 a14 : Bs) (a15 a16 : Int) (a17 : As) : Option (List UInt8 × (Int × List AV × List UInt8 × List UInt8 × Int × Int) × List AV) :=
  CutU tp [4] k48_4 (mkEnv 57 [0, 3, 5] [AV.int .i64 a10, AV.ptr 0 0, AV.ptr 1 0]) [[AV.int .i64 a11, AV.sl false 1 a12, AV.str a13, AV.str a14, AV.int .i64 a15, AV.int .i64 a16], [AV.bld 117 5, AV.sl true 1 a17]] (XCod.one .ret 57 [4] (CodL.cons Cod.str (CodL.cons q1 (CodL.one q17))))
noncomputable def vmap_text_k4_t : LoopT := mkT 100004 57 [0, 3, 5] (CodL.cons (Cod.int .i64) (CodL.fix (AV.ptr 0 0) (CodL.fix (AV.ptr 1 0) (CodL.cons q1 (CodL.one q16))))) (XCod.one .ret 57 [4] (CodL.cons Cod.str (CodL.cons q1 (CodL.one q17)))) (fun v => vmap_text_k4 v.1 v.2.1.1 v.2.1.2.1 v.2.1.2.2.1 v.2.1.2.2.2.1 v.2.1.2.2.2.2.1 v.2.1.2.2.2.2.2 v.2.2)
theorem vmap_text_k4_t_ok : vmap_text_k4_t.OkC tp [0, 3, 5] [4] k48_4 := mkT_okC (fun _ => rfl)
noncomputable def drayageref13_Check_l4 (a17 a18 : Int) (a19 : As) (a20 a21 : Bs) (a22 a23 : Int) : Option (((Int × List AV × List UInt8 × List UInt8 × Int × Int)) ⊕ (Int × (Int × List AV × List UInt8 × List UInt8 × Int × Int))) :=
  LoopU tp [1, 3] l23_4 (mkEnv 90 [1, 3] [AV.ptr 0 0, AV.int .i64 a17]) [[AV.int .i64 a18, AV.sl false 1 a19, AV.str a20, AV.str a21, AV.int .i64 a22, AV.int .i64 a23]] (XCod.alt (.exit 0) (XCod.one (.exit 0) 90 [1] (CodL.fix (AV.ptr 0 0) (CodL.one q1))) (XCod.one .ret 90 [2] (CodL.cons (Cod.int .i64) (CodL.one q1))))
noncomputable def drayageref13_Check_l4_t : LoopT := mkT 4 90 [1, 3] (CodL.fix (AV.ptr 0 0) (CodL.cons (Cod.int .i64) (CodL.one q1))) (XCod.alt (.exit 0) (XCod.one (.exit 0) 90 [1] (CodL.fix (AV.ptr 0 0) (CodL.one q1))) (XCod.one .ret 90 [2] (CodL.cons (Cod.int .i64) (CodL.one q1)))) (fun v => drayageref13_Check_l4 v.1 v.2.1 v.2.2.1 v.2.2.2.1 v.2.2.2.2.1 v.2.2.2.2.2.1 v.2.2.2.2.2.2)
theorem drayageref13_Check_l4_t_ok : drayageref13_Check_l4_t.OkL tp [1, 3] l23_4 := mkT_okL (fun _ => rfl)
noncomputable def drayageref13_text_k9 (a29 : Int) (a30 : Bs) (a31 a32 : Int) (a33 : As) (a34 a35 : Bs) (a36 a37 : Int) : Option (Int × List UInt8 × Int × (Int × List AV × List UInt8 × List UInt8 × Int × Int)) :=
  CutU tp [0, 3, 5, 6] k49_9 (mkEnv 71 [0, 3, 5, 6] [AV.int .i64 a29, AV.ptr 0 0, AV.str a30, AV.int .i64 a31]) [[AV.int .i64 a32, AV.sl false 1 a33, AV.str a34, AV.str a35, AV.int .i64 a36, AV.int .i64 a37]] (XCod.one .normal 71 [0, 3, 5, 6] (CodL.cons (Cod.int .i64) (CodL.fix (AV.ptr 0 0) (CodL.cons Cod.str (CodL.cons (Cod.int .i64) (CodL.one q1))))))
noncomputable def drayageref13_text_k9_t : LoopT := mkT 100009 71 [0, 3, 5, 6] (CodL.cons (Cod.int .i64) (CodL.fix (AV.ptr 0 0) (CodL.cons Cod.str (CodL.cons (Cod.int .i64) (CodL.one q1))))) (XCod.one .normal 71 [0, 3, 5, 6] (CodL.cons (Cod.int .i64) (CodL.fix (AV.ptr 0 0) (CodL.cons Cod.str (CodL.cons (Cod.int .i64) (CodL.one q1)))))) (fun v => drayageref13_text_k9 v.1 v.2.1 v.2.2.1 v.2.2.2.1 v.2.2.2.2.1 v.2.2.2.2.2.1 v.2.2.2.2.2.2.1 v.2.2.2.2.2.2.2.1 v.2.2.2.2.2.2.2.2)
theorem drayageref13_text_k9_t_ok : drayageref13_text_k9_t.OkC tp [0, 3, 5, 6] [0, 3, 5, 6] k49_9 := mkT_okC (fun _ => rfl)
noncomputable def drayageref13_text_l5 (a18 : Int) (a19 : Bs) (a20 a21 : Int) (a22 : As) (a23 a24 : Bs) (a25 a26 : Int) : Option (Int × List UInt8 × (Int × List AV × List UInt8 × List UInt8 × Int × Int)) :=
  LoopU tp [0, 3, 5, 6] l49_5 (mkEnv 71 [0, 3, 5, 6] [AV.int .i64 a18, AV.ptr 0 0, AV.str a19, AV.int .i64 a20]) [[AV.int .i64 a21, AV.sl false 1 a22, AV.str a23, AV.str a24, AV.int .i64 a25, AV.int .i64 a26]] (XCod.one (.exit 0) 71 [0, 3, 5] (CodL.cons (Cod.int .i64) (CodL.fix (AV.ptr 0 0) (CodL.cons Cod.str (CodL.one q1)))))
noncomputable def drayageref13_text_l5_t : LoopT := mkT 5 71 [0, 3, 5, 6] (CodL.cons (Cod.int .i64) (CodL.fix (AV.ptr 0 0) (CodL.cons Cod.str (CodL.cons (Cod.int .i64) (CodL.one q1))))) (XCod.one (.exit 0) 71 [0, 3, 5] (CodL.cons (Cod.int .i64) (CodL.fix (AV.ptr 0 0) (CodL.cons Cod.str (CodL.one q1))))) (fun v => drayageref13_text_l5 v.1 v.2.1 v.2.2.1 v.2.2.2.1 v.2.2.2.2.1 v.2.2.2.2.2.1 v.2.2.2.2.2.2.1 v.2.2.2.2.2.2.2.1 v.2.2.2.2.2.2.2.2)
theorem drayageref13_text_l5_t_ok : drayageref13_text_l5_t.OkL tp [0, 3, 5, 6] l49_5 := mkT_okL (fun _ => rfl)
noncomputable def drayageref13_text_k15 (a46 : Int) (a47 a48 : Bs) (a49 : Int) (a50 : As) (a51 a52 : Bs) (a53 a54 : Int) : Option (Int × List UInt8 × (Int × List AV × List UInt8 × List UInt8 × Int × Int)) :=
  CutU tp [0, 3, 5] k49_15 (mkEnv 71 [0, 3, 5, 7] [AV.int .i64 a46, AV.ptr 0 0, AV.str a47, AV.str a48]) [[AV.int .i64 a49, AV.sl false 1 a50, AV.str a51, AV.str a52, AV.int .i64 a53, AV.int .i64 a54]] (XCod.one .normal 71 [0, 3, 5] (CodL.cons (Cod.int .i64) (CodL.fix (AV.ptr 0 0) (CodL.cons Cod.str (CodL.one q1)))))
noncomputable def drayageref13_text_k15_t : LoopT := mkT 100015 71 [0, 3, 5, 7] (CodL.cons (Cod.int .i64) (CodL.fix (AV.ptr 0 0) (CodL.cons Cod.str (CodL.cons Cod.str (CodL.one q1))))) (XCod.one .normal 71 [0, 3, 5] (CodL.cons (Cod.int .i64) (CodL.fix (AV.ptr 0 0) (CodL.cons Cod.str (CodL.one q1))))) (fun v => drayageref13_text_k15 v.1 v.2.1 v.2.2.1 v.2.2.2.1 v.2.2.2.2.1 v.2.2.2.2.2.1 v.2.2.2.2.2.2.1 v.2.2.2.2.2.2.2.1 v.2.2.2.2.2.2.2.2)
theorem drayageref13_text_k15_t_ok : drayageref13_text_k15_t.OkC tp [0, 3, 5, 7] [0, 3, 5] k49_15 := mkT_okC (fun _ => rfl)
noncomputable def drayageref13_text_k16 (a60 : Int) (a61 : Bs) (a62 : Int) (a63 : As) (a64 a65 : Bs) (a66 a67 : Int) : Option (List UInt8 × (Int × List AV × List UInt8 × List UInt8 × Int × Int)) :=
  CutU tp [4] k49_16 (mkEnv 71 [0, 3, 5] [AV.int .i64 a60, AV.ptr 0 0, AV.str a61]) [[AV.int .i64 a62, AV.sl false 1 a63, AV.str a64, AV.str a65, AV.int .i64 a66, AV.int .i64 a67]] (XCod.one .ret 71 [4] (CodL.cons Cod.str (CodL.one q1)))
noncomputable def drayageref13_text_k16_t : LoopT := mkT 100016 71 [0, 3, 5] (CodL.cons (Cod.int .i64) (CodL.fix (AV.ptr 0 0) (CodL.cons Cod.str (CodL.one q1)))) (XCod.one .ret 71 [4] (CodL.cons Cod.str (CodL.one q1))) (fun v => drayageref13_text_k16 v.1 v.2.1 v.2.2.1 v.2.2.2.1 v.2.2.2.2.1 v.2.2.2.2.2.1 v.2.2.2.2.2.2.1 v.2.2.2.2.2.2.2)
theorem drayageref13_text_k16_t_ok : drayageref13_text_k16_t.OkC tp [0, 3, 5] [4] k49_16 := mkT_okC (fun _ => rfl)
noncomputable def drayageref13_text_k4 (a10 : Int) (a11 : Bs) (a12 : Int) (a13 : As) (a14 a15 : Bs) (a16 a17 : Int) : Option (List UInt8 × (Int × List AV × List UInt8 × List UInt8 × Int × Int)) :=
  CutU tp [4] k49_4 (mkEnv 71 [0, 3, 5] [AV.int .i64 a10, AV.ptr 0 0, AV.str a11]) [[AV.int .i64 a12, AV.sl false 1 a13, AV.str a14, AV.str a15, AV.int .i64 a16, AV.int .i64 a17]] (XCod.one .ret 71 [4] (CodL.cons Cod.str (CodL.one q1)))
noncomputable def drayageref13_text_k4_t : LoopT := mkT 100004 71 [0, 3, 5] (CodL.cons (Cod.int .i64) (CodL.fix (AV.ptr 0 0) (CodL.cons Cod.str (CodL.one q1)))) (XCod.one .ret 71 [4] (CodL.cons Cod.str (CodL.one q1))) (fun v => drayageref13_text_k4 v.1 v.2.1 v.2.2.1 v.2.2.2.1 v.2.2.2.2.1 v.2.2.2.2.2.1 v.2.2.2.2.2.2.1 v.2.2.2.2.2.2.2)
theorem drayageref13_text_k4_t_ok : drayageref13_text_k4_t.OkC tp [0, 3, 5] [4] k49_4 := mkT_okC (fun _ => rfl)
noncomputable def version_part_k17 (a24 : Bool) (a25 a26 a27 a28 : Bs) (a29 : Bool) : Option (Bool × (List UInt8 × List UInt8 × List UInt8 × Bool)) :=
  CutU tp [4, 5] k39_17 (mkEnv 114 [4, 5, 8] [AV.ptr 0 0, AV.bool a24, AV.str a25]) [[AV.str a26, AV.str a27, AV.str a28, AV.bool a29]] (XCod.one .ret 114 [4, 5] (CodL.fix (AV.ptr 0 0) (CodL.cons Cod.bool (CodL.one q7))))
noncomputable def version_part_k17_t : LoopT := mkT 100017 114 [4, 5, 8] (CodL.fix (AV.ptr 0 0) (CodL.cons Cod.bool (CodL.cons Cod.str (CodL.one q7)))) (XCod.one .ret 114 [4, 5] (CodL.fix (AV.ptr 0 0) (CodL.cons Cod.bool (CodL.one q7)))) (fun v => version_part_k17 v.1 v.2.1 v.2.2.1 v.2.2.2.1 v.2.2.2.2.1 v.2.2.2.2.2)
theorem version_part_k17_t_ok : version_part_k17_t.OkC tp [4, 5, 8] [4, 5] k39_17 := mkT_okC (fun _ => rfl)
noncomputable def version_part_k11 (a11 : Int) (a12 : Bool) (a13 a14 a15 : Bs) (a16 : Bool) : Option (Bool × (List UInt8 × List UInt8 × List UInt8 × Bool)) :=
  CutU tp [4, 5] k39_11 (mkEnv 114 [0, 4, 5] [AV.int .i64 a11, AV.ptr 0 0, AV.bool a12]) [[AV.str a13, AV.str a14, AV.str a15, AV.bool a16]] (XCod.one .ret 114 [4, 5] (CodL.fix (AV.ptr 0 0) (CodL.cons Cod.bool (CodL.one q7))))
noncomputable def version_part_k11_t : LoopT := mkT 100011 114 [0, 4, 5] (CodL.cons (Cod.int .i64) (CodL.fix (AV.ptr 0 0) (CodL.cons Cod.bool (CodL.one q7)))) (XCod.one .ret 114 [4, 5] (CodL.fix (AV.ptr 0 0) (CodL.cons Cod.bool (CodL.one q7)))) (fun v => version_part_k11 v.1 v.2.1 v.2.2.1 v.2.2.2.1 v.2.2.2.2.1 v.2.2.2.2.2)
theorem version_part_k11_t_ok : version_part_k11_t.OkC tp [0, 4, 5] [4, 5] k39_11 := mkT_okC (fun _ => rfl)
noncomputable def codec_Undec_l2 (a2 : Bs) (a3 : Int) : Option (List UInt8 ⊕ (Int × Int)) :=
  LoopU tp [0, 4] l97_2 (mkEnv 41 [0, 4] [AV.str a2, AV.int .i64 a3]) [] (XCod.alt (.exit 0) (XCod.one (.exit 0) 41 [0] (CodL.one Cod.str)) (XCod.one .ret 41 [2, 3] (CodL.cons (Cod.int .i64) (CodL.one (Cod.int .i64)))))
noncomputable def codec_Undec_l2_t : LoopT := mkT 2 41 [0, 4] (CodL.cons Cod.str (CodL.one (Cod.int .i64))) (XCod.alt (.exit 0) (XCod.one (.exit 0) 41 [0] (CodL.one Cod.str)) (XCod.one .ret 41 [2, 3] (CodL.cons (Cod.int .i64) (CodL.one (Cod.int .i64))))) (fun v => codec_Undec_l2 v.1 v.2)
theorem codec_Undec_l2_t_ok : codec_Undec_l2_t.OkL tp [0, 4] l97_2 := mkT_okL (fun _ => rfl)
noncomputable def codec_Dec_l4 (a2 : Int) (a3 : Bs) : Option (Int × List UInt8) :=
  LoopU tp [0, 3] l92_4 (mkEnv 25 [0, 3] [AV.int .i64 a2, AV.str a3]) [] (XCod.one (.exit 0) 25 [0, 3] (CodL.cons (Cod.int .i64) (CodL.one Cod.str)))
noncomputable def codec_Dec_l4_t : LoopT := mkT 4 25 [0, 3] (CodL.cons (Cod.int .i64) (CodL.one Cod.str)) (XCod.one (.exit 0) 25 [0, 3] (CodL.cons (Cod.int .i64) (CodL.one Cod.str))) (fun v => codec_Dec_l4 v.1 v.2)
theorem codec_Dec_l4_t_ok : codec_Dec_l4_t.OkL tp [0, 3] l92_4 := mkT_okL (fun _ => rfl)
noncomputable def drayageref12_Part_l12 (a27 : Int) (a28 : Bs) (a29 : Int) (a30 a31 a32 : Bs) (a33 : Bool) (a34 a35 a36 : Bs) (a37 : Bool) : Option ((Int × (List UInt8 × List UInt8 × List UInt8 × Bool) × (List UInt8 × List UInt8 × List UInt8 × Bool)) ⊕ ((List UInt8 × List UInt8 × List UInt8 × Bool) × (List UInt8 × List UInt8 × List UInt8 × Bool))) :=
  LoopU tp [0, 1, 4, 7, 8] l101_12 (mkEnv 153 [0, 1, 4, 7, 8] [AV.int .i64 a27, AV.str a28, AV.ptr 0 0, AV.ptr 1 0, AV.int .i64 a29]) [[AV.str a30, AV.str a31, AV.str a32, AV.bool a33], [AV.str a34, AV.str a35, AV.str a36, AV.bool a37]] (XCod.alt (.exit 0) (XCod.one (.exit 0) 153 [0, 4, 7] (CodL.cons (Cod.int .i64) (CodL.fix (AV.ptr 0 0) (CodL.fix (AV.ptr 1 0) (CodL.cons q7 (CodL.one q7)))))) (XCod.one .ret 153 [4] (CodL.fix (AV.ptr 0 0) (CodL.cons q7 (CodL.one q7)))))
noncomputable def drayageref12_Part_l12_t : LoopT := mkT 12 153 [0, 1, 4, 7, 8] (CodL.cons (Cod.int .i64) (CodL.cons Cod.str (CodL.fix (AV.ptr 0 0) (CodL.fix (AV.ptr 1 0) (CodL.cons (Cod.int .i64) (CodL.cons q7 (CodL.one q7))))))) (XCod.alt (.exit 0) (XCod.one (.exit 0) 153 [0, 4, 7] (CodL.cons (Cod.int .i64) (CodL.fix (AV.ptr 0 0) (CodL.fix (AV.ptr 1 0) (CodL.cons q7 (CodL.one q7)))))) (XCod.one .ret 153 [4] (CodL.fix (AV.ptr 0 0) (CodL.cons q7 (CodL.one q7))))) (fun v => drayageref12_Part_l12 v.1 v.2.1 v.2.2.1 v.2.2.2.1.1 v.2.2.2.1.2.1 v.2.2.2.1.2.2.1 v.2.2.2.1.2.2.2 v.2.2.2.2.1 v.2.2.2.2.2.1 v.2.2.2.2.2.2.1 v.2.2.2.2.2.2.2)
theorem drayageref12_Part_l12_t_ok : drayageref12_Part_l12_t.OkL tp [0, 1, 4, 7, 8] l101_12 := mkT_okL (fun _ => rfl)
noncomputable def drayageref12_Part_k28 (a66 a67 a68 : Bs) (a69 : Bool) (a70 a71 a72 : Bs) (a73 : Bool) : Option ((List UInt8 × List UInt8 × List UInt8 × Bool) × (List UInt8 × List UInt8 × List UInt8 × Bool)) :=
  CutU tp [4] k101_28 (mkEnv 153 [4, 7] [AV.ptr 0 0, AV.ptr 1 0]) [[AV.str a66, AV.str a67, AV.str a68, AV.bool a69], [AV.str a70, AV.str a71, AV.str a72, AV.bool a73]] (XCod.one .ret 153 [4] (CodL.fix (AV.ptr 0 0) (CodL.cons q7 (CodL.one q7))))
noncomputable def drayageref12_Part_k28_t : LoopT := mkT 100028 153 [4, 7] (CodL.fix (AV.ptr 0 0) (CodL.fix (AV.ptr 1 0) (CodL.cons q7 (CodL.one q7)))) (XCod.one .ret 153 [4] (CodL.fix (AV.ptr 0 0) (CodL.cons q7 (CodL.one q7)))) (fun v => drayageref12_Part_k28 v.1.1 v.1.2.1 v.1.2.2.1 v.1.2.2.2 v.2.1 v.2.2.1 v.2.2.2.1 v.2.2.2.2)
theorem drayageref12_Part_k28_t_ok : drayageref12_Part_k28_t.OkC tp [4, 7] [4] k101_28 := mkT_okC (fun _ => rfl)
noncomputable def drayageref12_Part_k23 (a50 a51 : Int) (a52 a53 a54 : Bs) (a55 : Bool) (a56 a57 a58 : Bs) (a59 : Bool) : Option ((List UInt8 × List UInt8 × List UInt8 × Bool) × (List UInt8 × List UInt8 × List UInt8 × Bool)) :=
  CutU tp [4] k101_23 (mkEnv 153 [0, 4, 7, 9] [AV.int .i64 a50, AV.ptr 0 0, AV.ptr 1 0, AV.int .i64 a51]) [[AV.str a52, AV.str a53, AV.str a54, AV.bool a55], [AV.str a56, AV.str a57, AV.str a58, AV.bool a59]] (XCod.one .ret 153 [4] (CodL.fix (AV.ptr 0 0) (CodL.cons q7 (CodL.one q7))))
noncomputable def drayageref12_Part_k23_t : LoopT := mkT 100023 153 [0, 4, 7, 9] (CodL.cons (Cod.int .i64) (CodL.fix (AV.ptr 0 0) (CodL.fix (AV.ptr 1 0) (CodL.cons (Cod.int .i64) (CodL.cons q7 (CodL.one q7)))))) (XCod.one .ret 153 [4] (CodL.fix (AV.ptr 0 0) (CodL.cons q7 (CodL.one q7)))) (fun v => drayageref12_Part_k23 v.1 v.2.1 v.2.2.1.1 v.2.2.1.2.1 v.2.2.1.2.2.1 v.2.2.1.2.2.2 v.2.2.2.1 v.2.2.2.2.1 v.2.2.2.2.2.1 v.2.2.2.2.2.2)
theorem drayageref12_Part_k23_t_ok : drayageref12_Part_k23_t.OkC tp [0, 4, 7, 9] [4] k101_23 := mkT_okC (fun _ => rfl)
noncomputable def drayageref12_Digits_l2 (a2 : Bs) (a3 : Int) : Option Int :=
  LoopU tp [0, 3] l102_2 (mkEnv 17 [0, 3] [AV.str a2, AV.int .i64 a3]) [] (XCod.one (.exit 0) 17 [3] (CodL.one (Cod.int .i64)))
noncomputable def drayageref12_Digits_l2_t : LoopT := mkT 2 17 [0, 3] (CodL.cons Cod.str (CodL.one (Cod.int .i64))) (XCod.one (.exit 0) 17 [3] (CodL.one (Cod.int .i64))) (fun v => drayageref12_Digits_l2 v.1 v.2)
theorem drayageref12_Digits_l2_t_ok : drayageref12_Digits_l2_t.OkL tp [0, 3] l102_2 := mkT_okL (fun _ => rfl)
noncomputable def drayageref01_Undec_l4 (a4 : Bs) (a5 : Int) (a6 : As) (a7 a8 : Int) : Option ((List UInt8 × (List AV × Int × Int)) ⊕ ((List AV × Int × Int))) :=
  LoopU tp [0, 2, 3] l103_4 (mkEnv 36 [0, 2, 3] [AV.str a4, AV.ptr 0 0, AV.int .i64 a5]) [[AV.sl false 1 a6, AV.int .i64 a7, AV.int .i64 a8]] (XCod.alt (.exit 0) (XCod.one (.exit 0) 36 [0, 2] (CodL.cons Cod.str (CodL.fix (AV.ptr 0 0) (CodL.one q10)))) (XCod.one .ret 36 [2] (CodL.fix (AV.ptr 0 0) (CodL.one q10))))
noncomputable def drayageref01_Undec_l4_t : LoopT := mkT 4 36 [0, 2, 3] (CodL.cons Cod.str (CodL.fix (AV.ptr 0 0) (CodL.cons (Cod.int .i64) (CodL.one q10)))) (XCod.alt (.exit 0) (XCod.one (.exit 0) 36 [0, 2] (CodL.cons Cod.str (CodL.fix (AV.ptr 0 0) (CodL.one q10)))) (XCod.one .ret 36 [2] (CodL.fix (AV.ptr 0 0) (CodL.one q10)))) (fun v => drayageref01_Undec_l4 v.1 v.2.1 v.2.2.1 v.2.2.2.1 v.2.2.2.2)
theorem drayageref01_Undec_l4_t_ok : drayageref01_Undec_l4_t.OkL tp [0, 2, 3] l103_4 := mkT_okL (fun _ => rfl)
noncomputable def drayageref13_Rank_l2 (a2 : Bs) (a3 : Int) : Option (List UInt8 ⊕ Int) :=
  LoopU tp [0, 3] l65_2 (mkEnv 15 [0, 3] [AV.str a2, AV.int .i64 a3]) [] (XCod.alt (.exit 0) (XCod.one (.exit 0) 15 [0] (CodL.one Cod.str)) (XCod.one .ret 15 [2] (CodL.one (Cod.int .i64))))
noncomputable def drayageref13_Rank_l2_t : LoopT := mkT 2 15 [0, 3] (CodL.cons Cod.str (CodL.one (Cod.int .i64))) (XCod.alt (.exit 0) (XCod.one (.exit 0) 15 [0] (CodL.one Cod.str)) (XCod.one .ret 15 [2] (CodL.one (Cod.int .i64)))) (fun v => drayageref13_Rank_l2 v.1 v.2)
theorem drayageref13_Rank_l2_t_ok : drayageref13_Rank_l2_t.OkL tp [0, 3] l65_2 := mkT_okL (fun _ => rfl)
noncomputable def drayageref01_Dec_l4 (a2 : Int) (a3 : As) : Option (Int × List AV) :=
  LoopU tp [0, 3] l95_4 (mkEnv 24 [0, 3] [AV.int .i64 a2, AV.sl false 1 a3]) [] (XCod.one (.exit 0) 24 [0, 3] (CodL.cons (Cod.int .i64) (CodL.one (Cod.sl false 1))))
noncomputable def drayageref01_Dec_l4_t : LoopT := mkT 4 24 [0, 3] (CodL.cons (Cod.int .i64) (CodL.one (Cod.sl false 1))) (XCod.one (.exit 0) 24 [0, 3] (CodL.cons (Cod.int .i64) (CodL.one (Cod.sl false 1)))) (fun v => drayageref01_Dec_l4 v.1 v.2)
theorem drayageref01_Dec_l4_t_ok : drayageref01_Dec_l4_t.OkL tp [0, 3] l95_4 := mkT_okL (fun _ => rfl)
noncomputable def version_pieces_l2 (a2 : Bs) (a3 : As) : Option ((List UInt8 × List AV) ⊕ (List AV × Bool)) :=
  LoopU tp [0, 4] l40_2 (mkEnv 110 [0, 4] [AV.str a2, AV.sl true 4 a3]) [] (XCod.alt (.exit 0) (XCod.one (.exit 0) 110 [0, 4] (CodL.cons Cod.str (CodL.one (Cod.sl true 4)))) (XCod.one .ret 110 [2, 3] (CodL.cons (Cod.sl false 4) (CodL.one Cod.bool))))
noncomputable def version_pieces_l2_t : LoopT := mkT 2 110 [0, 4] (CodL.cons Cod.str (CodL.one (Cod.sl true 4))) (XCod.alt (.exit 0) (XCod.one (.exit 0) 110 [0, 4] (CodL.cons Cod.str (CodL.one (Cod.sl true 4)))) (XCod.one .ret 110 [2, 3] (CodL.cons (Cod.sl false 4) (CodL.one Cod.bool)))) (fun v => version_pieces_l2 v.1 v.2)
theorem version_pieces_l2_t_ok : version_pieces_l2_t.OkL tp [0, 4] l40_2 := mkT_okL (fun _ => rfl)
noncomputable def version_pieces_k20 (a24 : As) (a25 : Bs) (a26 a27 : Int) : Option (List UInt8 × List AV) :=
  CutU tp [0, 4] k40_20 (mkEnv 110 [4, 8, 9, 10] [AV.sl true 4 a24, AV.str a25, AV.int .i64 a26, AV.int .i64 a27]) [] (XCod.one .normal 110 [0, 4] (CodL.cons Cod.str (CodL.one (Cod.sl true 4))))
noncomputable def version_pieces_k20_t : LoopT := mkT 100020 110 [4, 8, 9, 10] (CodL.cons (Cod.sl true 4) (CodL.cons Cod.str (CodL.cons (Cod.int .i64) (CodL.one (Cod.int .i64))))) (XCod.one .normal 110 [0, 4] (CodL.cons Cod.str (CodL.one (Cod.sl true 4)))) (fun v => version_pieces_k20 v.1 v.2.1 v.2.2.1 v.2.2.2)
theorem version_pieces_k20_t_ok : version_pieces_k20_t.OkC tp [4, 8, 9, 10] [0, 4] k40_20 := mkT_okC (fun _ => rfl)
noncomputable def version_pieces_l12 (a18 : Bs) (a19 : As) : Option ((List UInt8 × List AV) ⊕ (List AV × Bool)) :=
  LoopU tp [0, 4] l40_12 (mkEnv 110 [0, 4] [AV.str a18, AV.sl true 4 a19]) [] (XCod.alt (.exit 2) (XCod.one (.exit 2) 110 [0, 4] (CodL.cons Cod.str (CodL.one (Cod.sl true 4)))) (XCod.one .ret 110 [2, 3] (CodL.cons (Cod.sl false 4) (CodL.one Cod.bool))))
noncomputable def version_pieces_l12_t : LoopT := mkT 12 110 [0, 4] (CodL.cons Cod.str (CodL.one (Cod.sl true 4))) (XCod.alt (.exit 2) (XCod.one (.exit 2) 110 [0, 4] (CodL.cons Cod.str (CodL.one (Cod.sl true 4)))) (XCod.one .ret 110 [2, 3] (CodL.cons (Cod.sl false 4) (CodL.one Cod.bool)))) (fun v => version_pieces_l12 v.1 v.2)
theorem version_pieces_l12_t_ok : version_pieces_l12_t.OkL tp [0, 4] l40_12 := mkT_okL (fun _ => rfl)
noncomputable def version_pieces_k12 (a16 : Bs) (a17 : As) : Option (List AV × Bool) :=
  CutU tp [2, 3] k40_12 (mkEnv 110 [0, 4] [AV.str a16, AV.sl true 4 a17]) [] (XCod.one .ret 110 [2, 3] (CodL.cons (Cod.sl false 4) (CodL.one Cod.bool)))
noncomputable def version_pieces_k12_t : LoopT := mkT 100012 110 [0, 4] (CodL.cons Cod.str (CodL.one (Cod.sl true 4))) (XCod.one .ret 110 [2, 3] (CodL.cons (Cod.sl false 4) (CodL.one Cod.bool))) (fun v => version_pieces_k12 v.1 v.2)
theorem version_pieces_k12_t_ok : version_pieces_k12_t.OkC tp [0, 4] [2, 3] k40_12 := mkT_okC (fun _ => rfl)
noncomputable def version_made_l2 (a3 a4 : Bs) (a5 : Int) : Option (List UInt8 ⊕ Bool) :=
  LoopU tp [0, 1, 5] l80_2 (mkEnv 34 [0, 1, 5] [AV.str a3, AV.str a4, AV.int .i64 a5]) [] (XCod.alt (.exit 0) (XCod.one (.exit 0) 34 [0] (CodL.one Cod.str)) (XCod.one .ret 34 [4] (CodL.one Cod.bool)))
noncomputable def version_made_l2_t : LoopT := mkT 2 34 [0, 1, 5] (CodL.cons Cod.str (CodL.cons Cod.str (CodL.one (Cod.int .i64)))) (XCod.alt (.exit 0) (XCod.one (.exit 0) 34 [0] (CodL.one Cod.str)) (XCod.one .ret 34 [4] (CodL.one Cod.bool))) (fun v => version_made_l2 v.1 v.2.1 v.2.2)
theorem version_made_l2_t_ok : version_made_l2_t.OkL tp [0, 1, 5] l80_2 := mkT_okL (fun _ => rfl)
noncomputable def codec_number_l3 (a3 a4 : Int) (a5 : As) (a6 a7 : Int) : Option (Int ⊕ (Int × Bool)) :=
  LoopU tp [1, 6, 10, 11, 12] l123_3 (mkEnv 33 [1, 6, 10, 11, 12] [AV.int .i64 a3, AV.int .i64 a4, AV.sl true 1 a5, AV.int .i64 a6, AV.int .i64 a7]) [] (XCod.alt (.exit 0) (XCod.one (.exit 0) 33 [6] (CodL.one (Cod.int .i64))) (XCod.one .ret 33 [4, 5] (CodL.cons (Cod.int .i64) (CodL.one Cod.bool))))
noncomputable def codec_number_l3_t : LoopT := mkT 3 33 [1, 6, 10, 11, 12] (CodL.cons (Cod.int .i64) (CodL.cons (Cod.int .i64) (CodL.cons (Cod.sl true 1) (CodL.cons (Cod.int .i64) (CodL.one (Cod.int .i64)))))) (XCod.alt (.exit 0) (XCod.one (.exit 0) 33 [6] (CodL.one (Cod.int .i64))) (XCod.one .ret 33 [4, 5] (CodL.cons (Cod.int .i64) (CodL.one Cod.bool)))) (fun v => codec_number_l3 v.1 v.2.1 v.2.2.1 v.2.2.2.1 v.2.2.2.2)
theorem codec_number_l3_t_ok : codec_number_l3_t.OkL tp [1, 6, 10, 11, 12] l123_3 := mkT_okL (fun _ => rfl)
noncomputable def slices_Index_string_string_l2 (a3 : As) (a4 : Bs) (a5 a6 : Int) : Option (Unit ⊕ Int) :=
  LoopU tp [0, 1, 7, 8] l75_2 (mkEnv 19 [0, 1, 7, 8] [AV.sl false 1 a3, AV.str a4, AV.int .i64 a5, AV.int .i64 a6]) [] (XCod.alt (.exit 0) (XCod.one (.exit 0) 19 [] CodL.nil) (XCod.one .ret 19 [4] (CodL.one (Cod.int .i64))))
noncomputable def slices_Index_string_string_l2_t : LoopT := mkT 2 19 [0, 1, 7, 8] (CodL.cons (Cod.sl false 1) (CodL.cons Cod.str (CodL.cons (Cod.int .i64) (CodL.one (Cod.int .i64))))) (XCod.alt (.exit 0) (XCod.one (.exit 0) 19 [] CodL.nil) (XCod.one .ret 19 [4] (CodL.one (Cod.int .i64)))) (fun v => slices_Index_string_string_l2 v.1 v.2.1 v.2.2.1 v.2.2.2)
theorem slices_Index_string_string_l2_t_ok : slices_Index_string_string_l2_t.OkL tp [0, 1, 7, 8] l75_2 := mkT_okL (fun _ => rfl)
noncomputable def slices_IndexFunc_int_int_f62_l2 (a2 : As) (a3 a4 : Int) : Option (Unit ⊕ Int) :=
  LoopU tp [0, 1, 7, 8] l104_2 (mkEnv 19 [0, 1, 7, 8] [AV.sl false 1 a2, AV.fn 62 [], AV.int .i64 a3, AV.int .i64 a4]) [] (XCod.alt (.exit 0) (XCod.one (.exit 0) 19 [] CodL.nil) (XCod.one .ret 19 [4] (CodL.one (Cod.int .i64))))
noncomputable def slices_IndexFunc_int_int_f62_l2_t : LoopT := mkT 2 19 [0, 1, 7, 8] (CodL.cons (Cod.sl false 1) (CodL.fix (AV.fn 62 []) (CodL.cons (Cod.int .i64) (CodL.one (Cod.int .i64))))) (XCod.alt (.exit 0) (XCod.one (.exit 0) 19 [] CodL.nil) (XCod.one .ret 19 [4] (CodL.one (Cod.int .i64)))) (fun v => slices_IndexFunc_int_int_f62_l2 v.1 v.2.1 v.2.2)
theorem slices_IndexFunc_int_int_f62_l2_t_ok : slices_IndexFunc_int_int_f62_l2_t.OkL tp [0, 1, 7, 8] l104_2 := mkT_okL (fun _ => rfl)
noncomputable def drayageref12_pieces_l2 (a2 : Bs) (a3 : As) : Option ((List UInt8 × List AV) ⊕ (List AV)) :=
  LoopU tp [0, 3] l124_2 (mkEnv 132 [0, 3] [AV.str a2, AV.sl true 3 a3]) [] (XCod.alt (.exit 0) (XCod.one (.exit 0) 132 [0, 3] (CodL.cons Cod.str (CodL.one (Cod.sl true 3)))) (XCod.one .ret 132 [2] (CodL.one (Cod.sl false 3))))
noncomputable def drayageref12_pieces_l2_t : LoopT := mkT 2 132 [0, 3] (CodL.cons Cod.str (CodL.one (Cod.sl true 3))) (XCod.alt (.exit 0) (XCod.one (.exit 0) 132 [0, 3] (CodL.cons Cod.str (CodL.one (Cod.sl true 3)))) (XCod.one .ret 132 [2] (CodL.one (Cod.sl false 3)))) (fun v => drayageref12_pieces_l2 v.1 v.2)
theorem drayageref12_pieces_l2_t_ok : drayageref12_pieces_l2_t.OkL tp [0, 3] l124_2 := mkT_okL (fun _ => rfl)
noncomputable def drayageref12_pieces_l17 (a26 : Bs) (a27 : As) (a28 a29 : Int) (a30 : As) (a31 : Int) : Option (List UInt8 × List AV × Int × Int) :=
  LoopU tp [0, 3, 5, 6, 7, 8] l124_17 (mkEnv 132 [0, 3, 5, 6, 7, 8] [AV.str a26, AV.sl true 3 a27, AV.int .i64 a28, AV.int .i64 a29, AV.sl false 1 a30, AV.int .i64 a31]) [] (XCod.one (.exit 4) 132 [0, 3, 5, 6] (CodL.cons Cod.str (CodL.cons (Cod.sl true 3) (CodL.cons (Cod.int .i64) (CodL.one (Cod.int .i64))))))
noncomputable def drayageref12_pieces_l17_t : LoopT := mkT 17 132 [0, 3, 5, 6, 7, 8] (CodL.cons Cod.str (CodL.cons (Cod.sl true 3) (CodL.cons (Cod.int .i64) (CodL.cons (Cod.int .i64) (CodL.cons (Cod.sl false 1) (CodL.one (Cod.int .i64))))))) (XCod.one (.exit 4) 132 [0, 3, 5, 6] (CodL.cons Cod.str (CodL.cons (Cod.sl true 3) (CodL.cons (Cod.int .i64) (CodL.one (Cod.int .i64)))))) (fun v => drayageref12_pieces_l17 v.1 v.2.1 v.2.2.1 v.2.2.2.1 v.2.2.2.2.1 v.2.2.2.2.2)
theorem drayageref12_pieces_l17_t_ok : drayageref12_pieces_l17_t.OkL tp [0, 3, 5, 6, 7, 8] l124_17 := mkT_okL (fun _ => rfl)
noncomputable def drayageref12_pieces_k26 (a36 : Bs) (a37 : As) (a38 a39 a40 : Int) : Option (List UInt8 × List AV) :=
  CutU tp [0, 3] k124_26 (mkEnv 132 [0, 3, 5, 6, 9] [AV.str a36, AV.sl true 3 a37, AV.int .i64 a38, AV.int .i64 a39, AV.int .i64 a40]) [] (XCod.one .normal 132 [0, 3] (CodL.cons Cod.str (CodL.one (Cod.sl true 3))))
noncomputable def drayageref12_pieces_k26_t : LoopT := mkT 100026 132 [0, 3, 5, 6, 9] (CodL.cons Cod.str (CodL.cons (Cod.sl true 3) (CodL.cons (Cod.int .i64) (CodL.cons (Cod.int .i64) (CodL.one (Cod.int .i64)))))) (XCod.one .normal 132 [0, 3] (CodL.cons Cod.str (CodL.one (Cod.sl true 3)))) (fun v => drayageref12_pieces_k26 v.1 v.2.1 v.2.2.1 v.2.2.2.1 v.2.2.2.2)
theorem drayageref12_pieces_k26_t_ok : drayageref12_pieces_k26_t.OkC tp [0, 3, 5, 6, 9] [0, 3] k124_26 := mkT_okC (fun _ => rfl)
noncomputable def drayageref12_pieces_l12 (a20 : Bs) (a21 : As) : Option ((List UInt8 × List AV) ⊕ (List AV)) :=
  LoopU tp [0, 3] l124_12 (mkEnv 132 [0, 3] [AV.str a20, AV.sl true 3 a21]) [] (XCod.alt (.exit 2) (XCod.one (.exit 2) 132 [0, 3] (CodL.cons Cod.str (CodL.one (Cod.sl true 3)))) (XCod.one .ret 132 [2] (CodL.one (Cod.sl false 3))))
noncomputable def drayageref12_pieces_l12_t : LoopT := mkT 12 132 [0, 3] (CodL.cons Cod.str (CodL.one (Cod.sl true 3))) (XCod.alt (.exit 2) (XCod.one (.exit 2) 132 [0, 3] (CodL.cons Cod.str (CodL.one (Cod.sl true 3)))) (XCod.one .ret 132 [2] (CodL.one (Cod.sl false 3)))) (fun v => drayageref12_pieces_l12 v.1 v.2)
theorem drayageref12_pieces_l12_t_ok : drayageref12_pieces_l12_t.OkL tp [0, 3] l124_12 := mkT_okL (fun _ => rfl)
noncomputable def drayageref12_pieces_k12 (a18 : Bs) (a19 : As) : Option (List AV) :=
  CutU tp [2] k124_12 (mkEnv 132 [0, 3] [AV.str a18, AV.sl true 3 a19]) [] (XCod.one .ret 132 [2] (CodL.one (Cod.sl false 3)))
noncomputable def drayageref12_pieces_k12_t : LoopT := mkT 100012 132 [0, 3] (CodL.cons Cod.str (CodL.one (Cod.sl true 3))) (XCod.one .ret 132 [2] (CodL.one (Cod.sl false 3))) (fun v => drayageref12_pieces_k12 v.1 v.2)
theorem drayageref12_pieces_k12_t_ok : drayageref12_pieces_k12_t.OkC tp [0, 3] [2] k124_12 := mkT_okC (fun _ => rfl)
noncomputable def drayageref12_place_l2 (a3 : Bs) (a4 a5 : Int) : Option (Unit ⊕ Int) :=
  LoopU tp [0, 1, 5] l125_2 (mkEnv 19 [0, 1, 5] [AV.str a3, AV.int .u8 a4, AV.int .i64 a5]) [] (XCod.alt (.exit 0) (XCod.one (.exit 0) 19 [] CodL.nil) (XCod.one .ret 19 [4] (CodL.one (Cod.int .i64))))
noncomputable def drayageref12_place_l2_t : LoopT := mkT 2 19 [0, 1, 5] (CodL.cons Cod.str (CodL.cons (Cod.int .u8) (CodL.one (Cod.int .i64)))) (XCod.alt (.exit 0) (XCod.one (.exit 0) 19 [] CodL.nil) (XCod.one .ret 19 [4] (CodL.one (Cod.int .i64)))) (fun v => drayageref12_place_l2 v.1 v.2.1 v.2.2)
theorem drayageref12_place_l2_t_ok : drayageref12_place_l2_t.OkL tp [0, 1, 5] l125_2 := mkT_okL (fun _ => rfl)
noncomputable def drayageref12_made_l2 (a3 a4 : Bs) (a5 : Int) : Option (List UInt8 ⊕ Bool) :=
  LoopU tp [0, 1, 5] l126_2 (mkEnv 35 [0, 1, 5] [AV.str a3, AV.str a4, AV.int .i64 a5]) [] (XCod.alt (.exit 0) (XCod.one (.exit 0) 35 [0] (CodL.one Cod.str)) (XCod.one .ret 35 [4] (CodL.one Cod.bool)))
noncomputable def drayageref12_made_l2_t : LoopT := mkT 2 35 [0, 1, 5] (CodL.cons Cod.str (CodL.cons Cod.str (CodL.one (Cod.int .i64)))) (XCod.alt (.exit 0) (XCod.one (.exit 0) 35 [0] (CodL.one Cod.str)) (XCod.one .ret 35 [4] (CodL.one Cod.bool))) (fun v => drayageref12_made_l2 v.1 v.2.1 v.2.2)
theorem drayageref12_made_l2_t_ok : drayageref12_made_l2_t.OkL tp [0, 1, 5] l126_2 := mkT_okL (fun _ => rfl)
noncomputable def drayageref01_number_l3 (a3 : Bs) (a4 a5 a6 : Int) (a7 : As) (a8 a9 : Int) : Option ((Int × (List AV × Int × Int)) ⊕ ((List AV × Int × Int))) :=
  LoopU tp [0, 1, 4, 5, 6] l128_3 (mkEnv 39 [0, 1, 4, 5, 6] [AV.str a3, AV.int .i64 a4, AV.ptr 0 0, AV.int .i64 a5, AV.int .i64 a6]) [[AV.sl false 1 a7, AV.int .i64 a8, AV.int .i64 a9]] (XCod.alt (.exit 0) (XCod.one (.exit 0) 39 [4, 5] (CodL.fix (AV.ptr 0 0) (CodL.cons (Cod.int .i64) (CodL.one q10)))) (XCod.one .ret 39 [4] (CodL.fix (AV.ptr 0 0) (CodL.one q10))))
noncomputable def drayageref01_number_l3_t : LoopT := mkT 3 39 [0, 1, 4, 5, 6] (CodL.cons Cod.str (CodL.cons (Cod.int .i64) (CodL.fix (AV.ptr 0 0) (CodL.cons (Cod.int .i64) (CodL.cons (Cod.int .i64) (CodL.one q10)))))) (XCod.alt (.exit 0) (XCod.one (.exit 0) 39 [4, 5] (CodL.fix (AV.ptr 0 0) (CodL.cons (Cod.int .i64) (CodL.one q10)))) (XCod.one .ret 39 [4] (CodL.fix (AV.ptr 0 0) (CodL.one q10)))) (fun v => drayageref01_number_l3 v.1 v.2.1 v.2.2.1 v.2.2.2.1 v.2.2.2.2.1 v.2.2.2.2.2.1 v.2.2.2.2.2.2)
theorem drayageref01_number_l3_t_ok : drayageref01_number_l3_t.OkL tp [0, 1, 4, 5, 6] l128_3 := mkT_okL (fun _ => rfl)
noncomputable def version_number_l2 (a2 : Bs) (a3 : Int) : Option (List UInt8 × Int) :=
  LoopU tp [0, 4] l82_2 (mkEnv 23 [0, 4] [AV.str a2, AV.int .i64 a3]) [] (XCod.one (.exit 0) 23 [0, 4] (CodL.cons Cod.str (CodL.one (Cod.int .i64))))
noncomputable def version_number_l2_t : LoopT := mkT 2 23 [0, 4] (CodL.cons Cod.str (CodL.one (Cod.int .i64))) (XCod.one (.exit 0) 23 [0, 4] (CodL.cons Cod.str (CodL.one (Cod.int .i64)))) (fun v => version_number_l2 v.1 v.2)
theorem version_number_l2_t_ok : version_number_l2_t.OkL tp [0, 4] l82_2 := mkT_okL (fun _ => rfl)
noncomputable def version_word_l2 (a2 : Bs) (a3 : Int) : Option (List UInt8 × Int) :=
  LoopU tp [0, 4] l84_2 (mkEnv 23 [0, 4] [AV.str a2, AV.int .i64 a3]) [] (XCod.one (.exit 0) 23 [0, 4] (CodL.cons Cod.str (CodL.one (Cod.int .i64))))
noncomputable def version_word_l2_t : LoopT := mkT 2 23 [0, 4] (CodL.cons Cod.str (CodL.one (Cod.int .i64))) (XCod.one (.exit 0) 23 [0, 4] (CodL.cons Cod.str (CodL.one (Cod.int .i64)))) (fun v => version_word_l2 v.1 v.2)
theorem version_word_l2_t_ok : version_word_l2_t.OkL tp [0, 4] l84_2 := mkT_okL (fun _ => rfl)
noncomputable def i_bytealg_LastIndexByteString_l2 (a3 : Bs) (a4 a5 : Int) : Option (Unit ⊕ Int) :=
  LoopU tp [0, 1, 5] l113_2 (mkEnv 19 [0, 1, 5] [AV.str a3, AV.int .u8 a4, AV.int .i64 a5]) [] (XCod.alt (.exit 0) (XCod.one (.exit 0) 19 [] CodL.nil) (XCod.one .ret 19 [4] (CodL.one (Cod.int .i64))))
noncomputable def i_bytealg_LastIndexByteString_l2_t : LoopT := mkT 2 19 [0, 1, 5] (CodL.cons Cod.str (CodL.cons (Cod.int .u8) (CodL.one (Cod.int .i64)))) (XCod.alt (.exit 0) (XCod.one (.exit 0) 19 [] CodL.nil) (XCod.one .ret 19 [4] (CodL.one (Cod.int .i64)))) (fun v => i_bytealg_LastIndexByteString_l2 v.1 v.2.1 v.2.2)
theorem i_bytealg_LastIndexByteString_l2_t_ok : i_bytealg_LastIndexByteString_l2_t.OkL tp [0, 1, 5] l113_2 := mkT_okL (fun _ => rfl)
noncomputable def i_bytealg_LastIndexRabinKarp_string_l6 (a4 a5 : Bs) (a6 a7 a8 a9 a10 a11 : Int) : Option (List UInt8 × List UInt8 × Int × Int × Int × Int × Int) :=
  LoopU tp [0, 1, 5, 6, 7, 8, 9, 10] l114_6 (mkEnv 87 [0, 1, 5, 6, 7, 8, 9, 10] [AV.str a4, AV.str a5, AV.int .u32 a6, AV.int .u32 a7, AV.int .i64 a8, AV.int .i64 a9, AV.int .u32 a10, AV.int .i64 a11]) [] (XCod.one (.exit 0) 87 [0, 1, 5, 6, 7, 8, 9] (CodL.cons Cod.str (CodL.cons Cod.str (CodL.cons (Cod.int .u32) (CodL.cons (Cod.int .u32) (CodL.cons (Cod.int .i64) (CodL.cons (Cod.int .i64) (CodL.one (Cod.int .u32)))))))))
noncomputable def i_bytealg_LastIndexRabinKarp_string_l6_t : LoopT := mkT 6 87 [0, 1, 5, 6, 7, 8, 9, 10] (CodL.cons Cod.str (CodL.cons Cod.str (CodL.cons (Cod.int .u32) (CodL.cons (Cod.int .u32) (CodL.cons (Cod.int .i64) (CodL.cons (Cod.int .i64) (CodL.cons (Cod.int .u32) (CodL.one (Cod.int .i64))))))))) (XCod.one (.exit 0) 87 [0, 1, 5, 6, 7, 8, 9] (CodL.cons Cod.str (CodL.cons Cod.str (CodL.cons (Cod.int .u32) (CodL.cons (Cod.int .u32) (CodL.cons (Cod.int .i64) (CodL.cons (Cod.int .i64) (CodL.one (Cod.int .u32))))))))) (fun v => i_bytealg_LastIndexRabinKarp_string_l6 v.1 v.2.1 v.2.2.1 v.2.2.2.1 v.2.2.2.2.1 v.2.2.2.2.2.1 v.2.2.2.2.2.2.1 v.2.2.2.2.2.2.2)
theorem i_bytealg_LastIndexRabinKarp_string_l6_t_ok : i_bytealg_LastIndexRabinKarp_string_l6_t.OkL tp [0, 1, 5, 6, 7, 8, 9, 10] l114_6 := mkT_okL (fun _ => rfl)
noncomputable def i_bytealg_LastIndexRabinKarp_string_l12 (a16 a17 : Bs) (a18 a19 a20 a21 a22 : Int) : Option (Unit ⊕ Int) :=
  LoopU tp [0, 1, 5, 6, 7, 9, 11] l114_12 (mkEnv 87 [0, 1, 5, 6, 7, 9, 11] [AV.str a16, AV.str a17, AV.int .u32 a18, AV.int .u32 a19, AV.int .i64 a20, AV.int .u32 a21, AV.int .i64 a22]) [] (XCod.alt (.exit 2) (XCod.one (.exit 2) 87 [] CodL.nil) (XCod.one .ret 87 [4] (CodL.one (Cod.int .i64))))
noncomputable def i_bytealg_LastIndexRabinKarp_string_l12_t : LoopT := mkT 12 87 [0, 1, 5, 6, 7, 9, 11] (CodL.cons Cod.str (CodL.cons Cod.str (CodL.cons (Cod.int .u32) (CodL.cons (Cod.int .u32) (CodL.cons (Cod.int .i64) (CodL.cons (Cod.int .u32) (CodL.one (Cod.int .i64)))))))) (XCod.alt (.exit 2) (XCod.one (.exit 2) 87 [] CodL.nil) (XCod.one .ret 87 [4] (CodL.one (Cod.int .i64)))) (fun v => i_bytealg_LastIndexRabinKarp_string_l12 v.1 v.2.1 v.2.2.1 v.2.2.2.1 v.2.2.2.2.1 v.2.2.2.2.2.1 v.2.2.2.2.2.2)
theorem i_bytealg_LastIndexRabinKarp_string_l12_t_ok : i_bytealg_LastIndexRabinKarp_string_l12_t.OkL tp [0, 1, 5, 6, 7, 9, 11] l114_12 := mkT_okL (fun _ => rfl)
noncomputable def drayageref12_letters_l2 (a2 : Bs) (a3 : Int) : Option Int :=
  LoopU tp [0, 3] l145_2 (mkEnv 17 [0, 3] [AV.str a2, AV.int .i64 a3]) [] (XCod.one (.exit 0) 17 [3] (CodL.one (Cod.int .i64)))
noncomputable def drayageref12_letters_l2_t : LoopT := mkT 2 17 [0, 3] (CodL.cons Cod.str (CodL.one (Cod.int .i64))) (XCod.one (.exit 0) 17 [3] (CodL.one (Cod.int .i64))) (fun v => drayageref12_letters_l2 v.1 v.2)
theorem drayageref12_letters_l2_t_ok : drayageref12_letters_l2_t.OkL tp [0, 3] l145_2 := mkT_okL (fun _ => rfl)
noncomputable def drayageref12_in_l2 (a3 : Int) (a4 : Bs) (a5 : Int) : Option (Unit ⊕ Bool) :=
  LoopU tp [0, 1, 5] l148_2 (mkEnv 17 [0, 1, 5] [AV.int .u8 a3, AV.str a4, AV.int .i64 a5]) [] (XCod.alt (.exit 0) (XCod.one (.exit 0) 17 [] CodL.nil) (XCod.one .ret 17 [4] (CodL.one Cod.bool)))
noncomputable def drayageref12_in_l2_t : LoopT := mkT 2 17 [0, 1, 5] (CodL.cons (Cod.int .u8) (CodL.cons Cod.str (CodL.one (Cod.int .i64)))) (XCod.alt (.exit 0) (XCod.one (.exit 0) 17 [] CodL.nil) (XCod.one .ret 17 [4] (CodL.one Cod.bool))) (fun v => drayageref12_in_l2 v.1 v.2.1 v.2.2)
theorem drayageref12_in_l2_t_ok : drayageref12_in_l2_t.OkL tp [0, 1, 5] l148_2 := mkT_okL (fun _ => rfl)
noncomputable def i_bytealg_hashStrRev_string_l3 (a2 : Bs) (a3 a4 : Int) : Option (List UInt8 × Int) :=
  LoopU tp [0, 4, 5] l137_3 (mkEnv 40 [0, 4, 5] [AV.str a2, AV.int .u32 a3, AV.int .i64 a4]) [] (XCod.one (.exit 0) 40 [0, 4] (CodL.cons Cod.str (CodL.one (Cod.int .u32))))
noncomputable def i_bytealg_hashStrRev_string_l3_t : LoopT := mkT 3 40 [0, 4, 5] (CodL.cons Cod.str (CodL.cons (Cod.int .u32) (CodL.one (Cod.int .i64)))) (XCod.one (.exit 0) 40 [0, 4] (CodL.cons Cod.str (CodL.one (Cod.int .u32)))) (fun v => i_bytealg_hashStrRev_string_l3 v.1 v.2.1 v.2.2)
theorem i_bytealg_hashStrRev_string_l3_t_ok : i_bytealg_hashStrRev_string_l3_t.OkL tp [0, 4, 5] l137_3 := mkT_okL (fun _ => rfl)
noncomputable def i_bytealg_hashStrRev_string_l8 (a7 a8 a9 a10 : Int) : Option (Int × Int) :=
  LoopU tp [4, 6, 7, 8] l137_8 (mkEnv 40 [4, 6, 7, 8] [AV.int .u32 a7, AV.int .u32 a8, AV.int .u32 a9, AV.int .i64 a10]) [] (XCod.one (.exit 2) 40 [4, 6] (CodL.cons (Cod.int .u32) (CodL.one (Cod.int .u32))))
noncomputable def i_bytealg_hashStrRev_string_l8_t : LoopT := mkT 8 40 [4, 6, 7, 8] (CodL.cons (Cod.int .u32) (CodL.cons (Cod.int .u32) (CodL.cons (Cod.int .u32) (CodL.one (Cod.int .i64))))) (XCod.one (.exit 2) 40 [4, 6] (CodL.cons (Cod.int .u32) (CodL.one (Cod.int .u32)))) (fun v => i_bytealg_hashStrRev_string_l8 v.1 v.2.1 v.2.2.1 v.2.2.2)
theorem i_bytealg_hashStrRev_string_l8_t_ok : i_bytealg_hashStrRev_string_l8_t.OkL tp [4, 6, 7, 8] l137_8 := mkT_okL (fun _ => rfl)
noncomputable def h5 : CallT := ⟨5, true, fun ds mem _ K => match ds with
  | [AV.int .i64 a0, AV.int .i64 a1, AV.str a2] => (drayagelaw13_VmapTranslates a0 a1 a2).bind fun r => K (Cod.bool.enc r) mem
  | _ => none⟩
theorem h5_ok : h5.Ok tp := by
  intro ds mem R K r h
  simp only [h5] at h
  split at h
  · exact pureT_ok tp_ren rfl rfl rfl h
  · cases h
noncomputable def h6 : CallT := ⟨6, true, fun ds mem _ K => match ds with
  | [AV.int .i64 a0, AV.int .i64 a1, AV.int .i64 a2, AV.str a3] => (drayagelaw13_VmapBack a0 a1 a2 a3).bind fun r => K (Cod.bool.enc r) mem
  | _ => none⟩
theorem h6_ok : h6.Ok tp := by
  intro ds mem R K r h
  simp only [h6] at h
  split at h
  · exact pureT_ok tp_ren rfl rfl rfl h
  · cases h
noncomputable def h13 : CallT := ⟨13, true, fun ds mem _ K => match ds with
  | [AV.int .i64 a0, AV.str a1] => (version_Check a0 a1).bind fun r => K ((Cod.int .i64).enc r) mem
  | _ => none⟩
theorem h13_ok : h13.Ok tp := by
  intro ds mem R K r h
  simp only [h13] at h
  split at h
  · exact pureT_ok tp_ren rfl rfl rfl h
  · cases h
noncomputable def h15 : CallT := ⟨15, true, fun ds mem _ K => match ds with
  | [] => (drayagelaw13_awake).bind fun r => K (Cod.bool.enc r) mem
  | _ => none⟩
theorem h15_ok : h15.Ok tp := by
  intro ds mem R K r h
  simp only [h15] at h
  split at h
  · exact pureT_ok tp_ren rfl rfl rfl h
  · cases h
noncomputable def h17 : CallT := ⟨17, true, fun ds mem _ K => match ds with
  | [AV.int .i64 a0, AV.agg [AV.int .i64 a1, AV.sl false 1 a2, AV.str a3, AV.str a4, AV.int .i64 a5, AV.int .i64 a6]] => (vmap_Print a0 a1 a2 a3 a4 a5 a6).bind fun r => K (q0.enc r) mem
  | _ => none⟩
theorem h17_ok : h17.Ok tp := by
  intro ds mem R K r h
  simp only [h17] at h
  split at h
  · exact pureT_ok tp_ren rfl rfl rfl h
  · cases h
noncomputable def h18 : CallT := ⟨18, true, fun ds mem _ K => match ds with
  | [AV.int .i64 a0, AV.agg [AV.int .i64 a1, AV.sl false 1 a2, AV.str a3, AV.str a4, AV.int .i64 a5, AV.int .i64 a6]] => (drayageref13_Print a0 a1 a2 a3 a4 a5 a6).bind fun r => K (q0.enc r) mem
  | _ => none⟩
theorem h18_ok : h18.Ok tp := by
  intro ds mem R K r h
  simp only [h18] at h
  split at h
  · exact pureT_ok tp_ren rfl rfl rfl h
  · cases h
noncomputable def h19 : CallT := ⟨19, true, fun ds mem _ K => match ds with
  | [AV.int .i64 a0, AV.str a1] => (vmap_Parse a0 a1).bind fun r => K (q2.enc r) mem
  | _ => none⟩
theorem h19_ok : h19.Ok tp := by
  intro ds mem R K r h
  simp only [h19] at h
  split at h
  · exact pureT_ok tp_ren rfl rfl rfl h
  · cases h
noncomputable def h20 : CallT := ⟨20, true, fun ds mem _ K => match ds with
  | [AV.int .i64 a0, AV.str a1] => (drayageref13_Parse a0 a1).bind fun r => K (q2.enc r) mem
  | _ => none⟩
theorem h20_ok : h20.Ok tp := by
  intro ds mem R K r h
  simp only [h20] at h
  split at h
  · exact pureT_ok tp_ren rfl rfl rfl h
  · cases h
noncomputable def h22 : CallT := ⟨22, true, fun ds mem _ K => match ds with
  | [AV.agg [AV.int .i64 a0, AV.sl false 1 a1, AV.str a2, AV.str a3, AV.int .i64 a4, AV.int .i64 a5]] => (vmap_Check a0 a1 a2 a3 a4 a5).bind fun r => K ((Cod.int .i64).enc r) mem
  | _ => none⟩
theorem h22_ok : h22.Ok tp := by
  intro ds mem R K r h
  simp only [h22] at h
  split at h
  · exact pureT_ok tp_ren rfl rfl rfl h
  · cases h
noncomputable def h23 : CallT := ⟨23, true, fun ds mem _ K => match ds with
  | [AV.agg [AV.int .i64 a0, AV.sl false 1 a1, AV.str a2, AV.str a3, AV.int .i64 a4, AV.int .i64 a5]] => (drayageref13_Check a0 a1 a2 a3 a4 a5).bind fun r => K ((Cod.int .i64).enc r) mem
  | _ => none⟩
theorem h23_ok : h23.Ok tp := by
  intro ds mem R K r h
  simp only [h23] at h
  split at h
  · exact pureT_ok tp_ren rfl rfl rfl h
  · cases h
noncomputable def h24 : CallT := ⟨24, true, fun ds mem _ K => match ds with
  | [AV.int .i64 a0, AV.int .i64 a1, AV.str a2] => (vmap_Translate a0 a1 a2).bind fun r => K (q0.enc r) mem
  | _ => none⟩
theorem h24_ok : h24.Ok tp := by
  intro ds mem R K r h
  simp only [h24] at h
  split at h
  · exact pureT_ok tp_ren rfl rfl rfl h
  · cases h
noncomputable def h25 : CallT := ⟨25, true, fun ds mem _ K => match ds with
  | [AV.int .i64 a0, AV.int .i64 a1, AV.str a2] => (drayageref13_Translate a0 a1 a2).bind fun r => K (q0.enc r) mem
  | _ => none⟩
theorem h25_ok : h25.Ok tp := by
  intro ds mem R K r h
  simp only [h25] at h
  split at h
  · exact pureT_ok tp_ren rfl rfl rfl h
  · cases h
noncomputable def h39 : CallT := ⟨39, true, fun ds mem _ K => match ds with
  | [AV.int .i64 a0, AV.str a1] => (version_part a0 a1).bind fun r => K (q8.enc r) mem
  | _ => none⟩
theorem h39_ok : h39.Ok tp := by
  intro ds mem R K r h
  simp only [h39] at h
  split at h
  · exact pureT_ok tp_ren rfl rfl rfl h
  · cases h
noncomputable def h40 : CallT := ⟨40, true, fun ds mem _ K => match ds with
  | [AV.str a0] => (version_pieces a0).bind fun r => K (q11.enc r) mem
  | _ => none⟩
theorem h40_ok : h40.Ok tp := by
  intro ds mem R K r h
  simp only [h40] at h
  split at h
  · exact pureT_ok tp_ren rfl rfl rfl h
  · cases h
noncomputable def h47 : CallT := ⟨47, true, fun ds mem _ K => match ds with
  | [AV.int .i64 a0] => (vmap_known a0).bind fun r => K (Cod.bool.enc r) mem
  | _ => none⟩
theorem h47_ok : h47.Ok tp := by
  intro ds mem R K r h
  simp only [h47] at h
  split at h
  · exact pureT_ok tp_ren rfl rfl rfl h
  · cases h
noncomputable def h48 : CallT := ⟨48, true, fun ds mem _ K => match ds with
  | [AV.int .i64 a0, AV.agg [AV.int .i64 a1, AV.sl false 1 a2, AV.str a3, AV.str a4, AV.int .i64 a5, AV.int .i64 a6]] => (vmap_text a0 a1 a2 a3 a4 a5 a6).bind fun r => K (Cod.str.enc r) mem
  | _ => none⟩
theorem h48_ok : h48.Ok tp := by
  intro ds mem R K r h
  simp only [h48] at h
  split at h
  · exact pureT_ok tp_ren rfl rfl rfl h
  · cases h
noncomputable def h49 : CallT := ⟨49, true, fun ds mem _ K => match ds with
  | [AV.int .i64 a0, AV.agg [AV.int .i64 a1, AV.sl false 1 a2, AV.str a3, AV.str a4, AV.int .i64 a5, AV.int .i64 a6]] => (drayageref13_text a0 a1 a2 a3 a4 a5 a6).bind fun r => K (Cod.str.enc r) mem
  | _ => none⟩
theorem h49_ok : h49.Ok tp := by
  intro ds mem R K r h
  simp only [h49] at h
  split at h
  · exact pureT_ok tp_ren rfl rfl rfl h
  · cases h
noncomputable def h50 : CallT := ⟨50, true, fun ds mem _ K => match ds with
  | [AV.str a0, AV.str a1] => (strings_Cut a0 a1).bind fun r => K (q3.enc r) mem
  | _ => none⟩
theorem h50_ok : h50.Ok tp := by
  intro ds mem R K r h
  simp only [h50] at h
  split at h
  · exact pureT_ok tp_ren rfl rfl rfl h
  · cases h
noncomputable def h51 : CallT := ⟨51, true, fun ds mem _ K => match ds with
  | [AV.str a0] => (vmap_take a0).bind fun r => K (q4.enc r) mem
  | _ => none⟩
theorem h51_ok : h51.Ok tp := by
  intro ds mem R K r h
  simp only [h51] at h
  split at h
  · exact pureT_ok tp_ren rfl rfl rfl h
  · cases h
noncomputable def h52 : CallT := ⟨52, true, fun ds mem _ K => match ds with
  | [AV.str a0, AV.str a1] => (strings_HasPrefix a0 a1).bind fun r => K (Cod.bool.enc r) mem
  | _ => none⟩
theorem h52_ok : h52.Ok tp := by
  intro ds mem R K r h
  simp only [h52] at h
  split at h
  · exact pureT_ok tp_ren rfl rfl rfl h
  · cases h
noncomputable def h53 : CallT := ⟨53, true, fun ds mem _ K => match ds with
  | [] => (vmap_pres).bind fun r => K ((Cod.sl false 1).enc r) mem
  | _ => none⟩
theorem h53_ok : h53.Ok tp := by
  intro ds mem R K r h
  simp only [h53] at h
  split at h
  · exact pureT_ok tp_ren rfl rfl rfl h
  · cases h
noncomputable def h54 : CallT := ⟨54, true, fun ds mem _ K => match ds with
  | [AV.str a0, AV.str a1] => (strings_CutPrefix a0 a1).bind fun r => K (q5.enc r) mem
  | _ => none⟩
theorem h54_ok : h54.Ok tp := by
  intro ds mem R K r h
  simp only [h54] at h
  split at h
  · exact pureT_ok tp_ren rfl rfl rfl h
  · cases h
noncomputable def h55 : CallT := ⟨55, true, fun ds mem _ K => match ds with
  | [AV.str a0, AV.str a1] => (strings_TrimPrefix a0 a1).bind fun r => K (Cod.str.enc r) mem
  | _ => none⟩
theorem h55_ok : h55.Ok tp := by
  intro ds mem R K r h
  simp only [h55] at h
  split at h
  · exact pureT_ok tp_ren rfl rfl rfl h
  · cases h
noncomputable def h56 : CallT := ⟨56, true, fun ds mem _ K => match ds with
  | [AV.int .i64 a0, AV.str a1] => (drayageref12_Check a0 a1).bind fun r => K ((Cod.int .i64).enc r) mem
  | _ => none⟩
theorem h56_ok : h56.Ok tp := by
  intro ds mem R K r h
  simp only [h56] at h
  split at h
  · exact pureT_ok tp_ren rfl rfl rfl h
  · cases h
noncomputable def h57 : CallT := ⟨57, true, fun ds mem _ K => match ds with
  | [AV.str a0] => (drayageref13_take a0).bind fun r => K (q6.enc r) mem
  | _ => none⟩
theorem h57_ok : h57.Ok tp := by
  intro ds mem R K r h
  simp only [h57] at h
  split at h
  · exact pureT_ok tp_ren rfl rfl rfl h
  · cases h
noncomputable def h58 : CallT := ⟨58, true, fun ds mem _ K => match ds with
  | [AV.str a0, AV.str a1] => (drayageref13_begins a0 a1).bind fun r => K (Cod.bool.enc r) mem
  | _ => none⟩
theorem h58_ok : h58.Ok tp := by
  intro ds mem R K r h
  simp only [h58] at h
  split at h
  · exact pureT_ok tp_ren rfl rfl rfl h
  · cases h
noncomputable def h59 : CallT := ⟨59, true, fun ds mem _ K => match ds with
  | [AV.int .i64 a0] => (drayageref13_word a0).bind fun r => K (Cod.str.enc r) mem
  | _ => none⟩
theorem h59_ok : h59.Ok tp := by
  intro ds mem R K r h
  simp only [h59] at h
  split at h
  · exact pureT_ok tp_ren rfl rfl rfl h
  · cases h
noncomputable def h60 : CallT := ⟨60, true, fun ds mem _ K => match ds with
  | [AV.sl false 1 a0, AV.str a1] => (slices_Contains_string_string a0 a1).bind fun r => K (Cod.bool.enc r) mem
  | _ => none⟩
theorem h60_ok : h60.Ok tp := by
  intro ds mem R K r h
  simp only [h60] at h
  split at h
  · exact pureT_ok tp_ren rfl rfl rfl h
  · cases h
noncomputable def h61 : CallT := ⟨61, true, fun ds mem _ K => match ds with
  | [AV.sl false 1 a0, AV.fn 62 []] => (slices_ContainsFunc_int_int_f62 a0).bind fun r => K (Cod.bool.enc r) mem
  | _ => none⟩
theorem h61_ok : h61.Ok tp := by
  intro ds mem R K r h
  simp only [h61] at h
  split at h
  · exact pureT_ok tp_ren rfl rfl rfl h
  · cases h
noncomputable def h62 : CallT := ⟨62, true, fun ds mem _ K => match ds with
  | [AV.int .i64 a0] => (vmap_Check_1 a0).bind fun r => K (Cod.bool.enc r) mem
  | _ => none⟩
theorem h62_ok : h62.Ok tp := by
  intro ds mem R K r h
  simp only [h62] at h
  split at h
  · exact pureT_ok tp_ren rfl rfl rfl h
  · cases h
noncomputable def h63 : CallT := ⟨63, true, fun ds mem _ K => match ds with
  | [AV.int .i64 a0] => (vmap_within a0).bind fun r => K (Cod.bool.enc r) mem
  | _ => none⟩
theorem h63_ok : h63.Ok tp := by
  intro ds mem R K r h
  simp only [h63] at h
  split at h
  · exact pureT_ok tp_ren rfl rfl rfl h
  · cases h
noncomputable def h64 : CallT := ⟨64, true, fun ds mem _ K => match ds with
  | [AV.int .i64 a0] => (drayageref13_number a0).bind fun r => K (Cod.bool.enc r) mem
  | _ => none⟩
theorem h64_ok : h64.Ok tp := by
  intro ds mem R K r h
  simp only [h64] at h
  split at h
  · exact pureT_ok tp_ren rfl rfl rfl h
  · cases h
noncomputable def h65 : CallT := ⟨65, true, fun ds mem _ K => match ds with
  | [AV.str a0] => (drayageref13_Rank a0).bind fun r => K ((Cod.int .i64).enc r) mem
  | _ => none⟩
theorem h65_ok : h65.Ok tp := by
  intro ds mem R K r h
  simp only [h65] at h
  split at h
  · exact pureT_ok tp_ren rfl rfl rfl h
  · cases h
noncomputable def h69 : CallT := ⟨69, true, fun ds mem _ K => match ds with
  | [AV.str a0, AV.int .u8 a1] => (strings_IndexByte a0 a1).bind fun r => K ((Cod.int .i64).enc r) mem
  | _ => none⟩
theorem h69_ok : h69.Ok tp := by
  intro ds mem R K r h
  simp only [h69] at h
  split at h
  · exact pureT_ok tp_ren rfl rfl rfl h
  · cases h
noncomputable def h75 : CallT := ⟨75, true, fun ds mem _ K => match ds with
  | [AV.sl false 1 a0, AV.str a1] => (slices_Index_string_string a0 a1).bind fun r => K ((Cod.int .i64).enc r) mem
  | _ => none⟩
theorem h75_ok : h75.Ok tp := by
  intro ds mem R K r h
  simp only [h75] at h
  split at h
  · exact pureT_ok tp_ren rfl rfl rfl h
  · cases h
noncomputable def h77 : CallT := ⟨77, true, fun ds mem _ K => match ds with
  | [AV.str a0, AV.str a1] => (strings_LastIndex a0 a1).bind fun r => K ((Cod.int .i64).enc r) mem
  | _ => none⟩
theorem h77_ok : h77.Ok tp := by
  intro ds mem R K r h
  simp only [h77] at h
  split at h
  · exact pureT_ok tp_ren rfl rfl rfl h
  · cases h
noncomputable def h78 : CallT := ⟨78, true, fun ds mem _ K => match ds with
  | [AV.str a0] => (version_epochs a0).bind fun r => K (q3.enc r) mem
  | _ => none⟩
theorem h78_ok : h78.Ok tp := by
  intro ds mem R K r h
  simp only [h78] at h
  split at h
  · exact pureT_ok tp_ren rfl rfl rfl h
  · cases h
noncomputable def h79 : CallT := ⟨79, true, fun ds mem _ K => match ds with
  | [AV.str a0, AV.int .u8 a1] => (strings_LastIndexByte a0 a1).bind fun r => K ((Cod.int .i64).enc r) mem
  | _ => none⟩
theorem h79_ok : h79.Ok tp := by
  intro ds mem R K r h
  simp only [h79] at h
  split at h
  · exact pureT_ok tp_ren rfl rfl rfl h
  · cases h
noncomputable def h80 : CallT := ⟨80, true, fun ds mem _ K => match ds with
  | [AV.str a0, AV.str a1] => (version_made a0 a1).bind fun r => K (Cod.bool.enc r) mem
  | _ => none⟩
theorem h80_ok : h80.Ok tp := by
  intro ds mem R K r h
  simp only [h80] at h
  split at h
  · exact pureT_ok tp_ren rfl rfl rfl h
  · cases h
noncomputable def h81 : CallT := ⟨81, true, fun ds mem _ K => match ds with
  | [AV.int .u8 a0] => (version_digit a0).bind fun r => K (Cod.bool.enc r) mem
  | _ => none⟩
theorem h81_ok : h81.Ok tp := by
  intro ds mem R K r h
  simp only [h81] at h
  split at h
  · exact pureT_ok tp_ren rfl rfl rfl h
  · cases h
noncomputable def h82 : CallT := ⟨82, true, fun ds mem _ K => match ds with
  | [AV.str a0] => (version_number a0).bind fun r => K (q13.enc r) mem
  | _ => none⟩
theorem h82_ok : h82.Ok tp := by
  intro ds mem R K r h
  simp only [h82] at h
  split at h
  · exact pureT_ok tp_ren rfl rfl rfl h
  · cases h
noncomputable def h83 : CallT := ⟨83, true, fun ds mem _ K => match ds with
  | [AV.str a0, AV.int .u8 a1] => (version_begins a0 a1).bind fun r => K (Cod.bool.enc r) mem
  | _ => none⟩
theorem h83_ok : h83.Ok tp := by
  intro ds mem R K r h
  simp only [h83] at h
  split at h
  · exact pureT_ok tp_ren rfl rfl rfl h
  · cases h
noncomputable def h84 : CallT := ⟨84, true, fun ds mem _ K => match ds with
  | [AV.str a0] => (version_word a0).bind fun r => K (q13.enc r) mem
  | _ => none⟩
theorem h84_ok : h84.Ok tp := by
  intro ds mem R K r h
  simp only [h84] at h
  split at h
  · exact pureT_ok tp_ren rfl rfl rfl h
  · cases h
noncomputable def h92 : CallT := ⟨92, true, fun ds mem _ K => match ds with
  | [AV.int .i64 a0] => (codec_Dec a0).bind fun r => K (Cod.str.enc r) mem
  | _ => none⟩
theorem h92_ok : h92.Ok tp := by
  intro ds mem R K r h
  simp only [h92] at h
  split at h
  · exact pureT_ok tp_ren rfl rfl rfl h
  · cases h
noncomputable def h95 : CallT := ⟨95, true, fun ds mem _ K => match ds with
  | [AV.int .i64 a0] => (drayageref01_Dec a0).bind fun r => K (Cod.str.enc r) mem
  | _ => none⟩
theorem h95_ok : h95.Ok tp := by
  intro ds mem R K r h
  simp only [h95] at h
  split at h
  · exact pureT_ok tp_ren rfl rfl rfl h
  · cases h
noncomputable def h96 : CallT := ⟨96, true, fun ds mem _ K => match ds with
  | [AV.str a0, AV.str a1] => (i_stringslite_Cut a0 a1).bind fun r => K (q3.enc r) mem
  | _ => none⟩
theorem h96_ok : h96.Ok tp := by
  intro ds mem R K r h
  simp only [h96] at h
  split at h
  · exact pureT_ok tp_ren rfl rfl rfl h
  · cases h
noncomputable def h97 : CallT := ⟨97, true, fun ds mem _ K => match ds with
  | [AV.str a0] => (codec_Undec a0).bind fun r => K (q9.enc r) mem
  | _ => none⟩
theorem h97_ok : h97.Ok tp := by
  intro ds mem R K r h
  simp only [h97] at h
  split at h
  · exact pureT_ok tp_ren rfl rfl rfl h
  · cases h
noncomputable def h98 : CallT := ⟨98, true, fun ds mem _ K => match ds with
  | [AV.str a0, AV.str a1] => (i_stringslite_HasPrefix a0 a1).bind fun r => K (Cod.bool.enc r) mem
  | _ => none⟩
theorem h98_ok : h98.Ok tp := by
  intro ds mem R K r h
  simp only [h98] at h
  split at h
  · exact pureT_ok tp_ren rfl rfl rfl h
  · cases h
noncomputable def h99 : CallT := ⟨99, true, fun ds mem _ K => match ds with
  | [AV.str a0, AV.str a1] => (i_stringslite_CutPrefix a0 a1).bind fun r => K (q5.enc r) mem
  | _ => none⟩
theorem h99_ok : h99.Ok tp := by
  intro ds mem R K r h
  simp only [h99] at h
  split at h
  · exact pureT_ok tp_ren rfl rfl rfl h
  · cases h
noncomputable def h100 : CallT := ⟨100, true, fun ds mem _ K => match ds with
  | [AV.str a0, AV.str a1] => (i_stringslite_TrimPrefix a0 a1).bind fun r => K (Cod.str.enc r) mem
  | _ => none⟩
theorem h100_ok : h100.Ok tp := by
  intro ds mem R K r h
  simp only [h100] at h
  split at h
  · exact pureT_ok tp_ren rfl rfl rfl h
  · cases h
noncomputable def h101 : CallT := ⟨101, true, fun ds mem _ K => match ds with
  | [AV.int .i64 a0, AV.str a1] => (drayageref12_Part a0 a1).bind fun r => K (q7.enc r) mem
  | _ => none⟩
theorem h101_ok : h101.Ok tp := by
  intro ds mem R K r h
  simp only [h101] at h
  split at h
  · exact pureT_ok tp_ren rfl rfl rfl h
  · cases h
noncomputable def h102 : CallT := ⟨102, true, fun ds mem _ K => match ds with
  | [AV.str a0] => (drayageref12_Digits a0).bind fun r => K ((Cod.int .i64).enc r) mem
  | _ => none⟩
theorem h102_ok : h102.Ok tp := by
  intro ds mem R K r h
  simp only [h102] at h
  split at h
  · exact pureT_ok tp_ren rfl rfl rfl h
  · cases h
noncomputable def h103 : CallT := ⟨103, true, fun ds mem _ K => match ds with
  | [AV.str a0] => (drayageref01_Undec a0).bind fun r => K (q10.enc r) mem
  | _ => none⟩
theorem h103_ok : h103.Ok tp := by
  intro ds mem R K r h
  simp only [h103] at h
  split at h
  · exact pureT_ok tp_ren rfl rfl rfl h
  · cases h
noncomputable def h104 : CallT := ⟨104, true, fun ds mem _ K => match ds with
  | [AV.sl false 1 a0, AV.fn 62 []] => (slices_IndexFunc_int_int_f62 a0).bind fun r => K ((Cod.int .i64).enc r) mem
  | _ => none⟩
theorem h104_ok : h104.Ok tp := by
  intro ds mem R K r h
  simp only [h104] at h
  split at h
  · exact pureT_ok tp_ren rfl rfl rfl h
  · cases h
noncomputable def h106 : CallT := ⟨106, true, fun ds mem _ K => match ds with
  | [AV.str a0, AV.int .u8 a1] => (i_stringslite_IndexByte a0 a1).bind fun r => K ((Cod.int .i64).enc r) mem
  | _ => none⟩
theorem h106_ok : h106.Ok tp := by
  intro ds mem R K r h
  simp only [h106] at h
  split at h
  · exact pureT_ok tp_ren rfl rfl rfl h
  · cases h
noncomputable def h113 : CallT := ⟨113, true, fun ds mem _ K => match ds with
  | [AV.str a0, AV.int .u8 a1] => (i_bytealg_LastIndexByteString a0 a1).bind fun r => K ((Cod.int .i64).enc r) mem
  | _ => none⟩
theorem h113_ok : h113.Ok tp := by
  intro ds mem R K r h
  simp only [h113] at h
  split at h
  · exact pureT_ok tp_ren rfl rfl rfl h
  · cases h
noncomputable def h114 : CallT := ⟨114, true, fun ds mem _ K => match ds with
  | [AV.str a0, AV.str a1] => (i_bytealg_LastIndexRabinKarp_string a0 a1).bind fun r => K ((Cod.int .i64).enc r) mem
  | _ => none⟩
theorem h114_ok : h114.Ok tp := by
  intro ds mem R K r h
  simp only [h114] at h
  split at h
  · exact pureT_ok tp_ren rfl rfl rfl h
  · cases h
noncomputable def h115 : CallT := ⟨115, true, fun ds mem _ K => match ds with
  | [AV.int .u8 a0] => (version_letter a0).bind fun r => K (Cod.bool.enc r) mem
  | _ => none⟩
theorem h115_ok : h115.Ok tp := by
  intro ds mem R K r h
  simp only [h115] at h
  split at h
  · exact pureT_ok tp_ren rfl rfl rfl h
  · cases h
noncomputable def h122 : CallT := ⟨122, true, fun ds mem _ K => match ds with
  | [AV.str a0, AV.str a1] => (i_stringslite_Index a0 a1).bind fun r => K ((Cod.int .i64).enc r) mem
  | _ => none⟩
theorem h122_ok : h122.Ok tp := by
  intro ds mem R K r h
  simp only [h122] at h
  split at h
  · exact pureT_ok tp_ren rfl rfl rfl h
  · cases h
noncomputable def h123 : CallT := ⟨123, true, fun ds mem _ K => match ds with
  | [AV.str a0, AV.int .i64 a1] => (codec_number a0 a1).bind fun r => K (q12.enc r) mem
  | _ => none⟩
theorem h123_ok : h123.Ok tp := by
  intro ds mem R K r h
  simp only [h123] at h
  split at h
  · exact pureT_ok tp_ren rfl rfl rfl h
  · cases h
noncomputable def h124 : CallT := ⟨124, true, fun ds mem _ K => match ds with
  | [AV.str a0] => (drayageref12_pieces a0).bind fun r => K ((Cod.sl false 3).enc r) mem
  | _ => none⟩
theorem h124_ok : h124.Ok tp := by
  intro ds mem R K r h
  simp only [h124] at h
  split at h
  · exact pureT_ok tp_ren rfl rfl rfl h
  · cases h
noncomputable def h125 : CallT := ⟨125, true, fun ds mem _ K => match ds with
  | [AV.str a0, AV.int .u8 a1] => (drayageref12_place a0 a1).bind fun r => K ((Cod.int .i64).enc r) mem
  | _ => none⟩
theorem h125_ok : h125.Ok tp := by
  intro ds mem R K r h
  simp only [h125] at h
  split at h
  · exact pureT_ok tp_ren rfl rfl rfl h
  · cases h
noncomputable def h126 : CallT := ⟨126, true, fun ds mem _ K => match ds with
  | [AV.str a0, AV.str a1] => (drayageref12_made a0 a1).bind fun r => K (Cod.bool.enc r) mem
  | _ => none⟩
theorem h126_ok : h126.Ok tp := by
  intro ds mem R K r h
  simp only [h126] at h
  split at h
  · exact pureT_ok tp_ren rfl rfl rfl h
  · cases h
noncomputable def h127 : CallT := ⟨127, true, fun ds mem _ K => match ds with
  | [AV.int .u8 a0] => (drayageref12_digit a0).bind fun r => K (Cod.bool.enc r) mem
  | _ => none⟩
theorem h127_ok : h127.Ok tp := by
  intro ds mem R K r h
  simp only [h127] at h
  split at h
  · exact pureT_ok tp_ren rfl rfl rfl h
  · cases h
noncomputable def h128 : CallT := ⟨128, true, fun ds mem _ K => match ds with
  | [AV.str a0, AV.int .i64 a1] => (drayageref01_number a0 a1).bind fun r => K (q10.enc r) mem
  | _ => none⟩
theorem h128_ok : h128.Ok tp := by
  intro ds mem R K r h
  simp only [h128] at h
  split at h
  · exact pureT_ok tp_ren rfl rfl rfl h
  · cases h
noncomputable def h137 : CallT := ⟨137, true, fun ds mem _ K => match ds with
  | [AV.str a0] => (i_bytealg_hashStrRev_string a0).bind fun r => K (q14.enc r) mem
  | _ => none⟩
theorem h137_ok : h137.Ok tp := by
  intro ds mem R K r h
  simp only [h137] at h
  split at h
  · exact pureT_ok tp_ren rfl rfl rfl h
  · cases h
noncomputable def h144 : CallT := ⟨144, true, fun ds mem _ K => match ds with
  | [AV.str a0, AV.int .u8 a1] => (drayageref12_has a0 a1).bind fun r => K (Cod.bool.enc r) mem
  | _ => none⟩
theorem h144_ok : h144.Ok tp := by
  intro ds mem R K r h
  simp only [h144] at h
  split at h
  · exact pureT_ok tp_ren rfl rfl rfl h
  · cases h
noncomputable def h145 : CallT := ⟨145, true, fun ds mem _ K => match ds with
  | [AV.str a0] => (drayageref12_letters a0).bind fun r => K ((Cod.int .i64).enc r) mem
  | _ => none⟩
theorem h145_ok : h145.Ok tp := by
  intro ds mem R K r h
  simp only [h145] at h
  split at h
  · exact pureT_ok tp_ren rfl rfl rfl h
  · cases h
noncomputable def h146 : CallT := ⟨146, true, fun ds mem _ K => match ds with
  | [] => (drayageref12_words).bind fun r => K ((Cod.sl false 1).enc r) mem
  | _ => none⟩
theorem h146_ok : h146.Ok tp := by
  intro ds mem R K r h
  simp only [h146] at h
  split at h
  · exact pureT_ok tp_ren rfl rfl rfl h
  · cases h
noncomputable def h147 : CallT := ⟨147, true, fun ds mem _ K => match ds with
  | [AV.int .u8 a0] => (drayageref12_letter a0).bind fun r => K (Cod.bool.enc r) mem
  | _ => none⟩
theorem h147_ok : h147.Ok tp := by
  intro ds mem R K r h
  simp only [h147] at h
  split at h
  · exact pureT_ok tp_ren rfl rfl rfl h
  · cases h
noncomputable def h148 : CallT := ⟨148, true, fun ds mem _ K => match ds with
  | [AV.int .u8 a0, AV.str a1] => (drayageref12_in a0 a1).bind fun r => K (Cod.bool.enc r) mem
  | _ => none⟩
theorem h148_ok : h148.Ok tp := by
  intro ds mem R K r h
  simp only [h148] at h
  split at h
  · exact pureT_ok tp_ren rfl rfl rfl h
  · cases h
noncomputable def tbl : List CallT := [h5, h6, h13, h15, h17, h18, h19, h20, h22, h23, h24, h25, h39, h40, h47, h48, h49, h50, h51, h52, h53, h54, h55, h56, h57, h58, h59, h60, h61, h62, h63, h64, h65, h69, h75, h77, h78, h79, h80, h81, h82, h83, h84, h92, h95, h96, h97, h98, h99, h100, h101, h102, h103, h104, h106, h113, h114, h115, h122, h123, h124, h125, h126, h127, h128, h137, h144, h145, h146, h147, h148, tIndexByte 130, tWriteString 91 117 5, tString 94 117 5, tWriteByte 93 117 5, tTrimLeft 90]
theorem tbl_ok : ∀ t ∈ tbl, t.Ok tp := by
  intro t ht
  simp only [tbl, List.mem_cons, List.not_mem_nil, or_false] at ht
  rcases ht with rfl | rfl | rfl | rfl | rfl | rfl | rfl | rfl | rfl | rfl | rfl | rfl | rfl | rfl | rfl | rfl | rfl | rfl | rfl | rfl | rfl | rfl | rfl | rfl | rfl | rfl | rfl | rfl | rfl | rfl | rfl | rfl | rfl | rfl | rfl | rfl | rfl | rfl | rfl | rfl | rfl | rfl | rfl | rfl | rfl | rfl | rfl | rfl | rfl | rfl | rfl | rfl | rfl | rfl | rfl | rfl | rfl | rfl | rfl | rfl | rfl | rfl | rfl | rfl | rfl | rfl | rfl | rfl | rfl | rfl | rfl | rfl | rfl | rfl | rfl | rfl
  · exact h5_ok
  · exact h6_ok
  · exact h13_ok
  · exact h15_ok
  · exact h17_ok
  · exact h18_ok
  · exact h19_ok
  · exact h20_ok
  · exact h22_ok
  · exact h23_ok
  · exact h24_ok
  · exact h25_ok
  · exact h39_ok
  · exact h40_ok
  · exact h47_ok
  · exact h48_ok
  · exact h49_ok
  · exact h50_ok
  · exact h51_ok
  · exact h52_ok
  · exact h53_ok
  · exact h54_ok
  · exact h55_ok
  · exact h56_ok
  · exact h57_ok
  · exact h58_ok
  · exact h59_ok
  · exact h60_ok
  · exact h61_ok
  · exact h62_ok
  · exact h63_ok
  · exact h64_ok
  · exact h65_ok
  · exact h69_ok
  · exact h75_ok
  · exact h77_ok
  · exact h78_ok
  · exact h79_ok
  · exact h80_ok
  · exact h81_ok
  · exact h82_ok
  · exact h83_ok
  · exact h84_ok
  · exact h92_ok
  · exact h95_ok
  · exact h96_ok
  · exact h97_ok
  · exact h98_ok
  · exact h99_ok
  · exact h100_ok
  · exact h101_ok
  · exact h102_ok
  · exact h103_ok
  · exact h104_ok
  · exact h106_ok
  · exact h113_ok
  · exact h114_ok
  · exact h115_ok
  · exact h122_ok
  · exact h123_ok
  · exact h124_ok
  · exact h125_ok
  · exact h126_ok
  · exact h127_ok
  · exact h128_ok
  · exact h137_ok
  · exact h144_ok
  · exact h145_ok
  · exact h146_ok
  · exact h147_ok
  · exact h148_ok
  · exact tIndexByte_ok rfl
  · exact tWriteString_ok rfl
  · exact tString_ok rfl
  · exact tWriteByte_ok rfl
  · exact tTrimLeft_ok rfl
end Go.Proofs.YtlgpcmklpknmcaaDoor
