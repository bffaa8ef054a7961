/- The functions as they are told. -/
import Derived.Test.YtlgpcmklpknmcaaDoorYa
set_option linter.unusedVariables false
set_option maxRecDepth 100000
namespace Go.Proofs.YtlgpcmklpknmcaaDoor
open Go Go.Eng Go.Proofs

def fnT : List (FuncId × RFunc) := [(3, r3), (12, r12), (13, r13), (14, r14), (39, r39), (40, r40), (41, r41), (42, r42), (43, r43), (44, r44), (45, r45), (46, r46), (50, r50), (52, r52), (69, r69), (72, r72), (75, r75), (77, r77), (78, r78), (79, r79), (80, r80), (81, r81), (82, r82), (83, r83), (84, r84), (85, r85), (86, r86), (87, r87), (88, r88), (89, r89), (90, r90), (96, r96), (98, r98), (106, r106), (112, r112), (113, r113), (114, r114), (115, r115), (116, r116), (117, r117), (122, r122), (137, r137)]
def extT : List (FuncId × (List AV → Mem → Option (AV × Mem))) := [(130, eIndexByte)]
def tp : Prog := ⟨fun f => fnT.lookup f, fun f => extT.lookup f⟩
theorem tp_ren : ProgRen tp where
  ext f e h := by
    have := lookup_mem h
    simp only [extT, List.mem_cons, Prod.mk.injEq, List.not_mem_nil, or_false] at this
    rcases this with ⟨rfl, rfl⟩
    · exact indexByte_ren
  fn f fn h := by
    have hall : fnT.all (fun p => p.2.body.free) = true := by kernel_rfl
    exact List.all_eq_true.1 hall _ (lookup_mem h)
def q0 := Cod.agg (CodL.cons Cod.str (CodL.cons Cod.str (CodL.cons Cod.str (CodL.one Cod.bool))))
def q1 := Cod.tup (CodL.cons q0 (CodL.one Cod.bool))
def q2 := Cod.tup (CodL.cons (Cod.sl true 4) (CodL.one Cod.bool))
def q3 := Cod.tup (CodL.cons Cod.str (CodL.cons Cod.str (CodL.one Cod.bool)))
def q4 := Cod.tup (CodL.cons Cod.str (CodL.one Cod.str))
def q5 := Cod.tup (CodL.cons (Cod.int .u32) (CodL.one (Cod.int .u32)))
noncomputable def drayagelaw12_VersionOrder (a1 : Int) (a2 a3 a4 : Bs) : Option Bool := FnU tp 3 [AV.int .i64 a1, AV.str a2, AV.str a3, AV.str a4] [] (.one Cod.bool)
noncomputable def drayagelaw12_awake  : Option Bool := FnU tp 12 [] [] (.one Cod.bool)
noncomputable def version_Check (a1 : Int) (a2 : Bs) : Option Int := FnU tp 13 [AV.int .i64 a1, AV.str a2] [] (.one (Cod.int .i64))
noncomputable def version_Compare (a1 : Int) (a2 a3 : Bs) : Option Int := FnU tp 14 [AV.int .i64 a1, AV.str a2, AV.str a3] [] (.one (Cod.int .i64))
noncomputable def version_part (a1 : Int) (a2 : Bs) : Option ((List UInt8 × List UInt8 × List UInt8 × Bool) × Bool) := FnU tp 39 [AV.int .i64 a1, AV.str a2] [] (.one q1)
noncomputable def version_pieces (a1 : Bs) : Option (List AV × Bool) := FnU tp 40 [AV.str a1] [] (.one q2)
noncomputable def slices_CompareFunc_version_piece_version_piece_version_piece_version_piece_f42 (a1 a2 : As) : Option Int := FnU tp 41 [AV.sl false 4 a1, AV.sl false 4 a2, AV.fn 42 []] [] (.one (Cod.int .i64))
noncomputable def version_numbers (a1 a2 : Bs) : Option Int := FnU tp 46 [AV.str a1, AV.str a2] [] (.one (Cod.int .i64))
noncomputable def version_rpm (a1 a2 : Bs) : Option Int := FnU tp 44 [AV.str a1, AV.str a2] [] (.one (Cod.int .i64))
noncomputable def cmp_Or_int (a1 : As) : Option Int := FnU tp 45 [AV.sl false 1 a1] [] (.one (Cod.int .i64))
noncomputable def version_dpkg (a1 a2 : Bs) : Option Int := FnU tp 43 [AV.str a1, AV.str a2] [] (.one (Cod.int .i64))
noncomputable def strings_LastIndex (a1 a2 : Bs) : Option Int := FnU tp 77 [AV.str a1, AV.str a2] [] (.one (Cod.int .i64))
noncomputable def version_epochs (a1 : Bs) : Option (List UInt8 × List UInt8 × Bool) := FnU tp 78 [AV.str a1] [] (.one q3)
noncomputable def strings_LastIndexByte (a1 : Bs) (a2 : Int) : Option Int := FnU tp 79 [AV.str a1, AV.int .u8 a2] [] (.one (Cod.int .i64))
noncomputable def version_made (a1 a2 : Bs) : Option Bool := FnU tp 80 [AV.str a1, AV.str a2] [] (.one Cod.bool)
noncomputable def version_digit (a1 : Int) : Option Bool := FnU tp 81 [AV.int .u8 a1] [] (.one Cod.bool)
noncomputable def version_number (a1 : Bs) : Option (List UInt8 × List UInt8) := FnU tp 82 [AV.str a1] [] (.one q4)
noncomputable def version_begins (a1 : Bs) (a2 : Int) : Option Bool := FnU tp 83 [AV.str a1, AV.int .u8 a2] [] (.one Cod.bool)
noncomputable def version_word (a1 : Bs) : Option (List UInt8 × List UInt8) := FnU tp 84 [AV.str a1] [] (.one q4)
noncomputable def slices_Index_string_string (a1 : As) (a2 : Bs) : Option Int := FnU tp 75 [AV.sl false 1 a1, AV.str a2] [] (.one (Cod.int .i64))
noncomputable def strings_HasPrefix (a1 a2 : Bs) : Option Bool := FnU tp 52 [AV.str a1, AV.str a2] [] (.one Cod.bool)
noncomputable def version_piece_compare (a1 : Int) (a2 : Bs) (a3 : Int) (a4 : Bool) (a5 : Int) (a6 : Bs) (a7 : Int) (a8 : Bool) : Option Int := FnU tp 42 [AV.agg [AV.int .i64 a1, AV.str a2, AV.int .i64 a3, AV.bool a4], AV.agg [AV.int .i64 a5, AV.str a6, AV.int .i64 a7, AV.bool a8]] [] (.one (Cod.int .i64))
noncomputable def strings_TrimLeft (a1 a2 : Bs) : Option (List UInt8) := FnU tp 90 [AV.str a1, AV.str a2] [] (.one Cod.str)
noncomputable def cmp_Compare_int (a1 a2 : Int) : Option Int := FnU tp 72 [AV.int .i64 a1, AV.int .i64 a2] [] (.one (Cod.int .i64))
noncomputable def cmp_Compare_string (a1 a2 : Bs) : Option Int := FnU tp 86 [AV.str a1, AV.str a2] [] (.one (Cod.int .i64))
noncomputable def version_skip (a1 : Bs) : Option (List UInt8) := FnU tp 88 [AV.str a1] [] (.one Cod.str)
noncomputable def version_older (a1 : Bool) : Option Int := FnU tp 89 [AV.bool a1] [] (.one (Cod.int .i64))
noncomputable def version_weight (a1 : Bs) : Option Int := FnU tp 87 [AV.str a1] [] (.one (Cod.int .i64))
noncomputable def i_bytealg_LastIndexByteString (a1 : Bs) (a2 : Int) : Option Int := FnU tp 113 [AV.str a1, AV.int .u8 a2] [] (.one (Cod.int .i64))
noncomputable def i_bytealg_LastIndexRabinKarp_string (a1 a2 : Bs) : Option Int := FnU tp 114 [AV.str a1, AV.str a2] [] (.one (Cod.int .i64))
noncomputable def strings_Cut (a1 a2 : Bs) : Option (List UInt8 × List UInt8 × Bool) := FnU tp 50 [AV.str a1, AV.str a2] [] (.one q3)
noncomputable def version_letter (a1 : Int) : Option Bool := FnU tp 115 [AV.int .u8 a1] [] (.one Cod.bool)
noncomputable def strings_IndexByte (a1 : Bs) (a2 : Int) : Option Int := FnU tp 69 [AV.str a1, AV.int .u8 a2] [] (.one (Cod.int .i64))
noncomputable def i_stringslite_HasPrefix (a1 a2 : Bs) : Option Bool := FnU tp 98 [AV.str a1, AV.str a2] [] (.one Cod.bool)
noncomputable def version_piece_compare_1 (a1 : Bs) : Option Bool := FnU tp 85 [AV.str a1] [] (.one Cod.bool)
noncomputable def strings_trimLeftByte (a1 : Bs) (a2 : Int) : Option (List UInt8) := FnU tp 117 [AV.str a1, AV.int .u8 a2] [] (.one Cod.str)
noncomputable def cmp_isNaN_int (a1 : Int) : Option Bool := FnU tp 112 [AV.int .i64 a1] [] (.one Cod.bool)
noncomputable def cmp_isNaN_string (a1 : Bs) : Option Bool := FnU tp 116 [AV.str a1] [] (.one Cod.bool)
noncomputable def i_bytealg_hashStrRev_string (a1 : Bs) : Option (Int × Int) := FnU tp 137 [AV.str a1] [] (.one q5)
noncomputable def i_stringslite_Cut (a1 a2 : Bs) : Option (List UInt8 × List UInt8 × Bool) := FnU tp 96 [AV.str a1, AV.str a2] [] (.one q3)
noncomputable def i_stringslite_IndexByte (a1 : Bs) (a2 : Int) : Option Int := FnU tp 106 [AV.str a1, AV.int .u8 a2] [] (.one (Cod.int .i64))
noncomputable def i_stringslite_Index (a1 a2 : Bs) : Option Int := FnU tp 122 [AV.str a1, AV.str a2] [] (.one (Cod.int .i64))
noncomputable def version_part_k17 (a24 : Bool) (a25 a26 a27 a28 : Bs) (a29 : Bool) : Option (Bool × (List UInt8 × List UInt8 × List UInt8 × Bool)) :=
  CutU tp [4, 5] k39_17 (mkEnv 114 [4, 5, 8] [AV.ptr 0 0, AV.bool a24, AV.str a25]) [[AV.str a26, AV.str a27, AV.str a28, AV.bool a29]] (XCod.one .ret 114 [4, 5] (CodL.fix (AV.ptr 0 0) (CodL.cons Cod.bool (CodL.one q0))))
noncomputable def version_part_k17_t : LoopT := mkT 100017 114 [4, 5, 8] (CodL.fix (AV.ptr 0 0) (CodL.cons Cod.bool (CodL.cons Cod.str (CodL.one q0)))) (XCod.one .ret 114 [4, 5] (CodL.fix (AV.ptr 0 0) (CodL.cons Cod.bool (CodL.one q0)))) (fun v => version_part_k17 v.1 v.2.1 v.2.2.1 v.2.2.2.1 v.2.2.2.2.1 v.2.2.2.2.2)
theorem version_part_k17_t_ok : version_part_k17_t.OkC tp [4, 5, 8] [4, 5] k39_17 := mkT_okC (fun _ => rfl)
noncomputable def version_part_k11 (a11 : Int) (a12 : Bool) (a13 a14 a15 : Bs) (a16 : Bool) : Option (Bool × (List UInt8 × List UInt8 × List UInt8 × Bool)) :=
  CutU tp [4, 5] k39_11 (mkEnv 114 [0, 4, 5] [AV.int .i64 a11, AV.ptr 0 0, AV.bool a12]) [[AV.str a13, AV.str a14, AV.str a15, AV.bool a16]] (XCod.one .ret 114 [4, 5] (CodL.fix (AV.ptr 0 0) (CodL.cons Cod.bool (CodL.one q0))))
noncomputable def version_part_k11_t : LoopT := mkT 100011 114 [0, 4, 5] (CodL.cons (Cod.int .i64) (CodL.fix (AV.ptr 0 0) (CodL.cons Cod.bool (CodL.one q0)))) (XCod.one .ret 114 [4, 5] (CodL.fix (AV.ptr 0 0) (CodL.cons Cod.bool (CodL.one q0)))) (fun v => version_part_k11 v.1 v.2.1 v.2.2.1 v.2.2.2.1 v.2.2.2.2.1 v.2.2.2.2.2)
theorem version_part_k11_t_ok : version_part_k11_t.OkC tp [0, 4, 5] [4, 5] k39_11 := mkT_okC (fun _ => rfl)
noncomputable def version_pieces_l2 (a2 : Bs) (a3 : As) : Option ((List UInt8 × List AV) ⊕ (List AV × Bool)) :=
  LoopU tp [0, 4] l40_2 (mkEnv 110 [0, 4] [AV.str a2, AV.sl true 4 a3]) [] (XCod.alt (.exit 0) (XCod.one (.exit 0) 110 [0, 4] (CodL.cons Cod.str (CodL.one (Cod.sl true 4)))) (XCod.one .ret 110 [2, 3] (CodL.cons (Cod.sl true 4) (CodL.one Cod.bool))))
noncomputable def version_pieces_l2_t : LoopT := mkT 2 110 [0, 4] (CodL.cons Cod.str (CodL.one (Cod.sl true 4))) (XCod.alt (.exit 0) (XCod.one (.exit 0) 110 [0, 4] (CodL.cons Cod.str (CodL.one (Cod.sl true 4)))) (XCod.one .ret 110 [2, 3] (CodL.cons (Cod.sl true 4) (CodL.one Cod.bool)))) (fun v => version_pieces_l2 v.1 v.2)
theorem version_pieces_l2_t_ok : version_pieces_l2_t.OkL tp [0, 4] l40_2 := mkT_okL (fun _ => rfl)
noncomputable def version_pieces_k20 (a24 : As) (a25 : Bs) (a26 a27 : Int) : Option (List UInt8 × List AV) :=
  CutU tp [0, 4] k40_20 (mkEnv 110 [4, 8, 9, 10] [AV.sl true 4 a24, AV.str a25, AV.int .i64 a26, AV.int .i64 a27]) [] (XCod.one .normal 110 [0, 4] (CodL.cons Cod.str (CodL.one (Cod.sl true 4))))
noncomputable def version_pieces_k20_t : LoopT := mkT 100020 110 [4, 8, 9, 10] (CodL.cons (Cod.sl true 4) (CodL.cons Cod.str (CodL.cons (Cod.int .i64) (CodL.one (Cod.int .i64))))) (XCod.one .normal 110 [0, 4] (CodL.cons Cod.str (CodL.one (Cod.sl true 4)))) (fun v => version_pieces_k20 v.1 v.2.1 v.2.2.1 v.2.2.2)
theorem version_pieces_k20_t_ok : version_pieces_k20_t.OkC tp [4, 8, 9, 10] [0, 4] k40_20 := mkT_okC (fun _ => rfl)
noncomputable def version_pieces_l12 (a18 : Bs) (a19 : As) : Option ((List UInt8 × List AV) ⊕ (List AV × Bool)) :=
  LoopU tp [0, 4] l40_12 (mkEnv 110 [0, 4] [AV.str a18, AV.sl true 4 a19]) [] (XCod.alt (.exit 2) (XCod.one (.exit 2) 110 [0, 4] (CodL.cons Cod.str (CodL.one (Cod.sl true 4)))) (XCod.one .ret 110 [2, 3] (CodL.cons (Cod.sl true 4) (CodL.one Cod.bool))))
noncomputable def version_pieces_l12_t : LoopT := mkT 12 110 [0, 4] (CodL.cons Cod.str (CodL.one (Cod.sl true 4))) (XCod.alt (.exit 2) (XCod.one (.exit 2) 110 [0, 4] (CodL.cons Cod.str (CodL.one (Cod.sl true 4)))) (XCod.one .ret 110 [2, 3] (CodL.cons (Cod.sl true 4) (CodL.one Cod.bool)))) (fun v => version_pieces_l12 v.1 v.2)
theorem version_pieces_l12_t_ok : version_pieces_l12_t.OkL tp [0, 4] l40_12 := mkT_okL (fun _ => rfl)
noncomputable def version_pieces_k12 (a16 : Bs) (a17 : As) : Option (List AV × Bool) :=
  CutU tp [2, 3] k40_12 (mkEnv 110 [0, 4] [AV.str a16, AV.sl true 4 a17]) [] (XCod.one .ret 110 [2, 3] (CodL.cons (Cod.sl true 4) (CodL.one Cod.bool)))
noncomputable def version_pieces_k12_t : LoopT := mkT 100012 110 [0, 4] (CodL.cons Cod.str (CodL.one (Cod.sl true 4))) (XCod.one .ret 110 [2, 3] (CodL.cons (Cod.sl true 4) (CodL.one Cod.bool))) (fun v => version_pieces_k12 v.1 v.2)
theorem version_pieces_k12_t_ok : version_pieces_k12_t.OkC tp [0, 4] [2, 3] k40_12 := mkT_okC (fun _ => rfl)
noncomputable def slices_CompareFunc_version_piece_version_piece_version_piece_version_piece_f42_l2 (a3 a4 a5 : As) (a6 a7 : Int) : Option ((List AV × List AV) ⊕ Int) :=
  LoopU tp [0, 1, 2, 11, 12, 13] l41_2 (mkEnv 39 [0, 1, 2, 11, 12, 13] [AV.sl false 4 a3, AV.sl false 4 a4, AV.fn 42 [], AV.sl false 4 a5, AV.int .i64 a6, AV.int .i64 a7]) [] (XCod.alt (.exit 0) (XCod.one (.exit 0) 39 [0, 1] (CodL.cons (Cod.sl false 4) (CodL.one (Cod.sl false 4)))) (XCod.one .ret 39 [6] (CodL.one (Cod.int .i64))))
noncomputable def slices_CompareFunc_version_piece_version_piece_version_piece_version_piece_f42_l2_t : LoopT := mkT 2 39 [0, 1, 2, 11, 12, 13] (CodL.cons (Cod.sl false 4) (CodL.cons (Cod.sl false 4) (CodL.fix (AV.fn 42 []) (CodL.cons (Cod.sl false 4) (CodL.cons (Cod.int .i64) (CodL.one (Cod.int .i64))))))) (XCod.alt (.exit 0) (XCod.one (.exit 0) 39 [0, 1] (CodL.cons (Cod.sl false 4) (CodL.one (Cod.sl false 4)))) (XCod.one .ret 39 [6] (CodL.one (Cod.int .i64)))) (fun v => slices_CompareFunc_version_piece_version_piece_version_piece_version_piece_f42_l2 v.1 v.2.1 v.2.2.1 v.2.2.2.1 v.2.2.2.2)
theorem slices_CompareFunc_version_piece_version_piece_version_piece_version_piece_f42_l2_t_ok : slices_CompareFunc_version_piece_version_piece_version_piece_version_piece_f42_l2_t.OkL tp [0, 1, 2, 11, 12, 13] l41_2 := mkT_okL (fun _ => rfl)
noncomputable def version_rpm_l1 (a3 a4 : Bs) : Option Int :=
  LoopU tp [0, 1] l44_1 (mkEnv 110 [0, 1] [AV.str a3, AV.str a4]) [] (XCod.one .ret 110 [4] (CodL.one (Cod.int .i64)))
noncomputable def version_rpm_l1_t : LoopT := mkT 1 110 [0, 1] (CodL.cons Cod.str (CodL.one Cod.str)) (XCod.one .ret 110 [4] (CodL.one (Cod.int .i64))) (fun v => version_rpm_l1 v.1 v.2)
theorem version_rpm_l1_t_ok : version_rpm_l1_t.OkL tp [0, 1] l44_1 := mkT_okL (fun _ => rfl)
noncomputable def cmp_Or_int_l3 (a2 : Int) (a3 : As) (a4 a5 : Int) : Option (Int ⊕ Int) :=
  LoopU tp [3, 6, 7, 8] l45_3 (mkEnv 18 [3, 6, 7, 8] [AV.int .i64 a2, AV.sl false 1 a3, AV.int .i64 a4, AV.int .i64 a5]) [] (XCod.alt (.exit 0) (XCod.one (.exit 0) 18 [3] (CodL.one (Cod.int .i64))) (XCod.one .ret 18 [2] (CodL.one (Cod.int .i64))))
noncomputable def cmp_Or_int_l3_t : LoopT := mkT 3 18 [3, 6, 7, 8] (CodL.cons (Cod.int .i64) (CodL.cons (Cod.sl false 1) (CodL.cons (Cod.int .i64) (CodL.one (Cod.int .i64))))) (XCod.alt (.exit 0) (XCod.one (.exit 0) 18 [3] (CodL.one (Cod.int .i64))) (XCod.one .ret 18 [2] (CodL.one (Cod.int .i64)))) (fun v => cmp_Or_int_l3 v.1 v.2.1 v.2.2.1 v.2.2.2)
theorem cmp_Or_int_l3_t_ok : cmp_Or_int_l3_t.OkL tp [3, 6, 7, 8] l45_3 := mkT_okL (fun _ => rfl)
noncomputable def version_dpkg_l2 (a6 a7 : Bs) : Option ((List UInt8 × List UInt8) ⊕ Int) :=
  LoopU tp [0, 1] l43_2 (mkEnv 51 [0, 1] [AV.str a6, AV.str a7]) [] (XCod.alt (.exit 2) (XCod.one (.exit 2) 51 [0, 1] (CodL.cons Cod.str (CodL.one Cod.str))) (XCod.one .ret 51 [4] (CodL.one (Cod.int .i64))))
noncomputable def version_dpkg_l2_t : LoopT := mkT 2 51 [0, 1] (CodL.cons Cod.str (CodL.one Cod.str)) (XCod.alt (.exit 2) (XCod.one (.exit 2) 51 [0, 1] (CodL.cons Cod.str (CodL.one Cod.str))) (XCod.one .ret 51 [4] (CodL.one (Cod.int .i64)))) (fun v => version_dpkg_l2 v.1 v.2)
theorem version_dpkg_l2_t_ok : version_dpkg_l2_t.OkL tp [0, 1] l43_2 := mkT_okL (fun _ => rfl)
noncomputable def version_dpkg_l1 (a3 a4 : Bs) : Option (Unit ⊕ Int) :=
  LoopU tp [0, 1] l43_1 (mkEnv 51 [0, 1] [AV.str a3, AV.str a4]) [] (XCod.alt (.exit 0) (XCod.one (.exit 0) 51 [] CodL.nil) (XCod.one .ret 51 [4] (CodL.one (Cod.int .i64))))
noncomputable def version_dpkg_l1_t : LoopT := mkT 1 51 [0, 1] (CodL.cons Cod.str (CodL.one Cod.str)) (XCod.alt (.exit 0) (XCod.one (.exit 0) 51 [] CodL.nil) (XCod.one .ret 51 [4] (CodL.one (Cod.int .i64)))) (fun v => version_dpkg_l1 v.1 v.2)
theorem version_dpkg_l1_t_ok : version_dpkg_l1_t.OkL tp [0, 1] l43_1 := mkT_okL (fun _ => rfl)
noncomputable def version_made_l2 (a3 a4 : Bs) (a5 : Int) : Option (List UInt8 ⊕ Bool) :=
  LoopU tp [0, 1, 5] l80_2 (mkEnv 34 [0, 1, 5] [AV.str a3, AV.str a4, AV.int .i64 a5]) [] (XCod.alt (.exit 0) (XCod.one (.exit 0) 34 [0] (CodL.one Cod.str)) (XCod.one .ret 34 [4] (CodL.one Cod.bool)))
noncomputable def version_made_l2_t : LoopT := mkT 2 34 [0, 1, 5] (CodL.cons Cod.str (CodL.cons Cod.str (CodL.one (Cod.int .i64)))) (XCod.alt (.exit 0) (XCod.one (.exit 0) 34 [0] (CodL.one Cod.str)) (XCod.one .ret 34 [4] (CodL.one Cod.bool))) (fun v => version_made_l2 v.1 v.2.1 v.2.2)
theorem version_made_l2_t_ok : version_made_l2_t.OkL tp [0, 1, 5] l80_2 := mkT_okL (fun _ => rfl)
noncomputable def version_number_l2 (a2 : Bs) (a3 : Int) : Option (List UInt8 × Int) :=
  LoopU tp [0, 4] l82_2 (mkEnv 23 [0, 4] [AV.str a2, AV.int .i64 a3]) [] (XCod.one (.exit 0) 23 [0, 4] (CodL.cons Cod.str (CodL.one (Cod.int .i64))))
noncomputable def version_number_l2_t : LoopT := mkT 2 23 [0, 4] (CodL.cons Cod.str (CodL.one (Cod.int .i64))) (XCod.one (.exit 0) 23 [0, 4] (CodL.cons Cod.str (CodL.one (Cod.int .i64)))) (fun v => version_number_l2 v.1 v.2)
theorem version_number_l2_t_ok : version_number_l2_t.OkL tp [0, 4] l82_2 := mkT_okL (fun _ => rfl)
noncomputable def version_word_l2 (a2 : Bs) (a3 : Int) : Option (List UInt8 × Int) :=
  LoopU tp [0, 4] l84_2 (mkEnv 23 [0, 4] [AV.str a2, AV.int .i64 a3]) [] (XCod.one (.exit 0) 23 [0, 4] (CodL.cons Cod.str (CodL.one (Cod.int .i64))))
noncomputable def version_word_l2_t : LoopT := mkT 2 23 [0, 4] (CodL.cons Cod.str (CodL.one (Cod.int .i64))) (XCod.one (.exit 0) 23 [0, 4] (CodL.cons Cod.str (CodL.one (Cod.int .i64)))) (fun v => version_word_l2 v.1 v.2)
theorem version_word_l2_t_ok : version_word_l2_t.OkL tp [0, 4] l84_2 := mkT_okL (fun _ => rfl)
noncomputable def slices_Index_string_string_l2 (a3 : As) (a4 : Bs) (a5 a6 : Int) : Option (Unit ⊕ Int) :=
  LoopU tp [0, 1, 7, 8] l75_2 (mkEnv 19 [0, 1, 7, 8] [AV.sl false 1 a3, AV.str a4, AV.int .i64 a5, AV.int .i64 a6]) [] (XCod.alt (.exit 0) (XCod.one (.exit 0) 19 [] CodL.nil) (XCod.one .ret 19 [4] (CodL.one (Cod.int .i64))))
noncomputable def slices_Index_string_string_l2_t : LoopT := mkT 2 19 [0, 1, 7, 8] (CodL.cons (Cod.sl false 1) (CodL.cons Cod.str (CodL.cons (Cod.int .i64) (CodL.one (Cod.int .i64))))) (XCod.alt (.exit 0) (XCod.one (.exit 0) 19 [] CodL.nil) (XCod.one .ret 19 [4] (CodL.one (Cod.int .i64)))) (fun v => slices_Index_string_string_l2 v.1 v.2.1 v.2.2.1 v.2.2.2)
theorem slices_Index_string_string_l2_t_ok : slices_Index_string_string_l2_t.OkL tp [0, 1, 7, 8] l75_2 := mkT_okL (fun _ => rfl)
noncomputable def version_skip_l1 (a2 : Bs) : Option (List UInt8) :=
  LoopU tp [0] l88_1 (mkEnv 30 [0] [AV.str a2]) [] (XCod.one (.exit 0) 30 [0] (CodL.one Cod.str))
noncomputable def version_skip_l1_t : LoopT := mkT 1 30 [0] (CodL.one Cod.str) (XCod.one (.exit 0) 30 [0] (CodL.one Cod.str)) (fun v => version_skip_l1 v)
theorem version_skip_l1_t_ok : version_skip_l1_t.OkL tp [0] l88_1 := mkT_okL (fun _ => rfl)
noncomputable def i_bytealg_LastIndexByteString_l2 (a3 : Bs) (a4 a5 : Int) : Option (Unit ⊕ Int) :=
  LoopU tp [0, 1, 5] l113_2 (mkEnv 19 [0, 1, 5] [AV.str a3, AV.int .u8 a4, AV.int .i64 a5]) [] (XCod.alt (.exit 0) (XCod.one (.exit 0) 19 [] CodL.nil) (XCod.one .ret 19 [4] (CodL.one (Cod.int .i64))))
noncomputable def i_bytealg_LastIndexByteString_l2_t : LoopT := mkT 2 19 [0, 1, 5] (CodL.cons Cod.str (CodL.cons (Cod.int .u8) (CodL.one (Cod.int .i64)))) (XCod.alt (.exit 0) (XCod.one (.exit 0) 19 [] CodL.nil) (XCod.one .ret 19 [4] (CodL.one (Cod.int .i64)))) (fun v => i_bytealg_LastIndexByteString_l2 v.1 v.2.1 v.2.2)
theorem i_bytealg_LastIndexByteString_l2_t_ok : i_bytealg_LastIndexByteString_l2_t.OkL tp [0, 1, 5] l113_2 := mkT_okL (fun _ => rfl)
noncomputable def i_bytealg_LastIndexRabinKarp_string_l6 (a4 a5 : Bs) (a6 a7 a8 a9 a10 a11 : Int) : Option (List UInt8 × List UInt8 × Int × Int × Int × Int × Int) :=
  LoopU tp [0, 1, 5, 6, 7, 8, 9, 10] l114_6 (mkEnv 87 [0, 1, 5, 6, 7, 8, 9, 10] [AV.str a4, AV.str a5, AV.int .u32 a6, AV.int .u32 a7, AV.int .i64 a8, AV.int .i64 a9, AV.int .u32 a10, AV.int .i64 a11]) [] (XCod.one (.exit 0) 87 [0, 1, 5, 6, 7, 8, 9] (CodL.cons Cod.str (CodL.cons Cod.str (CodL.cons (Cod.int .u32) (CodL.cons (Cod.int .u32) (CodL.cons (Cod.int .i64) (CodL.cons (Cod.int .i64) (CodL.one (Cod.int .u32)))))))))
noncomputable def i_bytealg_LastIndexRabinKarp_string_l6_t : LoopT := mkT 6 87 [0, 1, 5, 6, 7, 8, 9, 10] (CodL.cons Cod.str (CodL.cons Cod.str (CodL.cons (Cod.int .u32) (CodL.cons (Cod.int .u32) (CodL.cons (Cod.int .i64) (CodL.cons (Cod.int .i64) (CodL.cons (Cod.int .u32) (CodL.one (Cod.int .i64))))))))) (XCod.one (.exit 0) 87 [0, 1, 5, 6, 7, 8, 9] (CodL.cons Cod.str (CodL.cons Cod.str (CodL.cons (Cod.int .u32) (CodL.cons (Cod.int .u32) (CodL.cons (Cod.int .i64) (CodL.cons (Cod.int .i64) (CodL.one (Cod.int .u32))))))))) (fun v => i_bytealg_LastIndexRabinKarp_string_l6 v.1 v.2.1 v.2.2.1 v.2.2.2.1 v.2.2.2.2.1 v.2.2.2.2.2.1 v.2.2.2.2.2.2.1 v.2.2.2.2.2.2.2)
theorem i_bytealg_LastIndexRabinKarp_string_l6_t_ok : i_bytealg_LastIndexRabinKarp_string_l6_t.OkL tp [0, 1, 5, 6, 7, 8, 9, 10] l114_6 := mkT_okL (fun _ => rfl)
noncomputable def i_bytealg_LastIndexRabinKarp_string_l12 (a16 a17 : Bs) (a18 a19 a20 a21 a22 : Int) : Option (Unit ⊕ Int) :=
  LoopU tp [0, 1, 5, 6, 7, 9, 11] l114_12 (mkEnv 87 [0, 1, 5, 6, 7, 9, 11] [AV.str a16, AV.str a17, AV.int .u32 a18, AV.int .u32 a19, AV.int .i64 a20, AV.int .u32 a21, AV.int .i64 a22]) [] (XCod.alt (.exit 2) (XCod.one (.exit 2) 87 [] CodL.nil) (XCod.one .ret 87 [4] (CodL.one (Cod.int .i64))))
noncomputable def i_bytealg_LastIndexRabinKarp_string_l12_t : LoopT := mkT 12 87 [0, 1, 5, 6, 7, 9, 11] (CodL.cons Cod.str (CodL.cons Cod.str (CodL.cons (Cod.int .u32) (CodL.cons (Cod.int .u32) (CodL.cons (Cod.int .i64) (CodL.cons (Cod.int .u32) (CodL.one (Cod.int .i64)))))))) (XCod.alt (.exit 2) (XCod.one (.exit 2) 87 [] CodL.nil) (XCod.one .ret 87 [4] (CodL.one (Cod.int .i64)))) (fun v => i_bytealg_LastIndexRabinKarp_string_l12 v.1 v.2.1 v.2.2.1 v.2.2.2.1 v.2.2.2.2.1 v.2.2.2.2.2.1 v.2.2.2.2.2.2)
theorem i_bytealg_LastIndexRabinKarp_string_l12_t_ok : i_bytealg_LastIndexRabinKarp_string_l12_t.OkL tp [0, 1, 5, 6, 7, 9, 11] l114_12 := mkT_okL (fun _ => rfl)
noncomputable def strings_trimLeftByte_l1 (a3 : Bs) (a4 : Int) : Option (List UInt8) :=
  LoopU tp [0, 1] l117_1 (mkEnv 17 [0, 1] [AV.str a3, AV.int .u8 a4]) [] (XCod.one (.exit 0) 17 [0] (CodL.one Cod.str))
noncomputable def strings_trimLeftByte_l1_t : LoopT := mkT 1 17 [0, 1] (CodL.cons Cod.str (CodL.one (Cod.int .u8))) (XCod.one (.exit 0) 17 [0] (CodL.one Cod.str)) (fun v => strings_trimLeftByte_l1 v.1 v.2)
theorem strings_trimLeftByte_l1_t_ok : strings_trimLeftByte_l1_t.OkL tp [0, 1] l117_1 := mkT_okL (fun _ => rfl)
noncomputable def i_bytealg_hashStrRev_string_l3 (a2 : Bs) (a3 a4 : Int) : Option (List UInt8 × Int) :=
  LoopU tp [0, 4, 5] l137_3 (mkEnv 40 [0, 4, 5] [AV.str a2, AV.int .u32 a3, AV.int .i64 a4]) [] (XCod.one (.exit 0) 40 [0, 4] (CodL.cons Cod.str (CodL.one (Cod.int .u32))))
noncomputable def i_bytealg_hashStrRev_string_l3_t : LoopT := mkT 3 40 [0, 4, 5] (CodL.cons Cod.str (CodL.cons (Cod.int .u32) (CodL.one (Cod.int .i64)))) (XCod.one (.exit 0) 40 [0, 4] (CodL.cons Cod.str (CodL.one (Cod.int .u32)))) (fun v => i_bytealg_hashStrRev_string_l3 v.1 v.2.1 v.2.2)
theorem i_bytealg_hashStrRev_string_l3_t_ok : i_bytealg_hashStrRev_string_l3_t.OkL tp [0, 4, 5] l137_3 := mkT_okL (fun _ => rfl)
noncomputable def i_bytealg_hashStrRev_string_l8 (a7 a8 a9 a10 : Int) : Option (Int × Int) :=
  LoopU tp [4, 6, 7, 8] l137_8 (mkEnv 40 [4, 6, 7, 8] [AV.int .u32 a7, AV.int .u32 a8, AV.int .u32 a9, AV.int .i64 a10]) [] (XCod.one (.exit 2) 40 [4, 6] (CodL.cons (Cod.int .u32) (CodL.one (Cod.int .u32))))
noncomputable def i_bytealg_hashStrRev_string_l8_t : LoopT := mkT 8 40 [4, 6, 7, 8] (CodL.cons (Cod.int .u32) (CodL.cons (Cod.int .u32) (CodL.cons (Cod.int .u32) (CodL.one (Cod.int .i64))))) (XCod.one (.exit 2) 40 [4, 6] (CodL.cons (Cod.int .u32) (CodL.one (Cod.int .u32)))) (fun v => i_bytealg_hashStrRev_string_l8 v.1 v.2.1 v.2.2.1 v.2.2.2)
theorem i_bytealg_hashStrRev_string_l8_t_ok : i_bytealg_hashStrRev_string_l8_t.OkL tp [4, 6, 7, 8] l137_8 := mkT_okL (fun _ => rfl)
noncomputable def h3 : CallT := ⟨3, true, fun ds mem _ K => match ds with
  | [AV.int .i64 a0, AV.str a1, AV.str a2, AV.str a3] => (drayagelaw12_VersionOrder a0 a1 a2 a3).bind fun r => K (Cod.bool.enc r) mem
  | _ => none⟩
theorem h3_ok : h3.Ok tp := by
  intro ds mem R K r h
  simp only [h3] at h
  split at h
  · exact pureT_ok tp_ren rfl rfl rfl h
  · cases h
noncomputable def h12 : CallT := ⟨12, true, fun ds mem _ K => match ds with
  | [] => (drayagelaw12_awake).bind fun r => K (Cod.bool.enc r) mem
  | _ => none⟩
theorem h12_ok : h12.Ok tp := by
  intro ds mem R K r h
  simp only [h12] at h
  split at h
  · exact pureT_ok tp_ren rfl rfl rfl h
  · cases h
noncomputable def h13 : CallT := ⟨13, true, fun ds mem _ K => match ds with
  | [AV.int .i64 a0, AV.str a1] => (version_Check a0 a1).bind fun r => K ((Cod.int .i64).enc r) mem
  | _ => none⟩
theorem h13_ok : h13.Ok tp := by
  intro ds mem R K r h
  simp only [h13] at h
  split at h
  · exact pureT_ok tp_ren rfl rfl rfl h
  · cases h
noncomputable def h14 : CallT := ⟨14, true, fun ds mem _ K => match ds with
  | [AV.int .i64 a0, AV.str a1, AV.str a2] => (version_Compare a0 a1 a2).bind fun r => K ((Cod.int .i64).enc r) mem
  | _ => none⟩
theorem h14_ok : h14.Ok tp := by
  intro ds mem R K r h
  simp only [h14] at h
  split at h
  · exact pureT_ok tp_ren rfl rfl rfl h
  · cases h
noncomputable def h39 : CallT := ⟨39, true, fun ds mem _ K => match ds with
  | [AV.int .i64 a0, AV.str a1] => (version_part a0 a1).bind fun r => K (q1.enc r) mem
  | _ => none⟩
theorem h39_ok : h39.Ok tp := by
  intro ds mem R K r h
  simp only [h39] at h
  split at h
  · exact pureT_ok tp_ren rfl rfl rfl h
  · cases h
noncomputable def h40 : CallT := ⟨40, true, fun ds mem _ K => match ds with
  | [AV.str a0] => (version_pieces a0).bind fun r => K (q2.enc r) mem
  | _ => none⟩
theorem h40_ok : h40.Ok tp := by
  intro ds mem R K r h
  simp only [h40] at h
  split at h
  · exact pureT_ok tp_ren rfl rfl rfl h
  · cases h
noncomputable def h41 : CallT := ⟨41, true, fun ds mem _ K => match ds with
  | [AV.sl false 4 a0, AV.sl false 4 a1, AV.fn 42 []] => (slices_CompareFunc_version_piece_version_piece_version_piece_version_piece_f42 a0 a1).bind fun r => K ((Cod.int .i64).enc r) mem
  | _ => none⟩
theorem h41_ok : h41.Ok tp := by
  intro ds mem R K r h
  simp only [h41] at h
  split at h
  · exact pureT_ok tp_ren rfl rfl rfl h
  · cases h
noncomputable def h42 : CallT := ⟨42, true, fun ds mem _ K => match ds with
  | [AV.agg [AV.int .i64 a0, AV.str a1, AV.int .i64 a2, AV.bool a3], AV.agg [AV.int .i64 a4, AV.str a5, AV.int .i64 a6, AV.bool a7]] => (version_piece_compare a0 a1 a2 a3 a4 a5 a6 a7).bind fun r => K ((Cod.int .i64).enc r) mem
  | _ => none⟩
theorem h42_ok : h42.Ok tp := by
  intro ds mem R K r h
  simp only [h42] at h
  split at h
  · exact pureT_ok tp_ren rfl rfl rfl h
  · cases h
noncomputable def h43 : CallT := ⟨43, true, fun ds mem _ K => match ds with
  | [AV.str a0, AV.str a1] => (version_dpkg a0 a1).bind fun r => K ((Cod.int .i64).enc r) mem
  | _ => none⟩
theorem h43_ok : h43.Ok tp := by
  intro ds mem R K r h
  simp only [h43] at h
  split at h
  · exact pureT_ok tp_ren rfl rfl rfl h
  · cases h
noncomputable def h44 : CallT := ⟨44, true, fun ds mem _ K => match ds with
  | [AV.str a0, AV.str a1] => (version_rpm a0 a1).bind fun r => K ((Cod.int .i64).enc r) mem
  | _ => none⟩
theorem h44_ok : h44.Ok tp := by
  intro ds mem R K r h
  simp only [h44] at h
  split at h
  · exact pureT_ok tp_ren rfl rfl rfl h
  · cases h
noncomputable def h45 : CallT := ⟨45, true, fun ds mem _ K => match ds with
  | [AV.sl false 1 a0] => (cmp_Or_int a0).bind fun r => K ((Cod.int .i64).enc r) mem
  | _ => none⟩
theorem h45_ok : h45.Ok tp := by
  intro ds mem R K r h
  simp only [h45] at h
  split at h
  · exact pureT_ok tp_ren rfl rfl rfl h
  · cases h
noncomputable def h46 : CallT := ⟨46, true, fun ds mem _ K => match ds with
  | [AV.str a0, AV.str a1] => (version_numbers a0 a1).bind fun r => K ((Cod.int .i64).enc r) mem
  | _ => none⟩
theorem h46_ok : h46.Ok tp := by
  intro ds mem R K r h
  simp only [h46] at h
  split at h
  · exact pureT_ok tp_ren rfl rfl rfl h
  · cases h
noncomputable def h50 : CallT := ⟨50, true, fun ds mem _ K => match ds with
  | [AV.str a0, AV.str a1] => (strings_Cut a0 a1).bind fun r => K (q3.enc r) mem
  | _ => none⟩
theorem h50_ok : h50.Ok tp := by
  intro ds mem R K r h
  simp only [h50] at h
  split at h
  · exact pureT_ok tp_ren rfl rfl rfl h
  · cases h
noncomputable def h52 : CallT := ⟨52, true, fun ds mem _ K => match ds with
  | [AV.str a0, AV.str a1] => (strings_HasPrefix a0 a1).bind fun r => K (Cod.bool.enc r) mem
  | _ => none⟩
theorem h52_ok : h52.Ok tp := by
  intro ds mem R K r h
  simp only [h52] at h
  split at h
  · exact pureT_ok tp_ren rfl rfl rfl h
  · cases h
noncomputable def h69 : CallT := ⟨69, true, fun ds mem _ K => match ds with
  | [AV.str a0, AV.int .u8 a1] => (strings_IndexByte a0 a1).bind fun r => K ((Cod.int .i64).enc r) mem
  | _ => none⟩
theorem h69_ok : h69.Ok tp := by
  intro ds mem R K r h
  simp only [h69] at h
  split at h
  · exact pureT_ok tp_ren rfl rfl rfl h
  · cases h
noncomputable def h72 : CallT := ⟨72, true, fun ds mem _ K => match ds with
  | [AV.int .i64 a0, AV.int .i64 a1] => (cmp_Compare_int a0 a1).bind fun r => K ((Cod.int .i64).enc r) mem
  | _ => none⟩
theorem h72_ok : h72.Ok tp := by
  intro ds mem R K r h
  simp only [h72] at h
  split at h
  · exact pureT_ok tp_ren rfl rfl rfl h
  · cases h
noncomputable def h75 : CallT := ⟨75, true, fun ds mem _ K => match ds with
  | [AV.sl false 1 a0, AV.str a1] => (slices_Index_string_string a0 a1).bind fun r => K ((Cod.int .i64).enc r) mem
  | _ => none⟩
theorem h75_ok : h75.Ok tp := by
  intro ds mem R K r h
  simp only [h75] at h
  split at h
  · exact pureT_ok tp_ren rfl rfl rfl h
  · cases h
noncomputable def h77 : CallT := ⟨77, true, fun ds mem _ K => match ds with
  | [AV.str a0, AV.str a1] => (strings_LastIndex a0 a1).bind fun r => K ((Cod.int .i64).enc r) mem
  | _ => none⟩
theorem h77_ok : h77.Ok tp := by
  intro ds mem R K r h
  simp only [h77] at h
  split at h
  · exact pureT_ok tp_ren rfl rfl rfl h
  · cases h
noncomputable def h78 : CallT := ⟨78, true, fun ds mem _ K => match ds with
  | [AV.str a0] => (version_epochs a0).bind fun r => K (q3.enc r) mem
  | _ => none⟩
theorem h78_ok : h78.Ok tp := by
  intro ds mem R K r h
  simp only [h78] at h
  split at h
  · exact pureT_ok tp_ren rfl rfl rfl h
  · cases h
noncomputable def h79 : CallT := ⟨79, true, fun ds mem _ K => match ds with
  | [AV.str a0, AV.int .u8 a1] => (strings_LastIndexByte a0 a1).bind fun r => K ((Cod.int .i64).enc r) mem
  | _ => none⟩
theorem h79_ok : h79.Ok tp := by
  intro ds mem R K r h
  simp only [h79] at h
  split at h
  · exact pureT_ok tp_ren rfl rfl rfl h
  · cases h
noncomputable def h80 : CallT := ⟨80, true, fun ds mem _ K => match ds with
  | [AV.str a0, AV.str a1] => (version_made a0 a1).bind fun r => K (Cod.bool.enc r) mem
  | _ => none⟩
theorem h80_ok : h80.Ok tp := by
  intro ds mem R K r h
  simp only [h80] at h
  split at h
  · exact pureT_ok tp_ren rfl rfl rfl h
  · cases h
noncomputable def h81 : CallT := ⟨81, true, fun ds mem _ K => match ds with
  | [AV.int .u8 a0] => (version_digit a0).bind fun r => K (Cod.bool.enc r) mem
  | _ => none⟩
theorem h81_ok : h81.Ok tp := by
  intro ds mem R K r h
  simp only [h81] at h
  split at h
  · exact pureT_ok tp_ren rfl rfl rfl h
  · cases h
noncomputable def h82 : CallT := ⟨82, true, fun ds mem _ K => match ds with
  | [AV.str a0] => (version_number a0).bind fun r => K (q4.enc r) mem
  | _ => none⟩
theorem h82_ok : h82.Ok tp := by
  intro ds mem R K r h
  simp only [h82] at h
  split at h
  · exact pureT_ok tp_ren rfl rfl rfl h
  · cases h
noncomputable def h83 : CallT := ⟨83, true, fun ds mem _ K => match ds with
  | [AV.str a0, AV.int .u8 a1] => (version_begins a0 a1).bind fun r => K (Cod.bool.enc r) mem
  | _ => none⟩
theorem h83_ok : h83.Ok tp := by
  intro ds mem R K r h
  simp only [h83] at h
  split at h
  · exact pureT_ok tp_ren rfl rfl rfl h
  · cases h
noncomputable def h84 : CallT := ⟨84, true, fun ds mem _ K => match ds with
  | [AV.str a0] => (version_word a0).bind fun r => K (q4.enc r) mem
  | _ => none⟩
theorem h84_ok : h84.Ok tp := by
  intro ds mem R K r h
  simp only [h84] at h
  split at h
  · exact pureT_ok tp_ren rfl rfl rfl h
  · cases h
noncomputable def h85 : CallT := ⟨85, true, fun ds mem _ K => match ds with
  | [AV.str a0] => (version_piece_compare_1 a0).bind fun r => K (Cod.bool.enc r) mem
  | _ => none⟩
theorem h85_ok : h85.Ok tp := by
  intro ds mem R K r h
  simp only [h85] at h
  split at h
  · exact pureT_ok tp_ren rfl rfl rfl h
  · cases h
noncomputable def h86 : CallT := ⟨86, true, fun ds mem _ K => match ds with
  | [AV.str a0, AV.str a1] => (cmp_Compare_string a0 a1).bind fun r => K ((Cod.int .i64).enc r) mem
  | _ => none⟩
theorem h86_ok : h86.Ok tp := by
  intro ds mem R K r h
  simp only [h86] at h
  split at h
  · exact pureT_ok tp_ren rfl rfl rfl h
  · cases h
noncomputable def h87 : CallT := ⟨87, true, fun ds mem _ K => match ds with
  | [AV.str a0] => (version_weight a0).bind fun r => K ((Cod.int .i64).enc r) mem
  | _ => none⟩
theorem h87_ok : h87.Ok tp := by
  intro ds mem R K r h
  simp only [h87] at h
  split at h
  · exact pureT_ok tp_ren rfl rfl rfl h
  · cases h
noncomputable def h88 : CallT := ⟨88, true, fun ds mem _ K => match ds with
  | [AV.str a0] => (version_skip a0).bind fun r => K (Cod.str.enc r) mem
  | _ => none⟩
theorem h88_ok : h88.Ok tp := by
  intro ds mem R K r h
  simp only [h88] at h
  split at h
  · exact pureT_ok tp_ren rfl rfl rfl h
  · cases h
noncomputable def h89 : CallT := ⟨89, true, fun ds mem _ K => match ds with
  | [AV.bool a0] => (version_older a0).bind fun r => K ((Cod.int .i64).enc r) mem
  | _ => none⟩
theorem h89_ok : h89.Ok tp := by
  intro ds mem R K r h
  simp only [h89] at h
  split at h
  · exact pureT_ok tp_ren rfl rfl rfl h
  · cases h
noncomputable def h90 : CallT := ⟨90, true, fun ds mem _ K => match ds with
  | [AV.str a0, AV.str a1] => (strings_TrimLeft a0 a1).bind fun r => K (Cod.str.enc r) mem
  | _ => none⟩
theorem h90_ok : h90.Ok tp := by
  intro ds mem R K r h
  simp only [h90] at h
  split at h
  · exact pureT_ok tp_ren rfl rfl rfl h
  · cases h
noncomputable def h96 : CallT := ⟨96, true, fun ds mem _ K => match ds with
  | [AV.str a0, AV.str a1] => (i_stringslite_Cut a0 a1).bind fun r => K (q3.enc r) mem
  | _ => none⟩
theorem h96_ok : h96.Ok tp := by
  intro ds mem R K r h
  simp only [h96] at h
  split at h
  · exact pureT_ok tp_ren rfl rfl rfl h
  · cases h
noncomputable def h98 : CallT := ⟨98, true, fun ds mem _ K => match ds with
  | [AV.str a0, AV.str a1] => (i_stringslite_HasPrefix a0 a1).bind fun r => K (Cod.bool.enc r) mem
  | _ => none⟩
theorem h98_ok : h98.Ok tp := by
  intro ds mem R K r h
  simp only [h98] at h
  split at h
  · exact pureT_ok tp_ren rfl rfl rfl h
  · cases h
noncomputable def h106 : CallT := ⟨106, true, fun ds mem _ K => match ds with
  | [AV.str a0, AV.int .u8 a1] => (i_stringslite_IndexByte a0 a1).bind fun r => K ((Cod.int .i64).enc r) mem
  | _ => none⟩
theorem h106_ok : h106.Ok tp := by
  intro ds mem R K r h
  simp only [h106] at h
  split at h
  · exact pureT_ok tp_ren rfl rfl rfl h
  · cases h
noncomputable def h112 : CallT := ⟨112, true, fun ds mem _ K => match ds with
  | [AV.int .i64 a0] => (cmp_isNaN_int a0).bind fun r => K (Cod.bool.enc r) mem
  | _ => none⟩
theorem h112_ok : h112.Ok tp := by
  intro ds mem R K r h
  simp only [h112] at h
  split at h
  · exact pureT_ok tp_ren rfl rfl rfl h
  · cases h
noncomputable def h113 : CallT := ⟨113, true, fun ds mem _ K => match ds with
  | [AV.str a0, AV.int .u8 a1] => (i_bytealg_LastIndexByteString a0 a1).bind fun r => K ((Cod.int .i64).enc r) mem
  | _ => none⟩
theorem h113_ok : h113.Ok tp := by
  intro ds mem R K r h
  simp only [h113] at h
  split at h
  · exact pureT_ok tp_ren rfl rfl rfl h
  · cases h
noncomputable def h114 : CallT := ⟨114, true, fun ds mem _ K => match ds with
  | [AV.str a0, AV.str a1] => (i_bytealg_LastIndexRabinKarp_string a0 a1).bind fun r => K ((Cod.int .i64).enc r) mem
  | _ => none⟩
theorem h114_ok : h114.Ok tp := by
  intro ds mem R K r h
  simp only [h114] at h
  split at h
  · exact pureT_ok tp_ren rfl rfl rfl h
  · cases h
noncomputable def h115 : CallT := ⟨115, true, fun ds mem _ K => match ds with
  | [AV.int .u8 a0] => (version_letter a0).bind fun r => K (Cod.bool.enc r) mem
  | _ => none⟩
theorem h115_ok : h115.Ok tp := by
  intro ds mem R K r h
  simp only [h115] at h
  split at h
  · exact pureT_ok tp_ren rfl rfl rfl h
  · cases h
noncomputable def h116 : CallT := ⟨116, true, fun ds mem _ K => match ds with
  | [AV.str a0] => (cmp_isNaN_string a0).bind fun r => K (Cod.bool.enc r) mem
  | _ => none⟩
theorem h116_ok : h116.Ok tp := by
  intro ds mem R K r h
  simp only [h116] at h
  split at h
  · exact pureT_ok tp_ren rfl rfl rfl h
  · cases h
noncomputable def h117 : CallT := ⟨117, true, fun ds mem _ K => match ds with
  | [AV.str a0, AV.int .u8 a1] => (strings_trimLeftByte a0 a1).bind fun r => K (Cod.str.enc r) mem
  | _ => none⟩
theorem h117_ok : h117.Ok tp := by
  intro ds mem R K r h
  simp only [h117] at h
  split at h
  · exact pureT_ok tp_ren rfl rfl rfl h
  · cases h
noncomputable def h122 : CallT := ⟨122, true, fun ds mem _ K => match ds with
  | [AV.str a0, AV.str a1] => (i_stringslite_Index a0 a1).bind fun r => K ((Cod.int .i64).enc r) mem
  | _ => none⟩
theorem h122_ok : h122.Ok tp := by
  intro ds mem R K r h
  simp only [h122] at h
  split at h
  · exact pureT_ok tp_ren rfl rfl rfl h
  · cases h
noncomputable def h137 : CallT := ⟨137, true, fun ds mem _ K => match ds with
  | [AV.str a0] => (i_bytealg_hashStrRev_string a0).bind fun r => K (q5.enc r) mem
  | _ => none⟩
theorem h137_ok : h137.Ok tp := by
  intro ds mem R K r h
  simp only [h137] at h
  split at h
  · exact pureT_ok tp_ren rfl rfl rfl h
  · cases h
noncomputable def tbl : List CallT := [h3, h12, h13, h14, h39, h40, h41, h42, h43, h44, h45, h46, h50, h52, h69, h72, h75, h77, h78, h79, h80, h81, h82, h83, h84, h85, h86, h87, h88, h89, h90, h96, h98, h106, h112, h113, h114, h115, h116, h117, h122, h137, tIndexByte 130]
theorem tbl_ok : ∀ t ∈ tbl, t.Ok tp := by
  intro t ht
  simp only [tbl, List.mem_cons, List.not_mem_nil, or_false] at ht
  rcases ht with rfl | rfl | rfl | rfl | rfl | rfl | rfl | rfl | rfl | rfl | rfl | rfl | rfl | rfl | rfl | rfl | rfl | rfl | rfl | rfl | rfl | rfl | rfl | rfl | rfl | rfl | rfl | rfl | rfl | rfl | rfl | rfl | rfl | rfl | rfl | rfl | rfl | rfl | rfl | rfl | rfl | rfl | rfl
  · exact h3_ok
  · exact h12_ok
  · exact h13_ok
  · exact h14_ok
  · exact h39_ok
  · exact h40_ok
  · exact h41_ok
  · exact h42_ok
  · exact h43_ok
  · exact h44_ok
  · exact h45_ok
  · exact h46_ok
  · exact h50_ok
  · exact h52_ok
  · exact h69_ok
  · exact h72_ok
  · exact h75_ok
  · exact h77_ok
  · exact h78_ok
  · exact h79_ok
  · exact h80_ok
  · exact h81_ok
  · exact h82_ok
  · exact h83_ok
  · exact h84_ok
  · exact h85_ok
  · exact h86_ok
  · exact h87_ok
  · exact h88_ok
  · exact h89_ok
  · exact h90_ok
  · exact h96_ok
  · exact h98_ok
  · exact h106_ok
  · exact h112_ok
  · exact h113_ok
  · exact h114_ok
  · exact h115_ok
  · exact h116_ok
  · exact h117_ok
  · exact h122_ok
  · exact h137_ok
  · exact tIndexByte_ok rfl
end Go.Proofs.YtlgpcmklpknmcaaDoor
