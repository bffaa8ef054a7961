/- What the functions do, in plain Lean. -/
import Derived.Test.YtlgpcmklpknmcaaDoorYb
set_option linter.unusedVariables false
set_option maxRecDepth 100000
namespace Go.Proofs.YtlgpcmklpknmcaaDoor
open Go Go.Eng Go.Proofs

noncomputable def H3 : Hd := mkHd tbl []
noncomputable def drayagelaw12_VersionOrder_E (a1 : Int) (a2 a3 a4 : Bs) : Option Bool :=
  ((drayagelaw12_awake).bind fun r5 => (cond (!r5) (some false) ((cond (decide ((2000 : Int) < (List.length a2 : Int))) (some true) (some (decide ((2000 : Int) < (List.length a3 : Int))))).bind fun b6 => ((cond b6 (some true) (some (decide ((2000 : Int) < (List.length a4 : Int))))).bind fun b7 => ((cond b7 (some true) ((version_Check a1 a2).bind fun r8 => (some (r8 != 0)))).bind fun b9 => ((cond b9 (some true) ((version_Check a1 a3).bind fun r10 => (some (r10 != 0)))).bind fun b11 => ((cond b11 (some true) ((version_Check a1 a4).bind fun r12 => (some (r12 != 0)))).bind fun b13 => (cond b13 (some true) ((version_Compare a1 a2 a3).bind fun r14 => ((version_Compare a1 a3 a4).bind fun r15 => ((version_Compare a1 a2 a4).bind fun r16 => ((version_Compare a1 a3 a2).bind fun r17 => ((cond (r17 != (IntKind.wrap .i64 (0 - r14))) (some true) ((version_Compare a1 a2 a2).bind fun r18 => (some (r18 != 0)))).bind fun b19 => ((cond b19 (some true) (some (decide (r14 < (-1))))).bind fun b20 => ((cond b20 (some true) (some (decide ((1 : Int) < r14)))).bind fun b21 => (cond b21 (some false) ((cond (decide (r14 ≤ 0)) (some (decide (r15 ≤ 0))) (some false)).bind fun b22 => ((cond b22 (cond (decide ((0 : Int) < r16)) (some true) (cond (r16 == 0) (cond (decide (r14 < 0)) (some true) (some (decide (r15 < 0)))) (some false))) (some false)).bind fun b23 => (cond b23 (some false) ((cond (decide (r14 < 0)) (some true) (some (decide (r15 < 0)))).bind fun b24 => ((cond b24 (some true) (some (decide ((0 : Int) ≤ r16)))).bind fun b25 => (some b25))))))))))))))))))))))
theorem drayagelaw12_VersionOrder_of {a1 : Int} {a2 a3 a4 : Bs} {w} (h : drayagelaw12_VersionOrder_E a1 a2 a3 a4 = some w) : drayagelaw12_VersionOrder a1 a2 a3 a4 = some w :=
  fn_ok (mkHd_ok tbl_ok) (H := H3) (fn := r3) rfl rfl (lo_none rfl) (by simp [r3]) ((show codeK H3 r3.body (argEnv r3.ntmps [AV.int .i64 a1, AV.str a2, AV.str a3, AV.str a4]) [] (finK r3 0 (.one Cod.bool)) = drayagelaw12_VersionOrder_E a1 a2 a3 a4 by kernel_rfl).trans h)

noncomputable def H12 : Hd := mkHd tbl []
noncomputable def drayagelaw12_awake_E  : Option Bool :=
  ((version_Compare 1 [49, 46, 48, 126, 114, 99, 49] [49, 46, 48]).bind fun r1 => ((cond (r1 == (-1)) ((version_Compare 1 [49, 46, 50] [48, 58, 49, 46, 50, 45, 48]).bind fun r2 => (some (r2 == 0))) (some false)).bind fun b3 => ((cond b3 ((version_Compare 2 [49, 46, 48, 94, 97, 45, 49] [49, 46, 48, 45, 49]).bind fun r4 => (some (r4 == 1))) (some false)).bind fun b5 => ((cond b5 ((version_Compare 3 [49, 46, 50, 95, 114, 99, 49] [49, 46, 50]).bind fun r6 => (some (r6 == (-1)))) (some false)).bind fun b7 => ((cond b7 ((version_Check 3 [49, 46, 50, 45, 114, 48]).bind fun r8 => (some (r8 == 0))) (some false)).bind fun b9 => ((cond b9 ((version_Check 2 [49, 46, 50]).bind fun r10 => (some (r10 == 3))) (some false)).bind fun b11 => (some b11)))))))
theorem drayagelaw12_awake_of  {w} (h : drayagelaw12_awake_E  = some w) : drayagelaw12_awake  = some w :=
  fn_ok (mkHd_ok tbl_ok) (H := H12) (fn := r12) rfl rfl (lo_none rfl) (by simp [r12]) ((show codeK H12 r12.body (argEnv r12.ntmps []) [] (finK r12 0 (.one Cod.bool)) = drayagelaw12_awake_E  by kernel_rfl).trans h)

noncomputable def H13 : Hd := mkHd tbl []
noncomputable def version_Check_E (a1 : Int) (a2 : Bs) : Option Int :=
  ((cond (decide (a1 < 1)) (some true) (some (decide ((3 : Int) < a1)))).bind fun b3 => (cond b3 (some 9) (cond (decide ((64 : Int) < (List.length a2 : Int))) (some 4) ((version_part a1 a2).bind fun r4 => (cond (!r4.2) (some 3) (some 0))))))
theorem version_Check_of {a1 : Int} {a2 : Bs} {w} (h : version_Check_E a1 a2 = some w) : version_Check a1 a2 = some w :=
  fn_ok (mkHd_ok tbl_ok) (H := H13) (fn := r13) rfl rfl (lo_none rfl) (by simp [r13]) ((show codeK H13 r13.body (argEnv r13.ntmps [AV.int .i64 a1, AV.str a2]) [] (finK r13 0 (.one (Cod.int .i64))) = version_Check_E a1 a2 by kernel_rfl).trans h)

noncomputable def H14 : Hd := mkHd tbl []
noncomputable def version_Compare_E (a1 : Int) (a2 a3 : Bs) : Option Int :=
  ((version_Check a1 a2).bind fun r4 => ((cond (r4 != 0) (some true) ((version_Check a1 a3).bind fun r5 => (some (r5 != 0)))).bind fun b6 => (cond b6 (some 0) (cond (a1 == 3) ((version_pieces a2).bind fun r7 => ((version_pieces a3).bind fun r8 => (roomL (List.length r7.1 + List.length ([AV.agg [AV.int .i64 1, AV.str [], AV.int .i64 0, AV.bool false]])) 40 (roomL (List.length r8.1 + List.length ([AV.agg [AV.int .i64 1, AV.str [], AV.int .i64 0, AV.bool false]])) 40 ((slices_CompareFunc_version_piece_version_piece_version_piece_version_piece_f42 (r7.1 ++ [AV.agg [AV.int .i64 1, AV.str [], AV.int .i64 0, AV.bool false]]) (r8.1 ++ [AV.agg [AV.int .i64 1, AV.str [], AV.int .i64 0, AV.bool false]])).bind fun r9 => (some r9)))))) ((version_part a1 a2).bind fun r10 => ((version_part a1 a3).bind fun r11 => (cond (a1 == 2) ((version_numbers r10.1.1 r11.1.1).bind fun r12 => ((version_rpm r10.1.2.1 r11.1.2.1).bind fun r13 => ((version_rpm r10.1.2.2.1 r11.1.2.2.1).bind fun r14 => ((cmp_Or_int [AV.int .i64 r12, AV.int .i64 r13, AV.int .i64 r14]).bind fun r15 => (some r15))))) ((version_numbers r10.1.1 r11.1.1).bind fun r16 => ((version_dpkg r10.1.2.1 r11.1.2.1).bind fun r17 => ((version_dpkg r10.1.2.2.1 r11.1.2.2.1).bind fun r18 => ((cmp_Or_int [AV.int .i64 r16, AV.int .i64 r17, AV.int .i64 r18]).bind fun r19 => (some r19))))))))))))
theorem version_Compare_of {a1 : Int} {a2 a3 : Bs} {w} (h : version_Compare_E a1 a2 a3 = some w) : version_Compare a1 a2 a3 = some w :=
  fn_ok (mkHd_ok tbl_ok) (H := H14) (fn := r14) rfl rfl (lo_none rfl) (by simp [r14]) ((show codeK H14 r14.body (argEnv r14.ntmps [AV.int .i64 a1, AV.str a2, AV.str a3]) [] (finK r14 0 (.one (Cod.int .i64))) = version_Compare_E a1 a2 a3 by kernel_rfl).trans h)

noncomputable def H39 : Hd := mkHd tbl [version_part_k17_t, version_part_k11_t]
noncomputable def version_part_k17_E (a24 : Bool) (a25 a26 a27 a28 : Bs) (a29 : Bool) : Option (Bool × (List UInt8 × List UInt8 × List UInt8 × Bool)) :=
  ((cond a24 ((version_made a27 a25).bind fun r41 => (some r41)) (some false)).bind fun b42 => ((cond b42 (idxS a27 0 fun c43 => ((version_digit (UInt8.toNat c43 : Int)).bind fun r44 => (some r44))) (some false)).bind fun b45 => ((cond b45 (cond (!a29) (some true) ((version_made a28 [46, 43, 126]).bind fun r46 => (some r46))) (some false)).bind fun b47 => (some (b47, (a26, a27, a28, a29))))))
theorem version_part_k17_of {a24 : Bool} {a25 a26 a27 a28 : Bs} {a29 : Bool} {w} (h : version_part_k17_E a24 a25 a26 a27 a28 a29 = some w) : version_part_k17 a24 a25 a26 a27 a28 a29 = some w :=
  cut_ok (mkHd_ok tbl_ok) (H := H39) (body := k39_17) (lo_none rfl) ((show codeK H39 k39_17 (mkEnv 114 [4, 5, 8] [AV.ptr 0 0, AV.bool a24, AV.str a25]) [[AV.str a26, AV.str a27, AV.str a28, AV.bool a29]] (cutK [4, 5] (XCod.one .ret 114 [4, 5] (CodL.fix (AV.ptr 0 0) (CodL.cons Cod.bool (CodL.one q0))))) = version_part_k17_E a24 a25 a26 a27 a28 a29 by kernel_rfl).trans h)
noncomputable def version_part_k11_E (a11 : Int) (a12 : Bool) (a13 a14 a15 : Bs) (a16 : Bool) : Option (Bool × (List UInt8 × List UInt8 × List UInt8 × Bool)) :=
  (cond (a11 == 2) ((cond a12 (cond (decide ((List.length a13 : Int) < 2)) (some true) (idxS a13 0 fun c48 => (some ((UInt8.toNat c48 : Int) != 48)))) (some false)).bind fun b49 => ((cond b49 (some a16) (some false)).bind fun b50 => ((cond b50 ((version_made a14 [46, 95, 43, 126, 94]).bind fun r51 => (some r51)) (some false)).bind fun b52 => ((cond b52 ((version_made a15 [46, 95, 43, 126, 94]).bind fun r53 => (some r53)) (some false)).bind fun b54 => (some (b54, (a13, a14, a15, a16))))))) (cond a16 ((version_part_k17 a12 [46, 43, 126, 45] a13 a14 a15 a16).bind fun r55 => (some (r55.1, (r55.2.1, r55.2.2.1, r55.2.2.2.1, r55.2.2.2.2)))) ((version_part_k17 a12 [46, 43, 126] a13 a14 a15 a16).bind fun r56 => (some (r56.1, (r56.2.1, r56.2.2.1, r56.2.2.2.1, r56.2.2.2.2))))))
theorem version_part_k11_of {a11 : Int} {a12 : Bool} {a13 a14 a15 : Bs} {a16 : Bool} {w} (h : version_part_k11_E a11 a12 a13 a14 a15 a16 = some w) : version_part_k11 a11 a12 a13 a14 a15 a16 = some w :=
  cut_ok (mkHd_ok tbl_ok) (H := H39) (body := k39_11) (lo_seq (lo_none rfl) (lo_seq (lo_none rfl) (lo_seq (lo_none rfl) (lo_cutT version_part_k17_t_ok (by kernel_rfl))))) ((show codeK H39 k39_11 (mkEnv 114 [0, 4, 5] [AV.int .i64 a11, AV.ptr 0 0, AV.bool a12]) [[AV.str a13, AV.str a14, AV.str a15, AV.bool a16]] (cutK [4, 5] (XCod.one .ret 114 [4, 5] (CodL.fix (AV.ptr 0 0) (CodL.cons Cod.bool (CodL.one q0))))) = version_part_k11_E a11 a12 a13 a14 a15 a16 by kernel_rfl).trans h)
noncomputable def version_part_E (a1 : Int) (a2 : Bs) : Option ((List UInt8 × List UInt8 × List UInt8 × Bool) × Bool) :=
  (cond (a1 == 3) ((version_pieces a2).bind fun r3 => ((strings_LastIndex a2 [45, 114]).bind fun r4 => (cond (decide (r4 < 0)) (some (([], a2, [], false), r3.2)) (cutS a2 0 r4 fun s5 => (cutS a2 (IntKind.wrap .i64 (r4 + 2)) (List.length a2 : Int) fun s6 => (some (([], s5, s6, true), r3.2))))))) ((version_epochs a2).bind fun r7 => ((strings_LastIndexByte r7.2.1 45).bind fun r8 => (cond (decide ((0 : Int) ≤ r8)) (cutS r7.2.1 0 r8 fun s9 => (cutS r7.2.1 (IntKind.wrap .i64 (r8 + 1)) (List.length r7.2.1 : Int) fun s10 => ((version_part_k11 a1 r7.2.2 r7.1 s9 s10 true).bind fun r39 => (some ((r39.2.1, r39.2.2.1, r39.2.2.2.1, r39.2.2.2.2), r39.1))))) ((version_part_k11 a1 r7.2.2 r7.1 r7.2.1 [] false).bind fun r40 => (some ((r40.2.1, r40.2.2.1, r40.2.2.2.1, r40.2.2.2.2), r40.1)))))))
theorem version_part_of {a1 : Int} {a2 : Bs} {w} (h : version_part_E a1 a2 = some w) : version_part a1 a2 = some w :=
  fn_ok (mkHd_ok tbl_ok) (H := H39) (fn := r39) rfl rfl (lo_seq (lo_none rfl) (lo_seq (lo_none rfl) (lo_seq (lo_none rfl) (lo_seq (lo_none rfl) (lo_cutT version_part_k11_t_ok (by kernel_rfl)))))) (by simp [r39]) ((show codeK H39 r39.body (argEnv r39.ntmps [AV.int .i64 a1, AV.str a2]) [] (finK r39 0 (.one q1)) = version_part_E a1 a2 by kernel_rfl).trans h)

noncomputable def H40 : Hd := mkHd tbl [version_pieces_l2_t, version_pieces_k20_t, version_pieces_l12_t, version_pieces_k12_t]
noncomputable def version_pieces_l2_E (a2 : Bs) (a3 : As) : Option ((List UInt8 × List AV) ⊕ (List AV × Bool)) :=
  ((version_number a2).bind fun r39 => (cond (r39.1 == []) (some (Sum.inr ([], false))) (roomL (List.length a3 + List.length ([AV.agg [AV.int .i64 6, AV.str r39.1, AV.int .i64 0, AV.bool ((List.length a3 : Int) == 0)]])) 40 ((version_begins r39.2 46).bind fun r40 => (cond (!r40) (some (Sum.inl (r39.2, (a3 ++ [AV.agg [AV.int .i64 6, AV.str r39.1, AV.int .i64 0, AV.bool ((List.length a3 : Int) == 0)]])))) (cutS r39.2 1 (List.length r39.2 : Int) fun s41 => (version_pieces_l2 s41 (a3 ++ [AV.agg [AV.int .i64 6, AV.str r39.1, AV.int .i64 0, AV.bool ((List.length a3 : Int) == 0)]]))))))))
theorem version_pieces_l2_of {a2 : Bs} {a3 : As} {w} (h : version_pieces_l2_E a2 a3 = some w) : version_pieces_l2 a2 a3 = some w :=
  round_ok (mkHd_ok tbl_ok) (H := H40) (body := l40_2) (lo_none rfl) (fun _ => rfl) ((show codeK H40 l40_2 (mkEnv 110 [0, 4] [AV.str a2, AV.sl true 4 a3]) [] (roundK [0, 4] 110 [0, 4] (CodL.cons Cod.str (CodL.one (Cod.sl true 4))) (XCod.alt (.exit 0) (XCod.one (.exit 0) 110 [0, 4] (CodL.cons Cod.str (CodL.one (Cod.sl true 4)))) (XCod.one .ret 110 [2, 3] (CodL.cons (Cod.sl true 4) (CodL.one Cod.bool)))) (fun v => version_pieces_l2 v.1 v.2)) = version_pieces_l2_E a2 a3 by kernel_rfl).trans h)
noncomputable def version_pieces_k20_E (a24 : As) (a25 : Bs) (a26 a27 : Int) : Option (List UInt8 × List AV) :=
  (roomL (List.length a24 + List.length ([AV.agg [AV.int .i64 a27, AV.str [], AV.int .i64 a26, AV.bool false]])) 40 ((version_number a25).bind fun r43 => (cond (!(r43.1 == [])) (roomL (List.length (a24 ++ [AV.agg [AV.int .i64 a27, AV.str [], AV.int .i64 a26, AV.bool false]]) + List.length ([AV.agg [AV.int .i64 3, AV.str r43.1, AV.int .i64 0, AV.bool false]])) 40 (some (r43.2, ((a24 ++ [AV.agg [AV.int .i64 a27, AV.str [], AV.int .i64 a26, AV.bool false]]) ++ [AV.agg [AV.int .i64 3, AV.str r43.1, AV.int .i64 0, AV.bool false]])))) (some (r43.2, (a24 ++ [AV.agg [AV.int .i64 a27, AV.str [], AV.int .i64 a26, AV.bool false]]))))))
theorem version_pieces_k20_of {a24 : As} {a25 : Bs} {a26 a27 : Int} {w} (h : version_pieces_k20_E a24 a25 a26 a27 = some w) : version_pieces_k20 a24 a25 a26 a27 = some w :=
  cut_ok (mkHd_ok tbl_ok) (H := H40) (body := k40_20) (lo_none rfl) ((show codeK H40 k40_20 (mkEnv 110 [4, 8, 9, 10] [AV.sl true 4 a24, AV.str a25, AV.int .i64 a26, AV.int .i64 a27]) [] (cutK [0, 4] (XCod.one .normal 110 [0, 4] (CodL.cons Cod.str (CodL.one (Cod.sl true 4))))) = version_pieces_k20_E a24 a25 a26 a27 by kernel_rfl).trans h)
noncomputable def version_pieces_l12_E (a18 : Bs) (a19 : As) : Option ((List UInt8 × List AV) ⊕ (List AV × Bool)) :=
  ((version_begins a18 95).bind fun r44 => (cond r44 (cutS a18 1 (List.length a18 : Int) fun s45 => ((version_word s45).bind fun r46 => ((slices_Index_string_string ([AV.str [97, 108, 112, 104, 97], AV.str [98, 101, 116, 97], AV.str [112, 114, 101], AV.str [114, 99], AV.str [99, 118, 115], AV.str [115, 118, 110], AV.str [103, 105, 116], AV.str [104, 103], AV.str [112]]) r46.1).bind fun r47 => (cond (decide (r47 < 0)) (some (Sum.inr ([], false))) (cond (decide (r47 < 4)) ((version_pieces_k20 a19 r46.2 r47 0).bind fun r48 => (version_pieces_l12 r48.1 r48.2)) ((version_pieces_k20 a19 r46.2 r47 4).bind fun r50 => (version_pieces_l12 r50.1 r50.2))))))) (some (Sum.inl (a18, a19)))))
theorem version_pieces_l12_of {a18 : Bs} {a19 : As} {w} (h : version_pieces_l12_E a18 a19 = some w) : version_pieces_l12 a18 a19 = some w :=
  round_ok (mkHd_ok tbl_ok) (H := H40) (body := l40_12) (lo_seq (lo_none rfl) (lo_block (lo_seq (lo_none rfl) (lo_seq (lo_none rfl) (lo_seq (lo_none rfl) (lo_seq (lo_none rfl) (lo_cutT version_pieces_k20_t_ok (by kernel_rfl)))))))) (fun _ => rfl) ((show codeK H40 l40_12 (mkEnv 110 [0, 4] [AV.str a18, AV.sl true 4 a19]) [] (roundK [0, 4] 110 [0, 4] (CodL.cons Cod.str (CodL.one (Cod.sl true 4))) (XCod.alt (.exit 2) (XCod.one (.exit 2) 110 [0, 4] (CodL.cons Cod.str (CodL.one (Cod.sl true 4)))) (XCod.one .ret 110 [2, 3] (CodL.cons (Cod.sl true 4) (CodL.one Cod.bool)))) (fun v => version_pieces_l12 v.1 v.2)) = version_pieces_l12_E a18 a19 by kernel_rfl).trans h)
noncomputable def version_pieces_k12_E (a16 : Bs) (a17 : As) : Option (List AV × Bool) :=
  ((version_pieces_l12 a16 a17).bind fun r52 => (Sum.elim (fun r53 => ((strings_HasPrefix r53.1 [45, 114]).bind fun r55 => (cond r55 (cutS r53.1 2 (List.length r53.1 : Int) fun s56 => ((version_number s56).bind fun r57 => (cond (r57.1 == []) (some ([], false)) (roomL (List.length r53.2 + List.length ([AV.agg [AV.int .i64 2, AV.str r57.1, AV.int .i64 0, AV.bool false]])) 40 (some ((r53.2 ++ [AV.agg [AV.int .i64 2, AV.str r57.1, AV.int .i64 0, AV.bool false]]), (r57.2 == []))))))) (some (r53.2, (r53.1 == [])))))) (fun r54 => (some (r54.1, r54.2))) r52))
theorem version_pieces_k12_of {a16 : Bs} {a17 : As} {w} (h : version_pieces_k12_E a16 a17 = some w) : version_pieces_k12 a16 a17 = some w :=
  cut_ok (mkHd_ok tbl_ok) (H := H40) (body := k40_12) (lo_seq (lo_block (lo_loopT version_pieces_l12_t_ok (by kernel_rfl))) (lo_none rfl)) ((show codeK H40 k40_12 (mkEnv 110 [0, 4] [AV.str a16, AV.sl true 4 a17]) [] (cutK [2, 3] (XCod.one .ret 110 [2, 3] (CodL.cons (Cod.sl true 4) (CodL.one Cod.bool)))) = version_pieces_k12_E a16 a17 by kernel_rfl).trans h)
noncomputable def version_pieces_E (a1 : Bs) : Option (List AV × Bool) :=
  ((version_pieces_l2 a1 []).bind fun r7 => (Sum.elim (fun r8 => ((cond (!(r8.1 == [])) (idxS r8.1 0 fun c10 => (some (decide ((97 : Int) ≤ (UInt8.toNat c10 : Int))))) (some false)).bind fun b11 => ((cond b11 (idxS r8.1 0 fun c12 => (some (decide ((UInt8.toNat c12 : Int) ≤ 122)))) (some false)).bind fun b13 => (cond b13 (cutS r8.1 0 1 fun s14 => (roomL (List.length r8.2 + List.length ([AV.agg [AV.int .i64 5, AV.str s14, AV.int .i64 0, AV.bool false]])) 40 (cutS r8.1 1 (List.length r8.1 : Int) fun s15 => ((version_pieces_k12 s15 (r8.2 ++ [AV.agg [AV.int .i64 5, AV.str s14, AV.int .i64 0, AV.bool false]])).bind fun r37 => (some (r37.1, r37.2)))))) ((version_pieces_k12 r8.1 r8.2).bind fun r38 => (some (r38.1, r38.2))))))) (fun r9 => (some (r9.1, r9.2))) r7))
theorem version_pieces_of {a1 : Bs} {w} (h : version_pieces_E a1 = some w) : version_pieces a1 = some w :=
  fn_ok (mkHd_ok tbl_ok) (H := H40) (fn := r40) rfl rfl (lo_seq (lo_none rfl) (lo_seq (lo_none rfl) (lo_seq (lo_block (lo_loopT version_pieces_l2_t_ok (by kernel_rfl))) (lo_seq (lo_none rfl) (lo_cutT version_pieces_k12_t_ok (by kernel_rfl)))))) (by simp [r40]) ((show codeK H40 r40.body (argEnv r40.ntmps [AV.str a1]) [] (finK r40 0 (.one q2)) = version_pieces_E a1 by kernel_rfl).trans h)

noncomputable def H41_f42 : Hd := mkHd tbl [slices_CompareFunc_version_piece_version_piece_version_piece_version_piece_f42_l2_t]
noncomputable def slices_CompareFunc_version_piece_version_piece_version_piece_version_piece_f42_l2_E (a3 a4 a5 : As) (a6 a7 : Int) : Option ((List AV × List AV) ⊕ Int) :=
  (cond (decide (a7 < a6)) (getL a5 a7 fun x40 => (dAgg x40 fun y41 => (dCons y41 fun y42 y43 => (dInt .i64 y42 fun n44 => (dCons y43 fun y45 y46 => (dStr y45 fun s47 => (dCons y46 fun y48 y49 => (dInt .i64 y48 fun n50 => (dCons y49 fun y51 y52 => (dBool y51 fun b53 => (dNil y52 (cond (decide ((List.length a4 : Int) ≤ a7)) (some (Sum.inr 1)) (getL a4 a7 fun x54 => (dAgg x54 fun y55 => (dCons y55 fun y56 y57 => (dInt .i64 y56 fun n58 => (dCons y57 fun y59 y60 => (dStr y59 fun s61 => (dCons y60 fun y62 y63 => (dInt .i64 y62 fun n64 => (dCons y63 fun y65 y66 => (dBool y65 fun b67 => (dNil y66 ((version_piece_compare n44 s47 n50 b53 n58 s61 n64 b67).bind fun r68 => (cond (r68 != 0) (some (Sum.inr r68)) (slices_CompareFunc_version_piece_version_piece_version_piece_version_piece_f42_l2 a3 a4 a5 a6 (IntKind.wrap .i64 (a7 + 1)))))))))))))))))))))))))))) (some (Sum.inl (a3, a4))))
theorem slices_CompareFunc_version_piece_version_piece_version_piece_version_piece_f42_l2_of {a3 a4 a5 : As} {a6 a7 : Int} {w} (h : slices_CompareFunc_version_piece_version_piece_version_piece_version_piece_f42_l2_E a3 a4 a5 a6 a7 = some w) : slices_CompareFunc_version_piece_version_piece_version_piece_version_piece_f42_l2 a3 a4 a5 a6 a7 = some w :=
  round_ok (mkHd_ok tbl_ok) (H := H41_f42) (body := l41_2) (lo_frame (lo_none rfl)) (fun _ => rfl) ((show codeK H41_f42 l41_2 (mkEnv 39 [0, 1, 2, 11, 12, 13] [AV.sl false 4 a3, AV.sl false 4 a4, AV.fn 42 [], AV.sl false 4 a5, AV.int .i64 a6, AV.int .i64 a7]) [] (roundK [0, 1, 2, 11, 12, 13] 39 [0, 1, 2, 11, 12, 13] (CodL.cons (Cod.sl false 4) (CodL.cons (Cod.sl false 4) (CodL.fix (AV.fn 42 []) (CodL.cons (Cod.sl false 4) (CodL.cons (Cod.int .i64) (CodL.one (Cod.int .i64))))))) (XCod.alt (.exit 0) (XCod.one (.exit 0) 39 [0, 1] (CodL.cons (Cod.sl false 4) (CodL.one (Cod.sl false 4)))) (XCod.one .ret 39 [6] (CodL.one (Cod.int .i64)))) (fun v => slices_CompareFunc_version_piece_version_piece_version_piece_version_piece_f42_l2 v.1 v.2.1 v.2.2.1 v.2.2.2.1 v.2.2.2.2)) = slices_CompareFunc_version_piece_version_piece_version_piece_version_piece_f42_l2_E a3 a4 a5 a6 a7 by kernel_rfl).trans h)
noncomputable def slices_CompareFunc_version_piece_version_piece_version_piece_version_piece_f42_E (a1 a2 : As) : Option Int :=
  ((slices_CompareFunc_version_piece_version_piece_version_piece_version_piece_f42_l2 a1 a2 a1 (List.length a1 : Int) 0).bind fun r37 => (Sum.elim (fun r38 => (cond (decide ((List.length r38.1 : Int) < (List.length r38.2 : Int))) (some (-1)) (some 0))) (fun r39 => (some r39)) r37))
theorem slices_CompareFunc_version_piece_version_piece_version_piece_version_piece_f42_of {a1 a2 : As} {w} (h : slices_CompareFunc_version_piece_version_piece_version_piece_version_piece_f42_E a1 a2 = some w) : slices_CompareFunc_version_piece_version_piece_version_piece_version_piece_f42 a1 a2 = some w :=
  fn_ok (mkHd_ok tbl_ok) (H := H41_f42) (fn := r41) rfl rfl (lo_seq (lo_none rfl) (lo_seq (lo_seq (lo_none rfl) (lo_block (lo_loopT slices_CompareFunc_version_piece_version_piece_version_piece_version_piece_f42_l2_t_ok (by kernel_rfl)))) (lo_none rfl))) (by simp [r41]) ((show codeK H41_f42 r41.body (argEnv r41.ntmps [AV.sl false 4 a1, AV.sl false 4 a2, AV.fn 42 []]) [] (finK r41 0 (.one (Cod.int .i64))) = slices_CompareFunc_version_piece_version_piece_version_piece_version_piece_f42_E a1 a2 by kernel_rfl).trans h)

noncomputable def H46 : Hd := mkHd tbl []
noncomputable def version_numbers_E (a1 a2 : Bs) : Option Int :=
  ((strings_TrimLeft a1 [48]).bind fun r3 => ((strings_TrimLeft a2 [48]).bind fun r4 => ((cmp_Compare_int (List.length r3 : Int) (List.length r4 : Int)).bind fun r5 => ((cmp_Compare_string r3 r4).bind fun r6 => ((cmp_Or_int [AV.int .i64 r5, AV.int .i64 r6]).bind fun r7 => (some r7))))))
theorem version_numbers_of {a1 a2 : Bs} {w} (h : version_numbers_E a1 a2 = some w) : version_numbers a1 a2 = some w :=
  fn_ok (mkHd_ok tbl_ok) (H := H46) (fn := r46) rfl rfl (lo_none rfl) (by simp [r46]) ((show codeK H46 r46.body (argEnv r46.ntmps [AV.str a1, AV.str a2]) [] (finK r46 0 (.one (Cod.int .i64))) = version_numbers_E a1 a2 by kernel_rfl).trans h)

noncomputable def H44 : Hd := mkHd tbl [version_rpm_l1_t]
noncomputable def version_rpm_l1_E (a3 a4 : Bs) : Option Int :=
  ((version_skip a3).bind fun r29 => ((version_skip a4).bind fun r30 => ((version_begins r29 126).bind fun r31 => ((version_begins r30 126).bind fun r32 => ((version_begins r29 94).bind fun r33 => ((version_begins r30 94).bind fun r34 => (cond (!(r31 == r32)) ((version_older r31).bind fun r35 => (some r35)) ((cond (!(r33 == r34)) (cond (r29 == []) (some true) (some (r30 == []))) (some false)).bind fun b36 => (cond b36 ((version_older r33).bind fun r37 => (some (IntKind.wrap .i64 (0 - r37)))) (cond (!(r33 == r34)) ((version_older r33).bind fun r38 => (some r38)) ((cond r31 (some true) (some r33)).bind fun b39 => (cond b39 (cutS r29 1 (List.length r29 : Int) fun s40 => (cutS r30 1 (List.length r30 : Int) fun s41 => (version_rpm_l1 s40 s41))) ((cond (r29 == []) (some true) (some (r30 == []))).bind fun b43 => (cond b43 ((cmp_Compare_int (if 1 < (List.length r29 : Int) then 1 else (List.length r29 : Int)) (if 1 < (List.length r30 : Int) then 1 else (List.length r30 : Int))).bind fun r44 => (some r44)) (idxS r29 0 fun c45 => ((version_digit (UInt8.toNat c45 : Int)).bind fun r46 => (cond r46 ((version_number r29).bind fun r47 => ((version_number r30).bind fun r48 => ((version_numbers r47.1 r48.1).bind fun r49 => (cond (r48.1 == []) (some 1) (cond (r49 != 0) (some r49) (version_rpm_l1 r47.2 r48.2)))))) ((version_word r29).bind fun r51 => ((version_word r30).bind fun r52 => ((cmp_Compare_string r51.1 r52.1).bind fun r53 => (cond (r52.1 == []) (some (-1)) (cond (r53 != 0) (some r53) (version_rpm_l1 r51.2 r52.2)))))))))))))))))))))))
theorem version_rpm_l1_of {a3 a4 : Bs} {w} (h : version_rpm_l1_E a3 a4 = some w) : version_rpm_l1 a3 a4 = some w :=
  round_ok (mkHd_ok tbl_ok) (H := H44) (body := l44_1) (lo_none rfl) (fun _ => rfl) ((show codeK H44 l44_1 (mkEnv 110 [0, 1] [AV.str a3, AV.str a4]) [] (roundK [0, 1] 110 [0, 1] (CodL.cons Cod.str (CodL.one Cod.str)) (XCod.one .ret 110 [4] (CodL.one (Cod.int .i64))) (fun v => version_rpm_l1 v.1 v.2)) = version_rpm_l1_E a3 a4 by kernel_rfl).trans h)
noncomputable def version_rpm_E (a1 a2 : Bs) : Option Int :=
  ((version_rpm_l1 a1 a2).bind fun r28 => (some r28))
theorem version_rpm_of {a1 a2 : Bs} {w} (h : version_rpm_E a1 a2 = some w) : version_rpm a1 a2 = some w :=
  fn_ok (mkHd_ok tbl_ok) (H := H44) (fn := r44) rfl rfl (lo_seq (lo_none rfl) (lo_block (lo_loopT version_rpm_l1_t_ok (by kernel_rfl)))) (by simp [r44]) ((show codeK H44 r44.body (argEnv r44.ntmps [AV.str a1, AV.str a2]) [] (finK r44 0 (.one (Cod.int .i64))) = version_rpm_E a1 a2 by kernel_rfl).trans h)

noncomputable def H45 : Hd := mkHd tbl [cmp_Or_int_l3_t]
noncomputable def cmp_Or_int_l3_E (a2 : Int) (a3 : As) (a4 a5 : Int) : Option (Int ⊕ Int) :=
  (cond (decide (a5 < a4)) (getL a3 a5 fun x11 => (dInt .i64 x11 fun n12 => (cond (n12 != a2) (some (Sum.inr n12)) (cmp_Or_int_l3 a2 a3 a4 (IntKind.wrap .i64 (a5 + 1)))))) (some (Sum.inl a2)))
theorem cmp_Or_int_l3_of {a2 : Int} {a3 : As} {a4 a5 : Int} {w} (h : cmp_Or_int_l3_E a2 a3 a4 a5 = some w) : cmp_Or_int_l3 a2 a3 a4 a5 = some w :=
  round_ok (mkHd_ok tbl_ok) (H := H45) (body := l45_3) (lo_none rfl) (fun _ => rfl) ((show codeK H45 l45_3 (mkEnv 18 [3, 6, 7, 8] [AV.int .i64 a2, AV.sl false 1 a3, AV.int .i64 a4, AV.int .i64 a5]) [] (roundK [3, 6, 7, 8] 18 [3, 6, 7, 8] (CodL.cons (Cod.int .i64) (CodL.cons (Cod.sl false 1) (CodL.cons (Cod.int .i64) (CodL.one (Cod.int .i64))))) (XCod.alt (.exit 0) (XCod.one (.exit 0) 18 [3] (CodL.one (Cod.int .i64))) (XCod.one .ret 18 [2] (CodL.one (Cod.int .i64)))) (fun v => cmp_Or_int_l3 v.1 v.2.1 v.2.2.1 v.2.2.2)) = cmp_Or_int_l3_E a2 a3 a4 a5 by kernel_rfl).trans h)
noncomputable def cmp_Or_int_E (a1 : As) : Option Int :=
  ((cmp_Or_int_l3 0 a1 (List.length a1 : Int) 0).bind fun r8 => (Sum.elim (fun r9 => (some r9)) (fun r10 => (some r10)) r8))
theorem cmp_Or_int_of {a1 : As} {w} (h : cmp_Or_int_E a1 = some w) : cmp_Or_int a1 = some w :=
  fn_ok (mkHd_ok tbl_ok) (H := H45) (fn := r45) rfl rfl (lo_seq (lo_none rfl) (lo_seq (lo_none rfl) (lo_seq (lo_seq (lo_none rfl) (lo_block (lo_loopT cmp_Or_int_l3_t_ok (by kernel_rfl)))) (lo_none rfl)))) (by simp [r45]) ((show codeK H45 r45.body (argEnv r45.ntmps [AV.sl false 1 a1]) [] (finK r45 0 (.one (Cod.int .i64))) = cmp_Or_int_E a1 by kernel_rfl).trans h)

noncomputable def H43 : Hd := mkHd tbl [version_dpkg_l2_t, version_dpkg_l1_t]
noncomputable def version_dpkg_l2_E (a6 a7 : Bs) : Option ((List UInt8 × List UInt8) ⊕ Int) :=
  ((version_weight a6).bind fun r25 => ((cond (r25 != 0) (some true) ((version_weight a7).bind fun r26 => (some (r26 != 0)))).bind fun b27 => (cond b27 ((version_weight a6).bind fun r28 => ((version_weight a7).bind fun r29 => ((cmp_Compare_int r28 r29).bind fun r30 => (cond (r30 != 0) (some (Sum.inr r30)) (cutS a6 1 (List.length a6 : Int) fun s31 => (cutS a7 1 (List.length a7 : Int) fun s32 => (version_dpkg_l2 s31 s32))))))) (some (Sum.inl (a6, a7))))))
theorem version_dpkg_l2_of {a6 a7 : Bs} {w} (h : version_dpkg_l2_E a6 a7 = some w) : version_dpkg_l2 a6 a7 = some w :=
  round_ok (mkHd_ok tbl_ok) (H := H43) (body := l43_2) (lo_none rfl) (fun _ => rfl) ((show codeK H43 l43_2 (mkEnv 51 [0, 1] [AV.str a6, AV.str a7]) [] (roundK [0, 1] 51 [0, 1] (CodL.cons Cod.str (CodL.one Cod.str)) (XCod.alt (.exit 2) (XCod.one (.exit 2) 51 [0, 1] (CodL.cons Cod.str (CodL.one Cod.str))) (XCod.one .ret 51 [4] (CodL.one (Cod.int .i64)))) (fun v => version_dpkg_l2 v.1 v.2)) = version_dpkg_l2_E a6 a7 by kernel_rfl).trans h)
noncomputable def version_dpkg_l1_E (a3 a4 : Bs) : Option (Unit ⊕ Int) :=
  ((cond (!(a3 == [])) (some true) (some (!(a4 == [])))).bind fun b34 => (cond b34 ((version_dpkg_l2 a3 a4).bind fun r35 => (Sum.elim (fun r36 => ((version_number r36.1).bind fun r38 => ((version_number r36.2).bind fun r39 => ((version_numbers r38.1 r39.1).bind fun r40 => (cond (r40 != 0) (some (Sum.inr r40)) (version_dpkg_l1 r38.2 r39.2)))))) (fun r37 => (some (Sum.inr r37))) r35)) (some (Sum.inl ()))))
theorem version_dpkg_l1_of {a3 a4 : Bs} {w} (h : version_dpkg_l1_E a3 a4 = some w) : version_dpkg_l1 a3 a4 = some w :=
  round_ok (mkHd_ok tbl_ok) (H := H43) (body := l43_1) (lo_seq (lo_none rfl) (lo_block (lo_seq (lo_block (lo_loopT version_dpkg_l2_t_ok (by kernel_rfl))) (lo_none rfl)))) (fun _ => rfl) ((show codeK H43 l43_1 (mkEnv 51 [0, 1] [AV.str a3, AV.str a4]) [] (roundK [0, 1] 51 [0, 1] (CodL.cons Cod.str (CodL.one Cod.str)) (XCod.alt (.exit 0) (XCod.one (.exit 0) 51 [] CodL.nil) (XCod.one .ret 51 [4] (CodL.one (Cod.int .i64)))) (fun v => version_dpkg_l1 v.1 v.2)) = version_dpkg_l1_E a3 a4 by kernel_rfl).trans h)
noncomputable def version_dpkg_E (a1 a2 : Bs) : Option Int :=
  ((version_dpkg_l1 a1 a2).bind fun r22 => (Sum.elim (fun r23 => (some 0)) (fun r24 => (some r24)) r22))
theorem version_dpkg_of {a1 a2 : Bs} {w} (h : version_dpkg_E a1 a2 = some w) : version_dpkg a1 a2 = some w :=
  fn_ok (mkHd_ok tbl_ok) (H := H43) (fn := r43) rfl rfl (lo_seq (lo_none rfl) (lo_seq (lo_block (lo_loopT version_dpkg_l1_t_ok (by kernel_rfl))) (lo_none rfl))) (by simp [r43]) ((show codeK H43 r43.body (argEnv r43.ntmps [AV.str a1, AV.str a2]) [] (finK r43 0 (.one (Cod.int .i64))) = version_dpkg_E a1 a2 by kernel_rfl).trans h)

noncomputable def H77 : Hd := mkHd tbl []
noncomputable def strings_LastIndex_E (a1 a2 : Bs) : Option Int :=
  (cond ((List.length a2 : Int) == 0) (some (List.length a1 : Int)) (cond ((List.length a2 : Int) == 1) (idxS a2 0 fun c3 => ((i_bytealg_LastIndexByteString a1 (UInt8.toNat c3 : Int)).bind fun r4 => (some r4))) (cond ((List.length a2 : Int) == (List.length a1 : Int)) (cond (a2 == a1) (some 0) (some (-1))) (cond (decide ((List.length a1 : Int) < (List.length a2 : Int))) (some (-1)) ((i_bytealg_LastIndexRabinKarp_string a1 a2).bind fun r5 => (some r5))))))
theorem strings_LastIndex_of {a1 a2 : Bs} {w} (h : strings_LastIndex_E a1 a2 = some w) : strings_LastIndex a1 a2 = some w :=
  fn_ok (mkHd_ok tbl_ok) (H := H77) (fn := r77) rfl rfl (lo_none rfl) (by simp [r77]) ((show codeK H77 r77.body (argEnv r77.ntmps [AV.str a1, AV.str a2]) [] (finK r77 0 (.one (Cod.int .i64))) = strings_LastIndex_E a1 a2 by kernel_rfl).trans h)

noncomputable def H78 : Hd := mkHd tbl []
noncomputable def version_epochs_E (a1 : Bs) : Option (List UInt8 × List UInt8 × Bool) :=
  ((strings_Cut a1 [58]).bind fun r2 => (cond (!r2.2.2) (some ([], a1, true)) ((version_number r2.1).bind fun r3 => ((cond (!(r3.1 == [])) (some (r3.2 == [])) (some false)).bind fun b4 => ((cond b4 (some (decide ((List.length r3.1 : Int) < 10))) (some false)).bind fun b5 => (some (r2.1, r2.2.1, b5)))))))
theorem version_epochs_of {a1 : Bs} {w} (h : version_epochs_E a1 = some w) : version_epochs a1 = some w :=
  fn_ok (mkHd_ok tbl_ok) (H := H78) (fn := r78) rfl rfl (lo_none rfl) (by simp [r78]) ((show codeK H78 r78.body (argEnv r78.ntmps [AV.str a1]) [] (finK r78 0 (.one q3)) = version_epochs_E a1 by kernel_rfl).trans h)

noncomputable def H79 : Hd := mkHd tbl []
noncomputable def strings_LastIndexByte_E (a1 : Bs) (a2 : Int) : Option Int :=
  ((i_bytealg_LastIndexByteString a1 a2).bind fun r3 => (some r3))
theorem strings_LastIndexByte_of {a1 : Bs} {a2 : Int} {w} (h : strings_LastIndexByte_E a1 a2 = some w) : strings_LastIndexByte a1 a2 = some w :=
  fn_ok (mkHd_ok tbl_ok) (H := H79) (fn := r79) rfl rfl (lo_none rfl) (by simp [r79]) ((show codeK H79 r79.body (argEnv r79.ntmps [AV.str a1, AV.int .u8 a2]) [] (finK r79 0 (.one (Cod.int .i64))) = strings_LastIndexByte_E a1 a2 by kernel_rfl).trans h)

noncomputable def H80 : Hd := mkHd tbl [version_made_l2_t]
noncomputable def version_made_l2_E (a3 a4 : Bs) (a5 : Int) : Option (List UInt8 ⊕ Bool) :=
  (cond (decide (a5 < (List.length a3 : Int))) (idxS a3 a5 fun c17 => ((version_digit (UInt8.toNat c17 : Int)).bind fun r18 => ((cond (!r18) (idxS a3 a5 fun c19 => ((version_letter (UInt8.toNat c19 : Int)).bind fun r20 => (some (!r20)))) (some false)).bind fun b21 => ((cond b21 (idxS a3 a5 fun c22 => ((strings_IndexByte a4 (UInt8.toNat c22 : Int)).bind fun r23 => (some (decide (r23 < 0))))) (some false)).bind fun b24 => (cond b24 (some (Sum.inr false)) (version_made_l2 a3 a4 (IntKind.wrap .i64 (a5 + 1)))))))) (some (Sum.inl a3)))
theorem version_made_l2_of {a3 a4 : Bs} {a5 : Int} {w} (h : version_made_l2_E a3 a4 a5 = some w) : version_made_l2 a3 a4 a5 = some w :=
  round_ok (mkHd_ok tbl_ok) (H := H80) (body := l80_2) (lo_none rfl) (fun _ => rfl) ((show codeK H80 l80_2 (mkEnv 34 [0, 1, 5] [AV.str a3, AV.str a4, AV.int .i64 a5]) [] (roundK [0, 1, 5] 34 [0, 1, 5] (CodL.cons Cod.str (CodL.cons Cod.str (CodL.one (Cod.int .i64)))) (XCod.alt (.exit 0) (XCod.one (.exit 0) 34 [0] (CodL.one Cod.str)) (XCod.one .ret 34 [4] (CodL.one Cod.bool))) (fun v => version_made_l2 v.1 v.2.1 v.2.2)) = version_made_l2_E a3 a4 a5 by kernel_rfl).trans h)
noncomputable def version_made_E (a1 a2 : Bs) : Option Bool :=
  ((version_made_l2 a1 a2 0).bind fun r14 => (Sum.elim (fun r15 => (some (!(r15 == [])))) (fun r16 => (some r16)) r14))
theorem version_made_of {a1 a2 : Bs} {w} (h : version_made_E a1 a2 = some w) : version_made a1 a2 = some w :=
  fn_ok (mkHd_ok tbl_ok) (H := H80) (fn := r80) rfl rfl (lo_seq (lo_none rfl) (lo_seq (lo_seq (lo_none rfl) (lo_block (lo_loopT version_made_l2_t_ok (by kernel_rfl)))) (lo_none rfl))) (by simp [r80]) ((show codeK H80 r80.body (argEnv r80.ntmps [AV.str a1, AV.str a2]) [] (finK r80 0 (.one Cod.bool)) = version_made_E a1 a2 by kernel_rfl).trans h)

noncomputable def H81 : Hd := mkHd tbl []
noncomputable def version_digit_E (a1 : Int) : Option Bool :=
  ((cond (decide ((48 : Int) ≤ a1)) (some (decide (a1 ≤ 57))) (some false)).bind fun b2 => (some b2))
theorem version_digit_of {a1 : Int} {w} (h : version_digit_E a1 = some w) : version_digit a1 = some w :=
  fn_ok (mkHd_ok tbl_ok) (H := H81) (fn := r81) rfl rfl (lo_none rfl) (by simp [r81]) ((show codeK H81 r81.body (argEnv r81.ntmps [AV.int .u8 a1]) [] (finK r81 0 (.one Cod.bool)) = version_digit_E a1 by kernel_rfl).trans h)

noncomputable def H82 : Hd := mkHd tbl [version_number_l2_t]
noncomputable def version_number_l2_E (a2 : Bs) (a3 : Int) : Option (List UInt8 × Int) :=
  ((cond (decide (a3 < (List.length a2 : Int))) (idxS a2 a3 fun c10 => ((version_digit (UInt8.toNat c10 : Int)).bind fun r11 => (some r11))) (some false)).bind fun b12 => (cond b12 (version_number_l2 a2 (IntKind.wrap .i64 (a3 + 1))) (some (a2, a3))))
theorem version_number_l2_of {a2 : Bs} {a3 : Int} {w} (h : version_number_l2_E a2 a3 = some w) : version_number_l2 a2 a3 = some w :=
  round_ok (mkHd_ok tbl_ok) (H := H82) (body := l82_2) (lo_none rfl) (fun _ => rfl) ((show codeK H82 l82_2 (mkEnv 23 [0, 4] [AV.str a2, AV.int .i64 a3]) [] (roundK [0, 4] 23 [0, 4] (CodL.cons Cod.str (CodL.one (Cod.int .i64))) (XCod.one (.exit 0) 23 [0, 4] (CodL.cons Cod.str (CodL.one (Cod.int .i64)))) (fun v => version_number_l2 v.1 v.2)) = version_number_l2_E a2 a3 by kernel_rfl).trans h)
noncomputable def version_number_E (a1 : Bs) : Option (List UInt8 × List UInt8) :=
  ((version_number_l2 a1 0).bind fun r7 => (cutS r7.1 0 r7.2 fun s8 => (cutS r7.1 r7.2 (List.length r7.1 : Int) fun s9 => (some (s8, s9)))))
theorem version_number_of {a1 : Bs} {w} (h : version_number_E a1 = some w) : version_number a1 = some w :=
  fn_ok (mkHd_ok tbl_ok) (H := H82) (fn := r82) rfl rfl (lo_seq (lo_none rfl) (lo_seq (lo_none rfl) (lo_seq (lo_block (lo_loopT version_number_l2_t_ok (by kernel_rfl))) (lo_none rfl)))) (by simp [r82]) ((show codeK H82 r82.body (argEnv r82.ntmps [AV.str a1]) [] (finK r82 0 (.one q4)) = version_number_E a1 by kernel_rfl).trans h)

noncomputable def H83 : Hd := mkHd tbl []
noncomputable def version_begins_E (a1 : Bs) (a2 : Int) : Option Bool :=
  ((cond (!(a1 == [])) (idxS a1 0 fun c3 => (some ((UInt8.toNat c3 : Int) == a2))) (some false)).bind fun b4 => (some b4))
theorem version_begins_of {a1 : Bs} {a2 : Int} {w} (h : version_begins_E a1 a2 = some w) : version_begins a1 a2 = some w :=
  fn_ok (mkHd_ok tbl_ok) (H := H83) (fn := r83) rfl rfl (lo_none rfl) (by simp [r83]) ((show codeK H83 r83.body (argEnv r83.ntmps [AV.str a1, AV.int .u8 a2]) [] (finK r83 0 (.one Cod.bool)) = version_begins_E a1 a2 by kernel_rfl).trans h)

noncomputable def H84 : Hd := mkHd tbl [version_word_l2_t]
noncomputable def version_word_l2_E (a2 : Bs) (a3 : Int) : Option (List UInt8 × Int) :=
  ((cond (decide (a3 < (List.length a2 : Int))) (idxS a2 a3 fun c10 => ((version_letter (UInt8.toNat c10 : Int)).bind fun r11 => (some r11))) (some false)).bind fun b12 => (cond b12 (version_word_l2 a2 (IntKind.wrap .i64 (a3 + 1))) (some (a2, a3))))
theorem version_word_l2_of {a2 : Bs} {a3 : Int} {w} (h : version_word_l2_E a2 a3 = some w) : version_word_l2 a2 a3 = some w :=
  round_ok (mkHd_ok tbl_ok) (H := H84) (body := l84_2) (lo_none rfl) (fun _ => rfl) ((show codeK H84 l84_2 (mkEnv 23 [0, 4] [AV.str a2, AV.int .i64 a3]) [] (roundK [0, 4] 23 [0, 4] (CodL.cons Cod.str (CodL.one (Cod.int .i64))) (XCod.one (.exit 0) 23 [0, 4] (CodL.cons Cod.str (CodL.one (Cod.int .i64)))) (fun v => version_word_l2 v.1 v.2)) = version_word_l2_E a2 a3 by kernel_rfl).trans h)
noncomputable def version_word_E (a1 : Bs) : Option (List UInt8 × List UInt8) :=
  ((version_word_l2 a1 0).bind fun r7 => (cutS r7.1 0 r7.2 fun s8 => (cutS r7.1 r7.2 (List.length r7.1 : Int) fun s9 => (some (s8, s9)))))
theorem version_word_of {a1 : Bs} {w} (h : version_word_E a1 = some w) : version_word a1 = some w :=
  fn_ok (mkHd_ok tbl_ok) (H := H84) (fn := r84) rfl rfl (lo_seq (lo_none rfl) (lo_seq (lo_none rfl) (lo_seq (lo_block (lo_loopT version_word_l2_t_ok (by kernel_rfl))) (lo_none rfl)))) (by simp [r84]) ((show codeK H84 r84.body (argEnv r84.ntmps [AV.str a1]) [] (finK r84 0 (.one q4)) = version_word_E a1 by kernel_rfl).trans h)

noncomputable def H75 : Hd := mkHd tbl [slices_Index_string_string_l2_t]
noncomputable def slices_Index_string_string_l2_E (a3 : As) (a4 : Bs) (a5 a6 : Int) : Option (Unit ⊕ Int) :=
  (cond (decide (a6 < a5)) (getL a3 a6 fun x12 => (dStr x12 fun s13 => (cond (a4 == s13) (some (Sum.inr a6)) (slices_Index_string_string_l2 a3 a4 a5 (IntKind.wrap .i64 (a6 + 1)))))) (some (Sum.inl ())))
theorem slices_Index_string_string_l2_of {a3 : As} {a4 : Bs} {a5 a6 : Int} {w} (h : slices_Index_string_string_l2_E a3 a4 a5 a6 = some w) : slices_Index_string_string_l2 a3 a4 a5 a6 = some w :=
  round_ok (mkHd_ok tbl_ok) (H := H75) (body := l75_2) (lo_none rfl) (fun _ => rfl) ((show codeK H75 l75_2 (mkEnv 19 [0, 1, 7, 8] [AV.sl false 1 a3, AV.str a4, AV.int .i64 a5, AV.int .i64 a6]) [] (roundK [0, 1, 7, 8] 19 [0, 1, 7, 8] (CodL.cons (Cod.sl false 1) (CodL.cons Cod.str (CodL.cons (Cod.int .i64) (CodL.one (Cod.int .i64))))) (XCod.alt (.exit 0) (XCod.one (.exit 0) 19 [] CodL.nil) (XCod.one .ret 19 [4] (CodL.one (Cod.int .i64)))) (fun v => slices_Index_string_string_l2 v.1 v.2.1 v.2.2.1 v.2.2.2)) = slices_Index_string_string_l2_E a3 a4 a5 a6 by kernel_rfl).trans h)
noncomputable def slices_Index_string_string_E (a1 : As) (a2 : Bs) : Option Int :=
  ((slices_Index_string_string_l2 a1 a2 (List.length a1 : Int) 0).bind fun r9 => (Sum.elim (fun r10 => (some (-1))) (fun r11 => (some r11)) r9))
theorem slices_Index_string_string_of {a1 : As} {a2 : Bs} {w} (h : slices_Index_string_string_E a1 a2 = some w) : slices_Index_string_string a1 a2 = some w :=
  fn_ok (mkHd_ok tbl_ok) (H := H75) (fn := r75) rfl rfl (lo_seq (lo_none rfl) (lo_seq (lo_seq (lo_none rfl) (lo_block (lo_loopT slices_Index_string_string_l2_t_ok (by kernel_rfl)))) (lo_none rfl))) (by simp [r75]) ((show codeK H75 r75.body (argEnv r75.ntmps [AV.sl false 1 a1, AV.str a2]) [] (finK r75 0 (.one (Cod.int .i64))) = slices_Index_string_string_E a1 a2 by kernel_rfl).trans h)

noncomputable def H52 : Hd := mkHd tbl []
noncomputable def strings_HasPrefix_E (a1 a2 : Bs) : Option Bool :=
  ((i_stringslite_HasPrefix a1 a2).bind fun r3 => (some r3))
theorem strings_HasPrefix_of {a1 a2 : Bs} {w} (h : strings_HasPrefix_E a1 a2 = some w) : strings_HasPrefix a1 a2 = some w :=
  fn_ok (mkHd_ok tbl_ok) (H := H52) (fn := r52) rfl rfl (lo_none rfl) (by simp [r52]) ((show codeK H52 r52.body (argEnv r52.ntmps [AV.str a1, AV.str a2]) [] (finK r52 0 (.one Cod.bool)) = strings_HasPrefix_E a1 a2 by kernel_rfl).trans h)

noncomputable def H42 : Hd := mkHd tbl []
noncomputable def version_piece_compare_E (a1 : Int) (a2 : Bs) (a3 : Int) (a4 : Bool) (a5 : Int) (a6 : Bs) (a7 : Int) (a8 : Bool) : Option Int :=
  ((cmp_Compare_int a1 a5).bind fun r9 => (cond (r9 != 0) (some r9) ((cond (a1 == 6) (some (!a4)) (some false)).bind fun b10 => (cond b10 ((version_piece_compare_1 a2).bind fun r11 => (cond r11 ((some true).bind fun b12 => (cond b12 ((cmp_Compare_string a2 a6).bind fun r13 => (some r13)) ((cond (a1 == 6) (some true) (some (a1 == 3))).bind fun b14 => ((cond b14 (some true) (some (a1 == 2))).bind fun b15 => (cond b15 ((version_numbers a2 a6).bind fun r16 => (some r16)) ((cmp_Compare_int a3 a7).bind fun r17 => ((cmp_Compare_string a2 a6).bind fun r18 => ((cmp_Or_int [AV.int .i64 r17, AV.int .i64 r18]).bind fun r19 => (some r19))))))))) ((version_piece_compare_1 a6).bind fun r20 => ((some r20).bind fun b21 => (cond b21 ((cmp_Compare_string a2 a6).bind fun r22 => (some r22)) ((cond (a1 == 6) (some true) (some (a1 == 3))).bind fun b23 => ((cond b23 (some true) (some (a1 == 2))).bind fun b24 => (cond b24 ((version_numbers a2 a6).bind fun r25 => (some r25)) ((cmp_Compare_int a3 a7).bind fun r26 => ((cmp_Compare_string a2 a6).bind fun r27 => ((cmp_Or_int [AV.int .i64 r26, AV.int .i64 r27]).bind fun r28 => (some r28)))))))))))) ((some false).bind fun b29 => (cond b29 ((cmp_Compare_string a2 a6).bind fun r30 => (some r30)) ((cond (a1 == 6) (some true) (some (a1 == 3))).bind fun b31 => ((cond b31 (some true) (some (a1 == 2))).bind fun b32 => (cond b32 ((version_numbers a2 a6).bind fun r33 => (some r33)) ((cmp_Compare_int a3 a7).bind fun r34 => ((cmp_Compare_string a2 a6).bind fun r35 => ((cmp_Or_int [AV.int .i64 r34, AV.int .i64 r35]).bind fun r36 => (some r36)))))))))))))
theorem version_piece_compare_of {a1 : Int} {a2 : Bs} {a3 : Int} {a4 : Bool} {a5 : Int} {a6 : Bs} {a7 : Int} {a8 : Bool} {w} (h : version_piece_compare_E a1 a2 a3 a4 a5 a6 a7 a8 = some w) : version_piece_compare a1 a2 a3 a4 a5 a6 a7 a8 = some w :=
  fn_ok (mkHd_ok tbl_ok) (H := H42) (fn := r42) rfl rfl (lo_none rfl) (by simp [r42]) ((show codeK H42 r42.body (argEnv r42.ntmps [AV.agg [AV.int .i64 a1, AV.str a2, AV.int .i64 a3, AV.bool a4], AV.agg [AV.int .i64 a5, AV.str a6, AV.int .i64 a7, AV.bool a8]]) [] (finK r42 0 (.one (Cod.int .i64))) = version_piece_compare_E a1 a2 a3 a4 a5 a6 a7 a8 by kernel_rfl).trans h)

noncomputable def H90 : Hd := mkHd tbl []
noncomputable def strings_TrimLeft_E (a1 a2 : Bs) : Option (List UInt8) :=
  ((cond (a1 == []) (some true) (some (a2 == []))).bind fun b3 => (cond b3 (some a1) ((cond ((List.length a2 : Int) == 1) (idxS a2 0 fun c4 => (some (decide ((UInt8.toNat c4 : Int) < 128)))) (some false)).bind fun b5 => (cond b5 (idxS a2 0 fun c6 => ((strings_trimLeftByte a1 (UInt8.toNat c6 : Int)).bind fun r7 => (some r7))) none))))
theorem strings_TrimLeft_of {a1 a2 : Bs} {w} (h : strings_TrimLeft_E a1 a2 = some w) : strings_TrimLeft a1 a2 = some w :=
  fn_ok (mkHd_ok tbl_ok) (H := H90) (fn := r90) rfl rfl (lo_none rfl) (by simp [r90]) ((show codeK H90 r90.body (argEnv r90.ntmps [AV.str a1, AV.str a2]) [] (finK r90 0 (.one Cod.str)) = strings_TrimLeft_E a1 a2 by kernel_rfl).trans h)

noncomputable def H72 : Hd := mkHd tbl []
noncomputable def cmp_Compare_int_E (a1 a2 : Int) : Option Int :=
  ((cmp_isNaN_int a1).bind fun r3 => ((cmp_isNaN_int a2).bind fun r4 => (cond r3 (cond r4 (some 0) (some (-1))) (cond r4 (some 1) (cond (decide (a1 < a2)) (some (-1)) (cond (decide (a2 < a1)) (some 1) (some 0)))))))
theorem cmp_Compare_int_of {a1 a2 : Int} {w} (h : cmp_Compare_int_E a1 a2 = some w) : cmp_Compare_int a1 a2 = some w :=
  fn_ok (mkHd_ok tbl_ok) (H := H72) (fn := r72) rfl rfl (lo_none rfl) (by simp [r72]) ((show codeK H72 r72.body (argEnv r72.ntmps [AV.int .i64 a1, AV.int .i64 a2]) [] (finK r72 0 (.one (Cod.int .i64))) = cmp_Compare_int_E a1 a2 by kernel_rfl).trans h)

noncomputable def H86 : Hd := mkHd tbl []
noncomputable def cmp_Compare_string_E (a1 a2 : Bs) : Option Int :=
  ((cmp_isNaN_string a1).bind fun r3 => ((cmp_isNaN_string a2).bind fun r4 => (cond r3 (cond r4 (some 0) (some (-1))) (cond r4 (some 1) (cond (Op.bytesLess a1 a2) (some (-1)) (cond (!(Op.bytesLess a1 a2 || a1 == a2)) (some 1) (some 0)))))))
theorem cmp_Compare_string_of {a1 a2 : Bs} {w} (h : cmp_Compare_string_E a1 a2 = some w) : cmp_Compare_string a1 a2 = some w :=
  fn_ok (mkHd_ok tbl_ok) (H := H86) (fn := r86) rfl rfl (lo_none rfl) (by simp [r86]) ((show codeK H86 r86.body (argEnv r86.ntmps [AV.str a1, AV.str a2]) [] (finK r86 0 (.one (Cod.int .i64))) = cmp_Compare_string_E a1 a2 by kernel_rfl).trans h)

noncomputable def H88 : Hd := mkHd tbl [version_skip_l1_t]
noncomputable def version_skip_l1_E (a2 : Bs) : Option (List UInt8) :=
  ((cond (!(a2 == [])) (idxS a2 0 fun c15 => ((version_digit (UInt8.toNat c15 : Int)).bind fun r16 => (some (!r16)))) (some false)).bind fun b17 => ((cond b17 (idxS a2 0 fun c18 => ((version_letter (UInt8.toNat c18 : Int)).bind fun r19 => (some (!r19)))) (some false)).bind fun b20 => ((cond b20 (idxS a2 0 fun c21 => (some ((UInt8.toNat c21 : Int) != 126))) (some false)).bind fun b22 => ((cond b22 (idxS a2 0 fun c23 => (some ((UInt8.toNat c23 : Int) != 94))) (some false)).bind fun b24 => (cond b24 (cutS a2 1 (List.length a2 : Int) fun s25 => (version_skip_l1 s25)) (some a2))))))
theorem version_skip_l1_of {a2 : Bs} {w} (h : version_skip_l1_E a2 = some w) : version_skip_l1 a2 = some w :=
  round_ok (mkHd_ok tbl_ok) (H := H88) (body := l88_1) (lo_none rfl) (fun _ => rfl) ((show codeK H88 l88_1 (mkEnv 30 [0] [AV.str a2]) [] (roundK [0] 30 [0] (CodL.one Cod.str) (XCod.one (.exit 0) 30 [0] (CodL.one Cod.str)) (fun v => version_skip_l1 v)) = version_skip_l1_E a2 by kernel_rfl).trans h)
noncomputable def version_skip_E (a1 : Bs) : Option (List UInt8) :=
  ((version_skip_l1 a1).bind fun r14 => (some r14))
theorem version_skip_of {a1 : Bs} {w} (h : version_skip_E a1 = some w) : version_skip a1 = some w :=
  fn_ok (mkHd_ok tbl_ok) (H := H88) (fn := r88) rfl rfl (lo_seq (lo_none rfl) (lo_seq (lo_block (lo_loopT version_skip_l1_t_ok (by kernel_rfl))) (lo_none rfl))) (by simp [r88]) ((show codeK H88 r88.body (argEnv r88.ntmps [AV.str a1]) [] (finK r88 0 (.one Cod.str)) = version_skip_E a1 by kernel_rfl).trans h)

noncomputable def H89 : Hd := mkHd tbl []
noncomputable def version_older_E (a1 : Bool) : Option Int :=
  (cond a1 (some (-1)) (some 1))
theorem version_older_of {a1 : Bool} {w} (h : version_older_E a1 = some w) : version_older a1 = some w :=
  fn_ok (mkHd_ok tbl_ok) (H := H89) (fn := r89) rfl rfl (lo_none rfl) (by simp [r89]) ((show codeK H89 r89.body (argEnv r89.ntmps [AV.bool a1]) [] (finK r89 0 (.one (Cod.int .i64))) = version_older_E a1 by kernel_rfl).trans h)

noncomputable def H87 : Hd := mkHd tbl []
noncomputable def version_weight_E (a1 : Bs) : Option Int :=
  ((cond (a1 == []) (some true) (idxS a1 0 fun c2 => ((version_digit (UInt8.toNat c2 : Int)).bind fun r3 => (some r3)))).bind fun b4 => (cond b4 (some 0) (idxS a1 0 fun c5 => (cond ((UInt8.toNat c5 : Int) == 126) (some (-1)) (idxS a1 0 fun c6 => ((version_letter (UInt8.toNat c6 : Int)).bind fun r7 => (cond r7 (idxS a1 0 fun c8 => (some (IntKind.wrap .i64 (UInt8.toNat c8 : Int)))) (idxS a1 0 fun c9 => (some (IntKind.wrap .i64 ((IntKind.wrap .i64 (UInt8.toNat c9 : Int)) + 256)))))))))))
theorem version_weight_of {a1 : Bs} {w} (h : version_weight_E a1 = some w) : version_weight a1 = some w :=
  fn_ok (mkHd_ok tbl_ok) (H := H87) (fn := r87) rfl rfl (lo_none rfl) (by simp [r87]) ((show codeK H87 r87.body (argEnv r87.ntmps [AV.str a1]) [] (finK r87 0 (.one (Cod.int .i64))) = version_weight_E a1 by kernel_rfl).trans h)

noncomputable def H113 : Hd := mkHd tbl [i_bytealg_LastIndexByteString_l2_t]
noncomputable def i_bytealg_LastIndexByteString_l2_E (a3 : Bs) (a4 a5 : Int) : Option (Unit ⊕ Int) :=
  (cond (decide ((0 : Int) ≤ a5)) (idxS a3 a5 fun c10 => (cond ((UInt8.toNat c10 : Int) == a4) (some (Sum.inr a5)) (i_bytealg_LastIndexByteString_l2 a3 a4 (IntKind.wrap .i64 (a5 - 1))))) (some (Sum.inl ())))
theorem i_bytealg_LastIndexByteString_l2_of {a3 : Bs} {a4 a5 : Int} {w} (h : i_bytealg_LastIndexByteString_l2_E a3 a4 a5 = some w) : i_bytealg_LastIndexByteString_l2 a3 a4 a5 = some w :=
  round_ok (mkHd_ok tbl_ok) (H := H113) (body := l113_2) (lo_none rfl) (fun _ => rfl) ((show codeK H113 l113_2 (mkEnv 19 [0, 1, 5] [AV.str a3, AV.int .u8 a4, AV.int .i64 a5]) [] (roundK [0, 1, 5] 19 [0, 1, 5] (CodL.cons Cod.str (CodL.cons (Cod.int .u8) (CodL.one (Cod.int .i64)))) (XCod.alt (.exit 0) (XCod.one (.exit 0) 19 [] CodL.nil) (XCod.one .ret 19 [4] (CodL.one (Cod.int .i64)))) (fun v => i_bytealg_LastIndexByteString_l2 v.1 v.2.1 v.2.2)) = i_bytealg_LastIndexByteString_l2_E a3 a4 a5 by kernel_rfl).trans h)
noncomputable def i_bytealg_LastIndexByteString_E (a1 : Bs) (a2 : Int) : Option Int :=
  ((i_bytealg_LastIndexByteString_l2 a1 a2 (IntKind.wrap .i64 ((List.length a1 : Int) - 1))).bind fun r7 => (Sum.elim (fun r8 => (some (-1))) (fun r9 => (some r9)) r7))
theorem i_bytealg_LastIndexByteString_of {a1 : Bs} {a2 : Int} {w} (h : i_bytealg_LastIndexByteString_E a1 a2 = some w) : i_bytealg_LastIndexByteString a1 a2 = some w :=
  fn_ok (mkHd_ok tbl_ok) (H := H113) (fn := r113) rfl rfl (lo_seq (lo_none rfl) (lo_seq (lo_seq (lo_none rfl) (lo_block (lo_loopT i_bytealg_LastIndexByteString_l2_t_ok (by kernel_rfl)))) (lo_none rfl))) (by simp [r113]) ((show codeK H113 r113.body (argEnv r113.ntmps [AV.str a1, AV.int .u8 a2]) [] (finK r113 0 (.one (Cod.int .i64))) = i_bytealg_LastIndexByteString_E a1 a2 by kernel_rfl).trans h)

noncomputable def H114 : Hd := mkHd tbl [i_bytealg_LastIndexRabinKarp_string_l6_t, i_bytealg_LastIndexRabinKarp_string_l12_t]
noncomputable def i_bytealg_LastIndexRabinKarp_string_l6_E (a4 a5 : Bs) (a6 a7 a8 a9 a10 a11 : Int) : Option (List UInt8 × List UInt8 × Int × Int × Int × Int × Int) :=
  (cond (decide (a9 ≤ a11)) (idxS a4 a11 fun c30 => (i_bytealg_LastIndexRabinKarp_string_l6 a4 a5 a6 a7 a8 a9 (IntKind.wrap .u32 ((IntKind.wrap .u32 (a10 * 16777619)) + (IntKind.wrap .u32 (UInt8.toNat c30 : Int)))) (IntKind.wrap .i64 (a11 - 1)))) (some (a4, a5, a6, a7, a8, a9, a10)))
theorem i_bytealg_LastIndexRabinKarp_string_l6_of {a4 a5 : Bs} {a6 a7 a8 a9 a10 a11 : Int} {w} (h : i_bytealg_LastIndexRabinKarp_string_l6_E a4 a5 a6 a7 a8 a9 a10 a11 = some w) : i_bytealg_LastIndexRabinKarp_string_l6 a4 a5 a6 a7 a8 a9 a10 a11 = some w :=
  round_ok (mkHd_ok tbl_ok) (H := H114) (body := l114_6) (lo_none rfl) (fun _ => rfl) ((show codeK H114 l114_6 (mkEnv 87 [0, 1, 5, 6, 7, 8, 9, 10] [AV.str a4, AV.str a5, AV.int .u32 a6, AV.int .u32 a7, AV.int .i64 a8, AV.int .i64 a9, AV.int .u32 a10, AV.int .i64 a11]) [] (roundK [0, 1, 5, 6, 7, 8, 9, 10] 87 [0, 1, 5, 6, 7, 8, 9, 10] (CodL.cons Cod.str (CodL.cons Cod.str (CodL.cons (Cod.int .u32) (CodL.cons (Cod.int .u32) (CodL.cons (Cod.int .i64) (CodL.cons (Cod.int .i64) (CodL.cons (Cod.int .u32) (CodL.one (Cod.int .i64))))))))) (XCod.one (.exit 0) 87 [0, 1, 5, 6, 7, 8, 9] (CodL.cons Cod.str (CodL.cons Cod.str (CodL.cons (Cod.int .u32) (CodL.cons (Cod.int .u32) (CodL.cons (Cod.int .i64) (CodL.cons (Cod.int .i64) (CodL.one (Cod.int .u32))))))))) (fun v => i_bytealg_LastIndexRabinKarp_string_l6 v.1 v.2.1 v.2.2.1 v.2.2.2.1 v.2.2.2.2.1 v.2.2.2.2.2.1 v.2.2.2.2.2.2.1 v.2.2.2.2.2.2.2)) = i_bytealg_LastIndexRabinKarp_string_l6_E a4 a5 a6 a7 a8 a9 a10 a11 by kernel_rfl).trans h)
noncomputable def i_bytealg_LastIndexRabinKarp_string_l12_E (a16 a17 : Bs) (a18 a19 a20 a21 a22 : Int) : Option (Unit ⊕ Int) :=
  (cond (decide ((0 : Int) ≤ a22)) (idxS a16 a22 fun c32 => (idxS a16 (IntKind.wrap .i64 (a22 + a20)) fun c33 => ((cond ((IntKind.wrap .u32 ((IntKind.wrap .u32 ((IntKind.wrap .u32 (a21 * 16777619)) + (IntKind.wrap .u32 (UInt8.toNat c32 : Int)))) - (IntKind.wrap .u32 (a19 * (IntKind.wrap .u32 (UInt8.toNat c33 : Int)))))) == a18) (cutS a16 a22 (IntKind.wrap .i64 (a22 + a20)) fun s34 => (some (s34 == a17))) (some false)).bind fun b35 => (cond b35 (some (Sum.inr a22)) (i_bytealg_LastIndexRabinKarp_string_l12 a16 a17 a18 a19 a20 (IntKind.wrap .u32 ((IntKind.wrap .u32 ((IntKind.wrap .u32 (a21 * 16777619)) + (IntKind.wrap .u32 (UInt8.toNat c32 : Int)))) - (IntKind.wrap .u32 (a19 * (IntKind.wrap .u32 (UInt8.toNat c33 : Int)))))) (IntKind.wrap .i64 (a22 - 1))))))) (some (Sum.inl ())))
theorem i_bytealg_LastIndexRabinKarp_string_l12_of {a16 a17 : Bs} {a18 a19 a20 a21 a22 : Int} {w} (h : i_bytealg_LastIndexRabinKarp_string_l12_E a16 a17 a18 a19 a20 a21 a22 = some w) : i_bytealg_LastIndexRabinKarp_string_l12 a16 a17 a18 a19 a20 a21 a22 = some w :=
  round_ok (mkHd_ok tbl_ok) (H := H114) (body := l114_12) (lo_none rfl) (fun _ => rfl) ((show codeK H114 l114_12 (mkEnv 87 [0, 1, 5, 6, 7, 9, 11] [AV.str a16, AV.str a17, AV.int .u32 a18, AV.int .u32 a19, AV.int .i64 a20, AV.int .u32 a21, AV.int .i64 a22]) [] (roundK [0, 1, 5, 6, 7, 9, 11] 87 [0, 1, 5, 6, 7, 9, 11] (CodL.cons Cod.str (CodL.cons Cod.str (CodL.cons (Cod.int .u32) (CodL.cons (Cod.int .u32) (CodL.cons (Cod.int .i64) (CodL.cons (Cod.int .u32) (CodL.one (Cod.int .i64)))))))) (XCod.alt (.exit 2) (XCod.one (.exit 2) 87 [] CodL.nil) (XCod.one .ret 87 [4] (CodL.one (Cod.int .i64)))) (fun v => i_bytealg_LastIndexRabinKarp_string_l12 v.1 v.2.1 v.2.2.1 v.2.2.2.1 v.2.2.2.2.1 v.2.2.2.2.2.1 v.2.2.2.2.2.2)) = i_bytealg_LastIndexRabinKarp_string_l12_E a16 a17 a18 a19 a20 a21 a22 by kernel_rfl).trans h)
noncomputable def i_bytealg_LastIndexRabinKarp_string_E (a1 a2 : Bs) : Option Int :=
  ((i_bytealg_hashStrRev_string a2).bind fun r3 => ((i_bytealg_LastIndexRabinKarp_string_l6 a1 a2 r3.1 r3.2 (List.length a2 : Int) (IntKind.wrap .i64 ((List.length a1 : Int) - (List.length a2 : Int))) 0 (IntKind.wrap .i64 ((List.length a1 : Int) - 1))).bind fun r13 => ((cond (r13.2.2.2.2.2.2 == r13.2.2.1) (cutS r13.1 r13.2.2.2.2.2.1 (List.length r13.1 : Int) fun s14 => (some (s14 == r13.2.1))) (some false)).bind fun b15 => (cond b15 (some r13.2.2.2.2.2.1) ((i_bytealg_LastIndexRabinKarp_string_l12 r13.1 r13.2.1 r13.2.2.1 r13.2.2.2.1 r13.2.2.2.2.1 r13.2.2.2.2.2.2 (IntKind.wrap .i64 (r13.2.2.2.2.2.1 - 1))).bind fun r27 => (Sum.elim (fun r28 => (some (-1))) (fun r29 => (some r29)) r27))))))
theorem i_bytealg_LastIndexRabinKarp_string_of {a1 a2 : Bs} {w} (h : i_bytealg_LastIndexRabinKarp_string_E a1 a2 = some w) : i_bytealg_LastIndexRabinKarp_string a1 a2 = some w :=
  fn_ok (mkHd_ok tbl_ok) (H := H114) (fn := r114) rfl rfl (lo_seq (lo_none rfl) (lo_seq (lo_none rfl) (lo_seq (lo_none rfl) (lo_seq (lo_none rfl) (lo_seq (lo_none rfl) (lo_seq (lo_seq (lo_none rfl) (lo_block (lo_loopT i_bytealg_LastIndexRabinKarp_string_l6_t_ok (by kernel_rfl)))) (lo_seq (lo_none rfl) (lo_seq (lo_seq (lo_none rfl) (lo_block (lo_loopT i_bytealg_LastIndexRabinKarp_string_l12_t_ok (by kernel_rfl)))) (lo_none rfl))))))))) (by simp [r114]) ((show codeK H114 r114.body (argEnv r114.ntmps [AV.str a1, AV.str a2]) [] (finK r114 0 (.one (Cod.int .i64))) = i_bytealg_LastIndexRabinKarp_string_E a1 a2 by kernel_rfl).trans h)

noncomputable def H50 : Hd := mkHd tbl []
noncomputable def strings_Cut_E (a1 a2 : Bs) : Option (List UInt8 × List UInt8 × Bool) :=
  ((i_stringslite_Cut a1 a2).bind fun r3 => (some (r3.1, r3.2.1, r3.2.2)))
theorem strings_Cut_of {a1 a2 : Bs} {w} (h : strings_Cut_E a1 a2 = some w) : strings_Cut a1 a2 = some w :=
  fn_ok (mkHd_ok tbl_ok) (H := H50) (fn := r50) rfl rfl (lo_none rfl) (by simp [r50]) ((show codeK H50 r50.body (argEnv r50.ntmps [AV.str a1, AV.str a2]) [] (finK r50 0 (.one q3)) = strings_Cut_E a1 a2 by kernel_rfl).trans h)

noncomputable def H115 : Hd := mkHd tbl []
noncomputable def version_letter_E (a1 : Int) : Option Bool :=
  ((cond (decide ((97 : Int) ≤ a1)) (some (decide (a1 ≤ 122))) (some false)).bind fun b2 => ((cond b2 (some true) (cond (decide ((65 : Int) ≤ a1)) (some (decide (a1 ≤ 90))) (some false))).bind fun b3 => (some b3)))
theorem version_letter_of {a1 : Int} {w} (h : version_letter_E a1 = some w) : version_letter a1 = some w :=
  fn_ok (mkHd_ok tbl_ok) (H := H115) (fn := r115) rfl rfl (lo_none rfl) (by simp [r115]) ((show codeK H115 r115.body (argEnv r115.ntmps [AV.int .u8 a1]) [] (finK r115 0 (.one Cod.bool)) = version_letter_E a1 by kernel_rfl).trans h)

noncomputable def H69 : Hd := mkHd tbl []
noncomputable def strings_IndexByte_E (a1 : Bs) (a2 : Int) : Option Int :=
  ((i_stringslite_IndexByte a1 a2).bind fun r3 => (some r3))
theorem strings_IndexByte_of {a1 : Bs} {a2 : Int} {w} (h : strings_IndexByte_E a1 a2 = some w) : strings_IndexByte a1 a2 = some w :=
  fn_ok (mkHd_ok tbl_ok) (H := H69) (fn := r69) rfl rfl (lo_none rfl) (by simp [r69]) ((show codeK H69 r69.body (argEnv r69.ntmps [AV.str a1, AV.int .u8 a2]) [] (finK r69 0 (.one (Cod.int .i64))) = strings_IndexByte_E a1 a2 by kernel_rfl).trans h)

noncomputable def H98 : Hd := mkHd tbl []
noncomputable def i_stringslite_HasPrefix_E (a1 a2 : Bs) : Option Bool :=
  ((cond (decide ((List.length a2 : Int) ≤ (List.length a1 : Int))) (cutS a1 0 (List.length a2 : Int) fun s3 => (some (s3 == a2))) (some false)).bind fun b4 => (some b4))
theorem i_stringslite_HasPrefix_of {a1 a2 : Bs} {w} (h : i_stringslite_HasPrefix_E a1 a2 = some w) : i_stringslite_HasPrefix a1 a2 = some w :=
  fn_ok (mkHd_ok tbl_ok) (H := H98) (fn := r98) rfl rfl (lo_none rfl) (by simp [r98]) ((show codeK H98 r98.body (argEnv r98.ntmps [AV.str a1, AV.str a2]) [] (finK r98 0 (.one Cod.bool)) = i_stringslite_HasPrefix_E a1 a2 by kernel_rfl).trans h)

noncomputable def H85 : Hd := mkHd tbl []
noncomputable def version_piece_compare_1_E (a1 : Bs) : Option Bool :=
  ((cond (decide ((1 : Int) < (List.length a1 : Int))) (idxS a1 0 fun c2 => (some ((UInt8.toNat c2 : Int) == 48))) (some false)).bind fun b3 => (some b3))
theorem version_piece_compare_1_of {a1 : Bs} {w} (h : version_piece_compare_1_E a1 = some w) : version_piece_compare_1 a1 = some w :=
  fn_ok (mkHd_ok tbl_ok) (H := H85) (fn := r85) rfl rfl (lo_none rfl) (by simp [r85]) ((show codeK H85 r85.body (argEnv r85.ntmps [AV.str a1]) [] (finK r85 0 (.one Cod.bool)) = version_piece_compare_1_E a1 by kernel_rfl).trans h)

noncomputable def H117 : Hd := mkHd tbl [strings_trimLeftByte_l1_t]
noncomputable def strings_trimLeftByte_l1_E (a3 : Bs) (a4 : Int) : Option (List UInt8) :=
  ((cond (decide ((0 : Int) < (List.length a3 : Int))) (idxS a3 0 fun c9 => (some ((UInt8.toNat c9 : Int) == a4))) (some false)).bind fun b10 => (cond b10 (cutS a3 1 (List.length a3 : Int) fun s11 => (strings_trimLeftByte_l1 s11 a4)) (some a3)))
theorem strings_trimLeftByte_l1_of {a3 : Bs} {a4 : Int} {w} (h : strings_trimLeftByte_l1_E a3 a4 = some w) : strings_trimLeftByte_l1 a3 a4 = some w :=
  round_ok (mkHd_ok tbl_ok) (H := H117) (body := l117_1) (lo_none rfl) (fun _ => rfl) ((show codeK H117 l117_1 (mkEnv 17 [0, 1] [AV.str a3, AV.int .u8 a4]) [] (roundK [0, 1] 17 [0, 1] (CodL.cons Cod.str (CodL.one (Cod.int .u8))) (XCod.one (.exit 0) 17 [0] (CodL.one Cod.str)) (fun v => strings_trimLeftByte_l1 v.1 v.2)) = strings_trimLeftByte_l1_E a3 a4 by kernel_rfl).trans h)
noncomputable def strings_trimLeftByte_E (a1 : Bs) (a2 : Int) : Option (List UInt8) :=
  ((strings_trimLeftByte_l1 a1 a2).bind fun r8 => (some r8))
theorem strings_trimLeftByte_of {a1 : Bs} {a2 : Int} {w} (h : strings_trimLeftByte_E a1 a2 = some w) : strings_trimLeftByte a1 a2 = some w :=
  fn_ok (mkHd_ok tbl_ok) (H := H117) (fn := r117) rfl rfl (lo_seq (lo_none rfl) (lo_seq (lo_block (lo_loopT strings_trimLeftByte_l1_t_ok (by kernel_rfl))) (lo_none rfl))) (by simp [r117]) ((show codeK H117 r117.body (argEnv r117.ntmps [AV.str a1, AV.int .u8 a2]) [] (finK r117 0 (.one Cod.str)) = strings_trimLeftByte_E a1 a2 by kernel_rfl).trans h)

noncomputable def H112 : Hd := mkHd tbl []
noncomputable def cmp_isNaN_int_E (a1 : Int) : Option Bool :=
  (some (a1 != a1))
theorem cmp_isNaN_int_of {a1 : Int} {w} (h : cmp_isNaN_int_E a1 = some w) : cmp_isNaN_int a1 = some w :=
  fn_ok (mkHd_ok tbl_ok) (H := H112) (fn := r112) rfl rfl (lo_none rfl) (by simp [r112]) ((show codeK H112 r112.body (argEnv r112.ntmps [AV.int .i64 a1]) [] (finK r112 0 (.one Cod.bool)) = cmp_isNaN_int_E a1 by kernel_rfl).trans h)

noncomputable def H116 : Hd := mkHd tbl []
noncomputable def cmp_isNaN_string_E (a1 : Bs) : Option Bool :=
  (some (!(a1 == a1)))
theorem cmp_isNaN_string_of {a1 : Bs} {w} (h : cmp_isNaN_string_E a1 = some w) : cmp_isNaN_string a1 = some w :=
  fn_ok (mkHd_ok tbl_ok) (H := H116) (fn := r116) rfl rfl (lo_none rfl) (by simp [r116]) ((show codeK H116 r116.body (argEnv r116.ntmps [AV.str a1]) [] (finK r116 0 (.one Cod.bool)) = cmp_isNaN_string_E a1 by kernel_rfl).trans h)

noncomputable def H137 : Hd := mkHd tbl [i_bytealg_hashStrRev_string_l3_t, i_bytealg_hashStrRev_string_l8_t]
noncomputable def i_bytealg_hashStrRev_string_l3_E (a2 : Bs) (a3 a4 : Int) : Option (List UInt8 × Int) :=
  (cond (decide ((0 : Int) ≤ a4)) (idxS a2 a4 fun c14 => (i_bytealg_hashStrRev_string_l3 a2 (IntKind.wrap .u32 ((IntKind.wrap .u32 (a3 * 16777619)) + (IntKind.wrap .u32 (UInt8.toNat c14 : Int)))) (IntKind.wrap .i64 (a4 - 1)))) (some (a2, a3)))
theorem i_bytealg_hashStrRev_string_l3_of {a2 : Bs} {a3 a4 : Int} {w} (h : i_bytealg_hashStrRev_string_l3_E a2 a3 a4 = some w) : i_bytealg_hashStrRev_string_l3 a2 a3 a4 = some w :=
  round_ok (mkHd_ok tbl_ok) (H := H137) (body := l137_3) (lo_none rfl) (fun _ => rfl) ((show codeK H137 l137_3 (mkEnv 40 [0, 4, 5] [AV.str a2, AV.int .u32 a3, AV.int .i64 a4]) [] (roundK [0, 4, 5] 40 [0, 4, 5] (CodL.cons Cod.str (CodL.cons (Cod.int .u32) (CodL.one (Cod.int .i64)))) (XCod.one (.exit 0) 40 [0, 4] (CodL.cons Cod.str (CodL.one (Cod.int .u32)))) (fun v => i_bytealg_hashStrRev_string_l3 v.1 v.2.1 v.2.2)) = i_bytealg_hashStrRev_string_l3_E a2 a3 a4 by kernel_rfl).trans h)
noncomputable def i_bytealg_hashStrRev_string_l8_E (a7 a8 a9 a10 : Int) : Option (Int × Int) :=
  (cond (decide ((0 : Int) < a10)) (cond ((bits .and .i64 a10 1) != 0) (shrI .i64 a10 1 fun q16 => (i_bytealg_hashStrRev_string_l8 a7 (IntKind.wrap .u32 (a8 * a9)) (IntKind.wrap .u32 (a9 * a9)) q16)) (shrI .i64 a10 1 fun q18 => (i_bytealg_hashStrRev_string_l8 a7 a8 (IntKind.wrap .u32 (a9 * a9)) q18))) (some (a7, a8)))
theorem i_bytealg_hashStrRev_string_l8_of {a7 a8 a9 a10 : Int} {w} (h : i_bytealg_hashStrRev_string_l8_E a7 a8 a9 a10 = some w) : i_bytealg_hashStrRev_string_l8 a7 a8 a9 a10 = some w :=
  round_ok (mkHd_ok tbl_ok) (H := H137) (body := l137_8) (lo_none rfl) (fun _ => rfl) ((show codeK H137 l137_8 (mkEnv 40 [4, 6, 7, 8] [AV.int .u32 a7, AV.int .u32 a8, AV.int .u32 a9, AV.int .i64 a10]) [] (roundK [4, 6, 7, 8] 40 [4, 6, 7, 8] (CodL.cons (Cod.int .u32) (CodL.cons (Cod.int .u32) (CodL.cons (Cod.int .u32) (CodL.one (Cod.int .i64))))) (XCod.one (.exit 2) 40 [4, 6] (CodL.cons (Cod.int .u32) (CodL.one (Cod.int .u32)))) (fun v => i_bytealg_hashStrRev_string_l8 v.1 v.2.1 v.2.2.1 v.2.2.2)) = i_bytealg_hashStrRev_string_l8_E a7 a8 a9 a10 by kernel_rfl).trans h)
noncomputable def i_bytealg_hashStrRev_string_E (a1 : Bs) : Option (Int × Int) :=
  ((i_bytealg_hashStrRev_string_l3 a1 0 (IntKind.wrap .i64 ((List.length a1 : Int) - 1))).bind fun r6 => ((i_bytealg_hashStrRev_string_l8 r6.2 1 16777619 (List.length r6.1 : Int)).bind fun r13 => (some (r13.1, r13.2))))
theorem i_bytealg_hashStrRev_string_of {a1 : Bs} {w} (h : i_bytealg_hashStrRev_string_E a1 = some w) : i_bytealg_hashStrRev_string a1 = some w :=
  fn_ok (mkHd_ok tbl_ok) (H := H137) (fn := r137) rfl rfl (lo_seq (lo_none rfl) (lo_seq (lo_none rfl) (lo_seq (lo_seq (lo_none rfl) (lo_block (lo_loopT i_bytealg_hashStrRev_string_l3_t_ok (by kernel_rfl)))) (lo_seq (lo_none rfl) (lo_seq (lo_seq (lo_none rfl) (lo_block (lo_loopT i_bytealg_hashStrRev_string_l8_t_ok (by kernel_rfl)))) (lo_none rfl)))))) (by simp [r137]) ((show codeK H137 r137.body (argEnv r137.ntmps [AV.str a1]) [] (finK r137 0 (.one q5)) = i_bytealg_hashStrRev_string_E a1 by kernel_rfl).trans h)

noncomputable def H96 : Hd := mkHd tbl []
noncomputable def i_stringslite_Cut_E (a1 a2 : Bs) : Option (List UInt8 × List UInt8 × Bool) :=
  ((i_stringslite_Index a1 a2).bind fun r3 => (cond (decide ((0 : Int) ≤ r3)) (cutS a1 0 r3 fun s4 => (cutS a1 (IntKind.wrap .i64 (r3 + (List.length a2 : Int))) (List.length a1 : Int) fun s5 => (some (s4, s5, true)))) (some (a1, [], false))))
theorem i_stringslite_Cut_of {a1 a2 : Bs} {w} (h : i_stringslite_Cut_E a1 a2 = some w) : i_stringslite_Cut a1 a2 = some w :=
  fn_ok (mkHd_ok tbl_ok) (H := H96) (fn := r96) rfl rfl (lo_none rfl) (by simp [r96]) ((show codeK H96 r96.body (argEnv r96.ntmps [AV.str a1, AV.str a2]) [] (finK r96 0 (.one q3)) = i_stringslite_Cut_E a1 a2 by kernel_rfl).trans h)

noncomputable def H106 : Hd := mkHd tbl []
noncomputable def i_stringslite_IndexByte_E (a1 : Bs) (a2 : Int) : Option Int :=
  (some (Lib.indexByte a1 (UInt8.ofNat (Int.toNat a2))))
theorem i_stringslite_IndexByte_of {a1 : Bs} {a2 : Int} {w} (h : i_stringslite_IndexByte_E a1 a2 = some w) : i_stringslite_IndexByte a1 a2 = some w :=
  fn_ok (mkHd_ok tbl_ok) (H := H106) (fn := r106) rfl rfl (lo_none rfl) (by simp [r106]) ((show codeK H106 r106.body (argEnv r106.ntmps [AV.str a1, AV.int .u8 a2]) [] (finK r106 0 (.one (Cod.int .i64))) = i_stringslite_IndexByte_E a1 a2 by kernel_rfl).trans h)

noncomputable def H122 : Hd := mkHd tbl []
noncomputable def i_stringslite_Index_E (a1 a2 : Bs) : Option Int :=
  ((cond ((List.length a2 : Int) == 0) (some true) (some (a2 == a1))).bind fun b3 => (cond b3 (some 0) (cond ((List.length a2 : Int) == 1) (idxS a2 0 fun c4 => ((i_stringslite_IndexByte a1 (UInt8.toNat c4 : Int)).bind fun r5 => (some r5))) (cond (decide ((List.length a1 : Int) ≤ (List.length a2 : Int))) (some (-1)) none))))
theorem i_stringslite_Index_of {a1 a2 : Bs} {w} (h : i_stringslite_Index_E a1 a2 = some w) : i_stringslite_Index a1 a2 = some w :=
  fn_ok (mkHd_ok tbl_ok) (H := H122) (fn := r122) rfl rfl (lo_seq (lo_none rfl) (lo_seq (lo_none rfl) (lo_seq (lo_none rfl) (lo_seq (lo_none rfl) (lo_seq (lo_none rfl) (lo_seq (lo_none rfl) (lo_seq (lo_none rfl) (lo_seq (lo_none rfl) (lo_seq (lo_block (lo_loop (fun e mem R K r h => by cases h))) (lo_none rfl)))))))))) (by simp [r122]) ((show codeK H122 r122.body (argEnv r122.ntmps [AV.str a1, AV.str a2]) [] (finK r122 0 (.one (Cod.int .i64))) = i_stringslite_Index_E a1 a2 by kernel_rfl).trans h)

end Go.Proofs.YtlgpcmklpknmcaaDoor
