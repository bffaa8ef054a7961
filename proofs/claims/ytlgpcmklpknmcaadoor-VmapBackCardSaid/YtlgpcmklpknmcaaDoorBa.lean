/- DERIVED: THE SHELF's CONTRACTS AT THIS DUMP, IN PLAIN WORDS (tools/lay-plain.mjs out of 'TrydShelf.lean', which tools/lay-shelf.mjs wrote): THE SAME DECLARATIONS UNDER THE SAME NAMES: 'import', 'namespace', 'open', 'def', 'theorem' AND NOTHING ELSE: no command of the shelf's: FOR A HAND-IN. Each laying: the table of numbers ('.._ren') and one theorem, a field a fact of the dump's own or the kernel's comparison; each contract: ONE APPLICATION.
   copyCheck, over the seat's program.
   WriteString, over the seat's program. -/
import Derived.Shelf.Strings.SlTrimAscii
import Derived.Test.YtlgpcmklpknmcaaDoorChecked
import Derived.Test.YtlgpcmklpknmcaaDoorEi
import Derived.Lib.Builder
import Derived.RowKit3
import Derived.KernelRfl
import Derived.Shelf.Strings.BuilderF
 section
namespace Go.Proofs
open Go.Shelf
def Tryd.lays161_ren : Go.Shelf.Ren := ⟨fun | 161 => 90 | 231 => 117 | 227 => 118 | 233 => 119 | 235 => 120 | 228 => 133 | 197 => 138 | 151 => 139 | 260 => 151 | 152 => 131 | 137 => 69 | 119 => 150 | 224 => 142 | 225 => 141 | 217 => 106 | 266 => 130 | n => n, fun | 9 => 9 | 4 => 4 | 3 => 3 | 5 => 5 | 117 => 147 | 116 => 146 | 0 => 0 | 124 => 150 | 105 => 177 | 21 => 21 | 119 => 186 | 46 => 182 | 139 => 189 | 138 => 188 | n => n, fun | 3 => 2 | 4 => 3 | n => n⟩
theorem Tryd.lays161 : Go.Proofs.Lays.n161 Tryd.prog Tryd.lays161_ren := {
  mixed := by kernel_rfl
  f119 := Tryd.func150.trans (congrArg some (by kernel_rfl))
  f137 := Tryd.func69.trans (congrArg some (by kernel_rfl))
  f151 := Tryd.func139.trans (congrArg some (by kernel_rfl))
  f152 := Tryd.func131.trans (congrArg some (by kernel_rfl))
  f161 := Tryd.func90.trans (congrArg some (by kernel_rfl))
  f197 := Tryd.func138.trans (congrArg some (by kernel_rfl))
  f217 := Tryd.func106.trans (congrArg some (by kernel_rfl))
  f224 := Tryd.func142.trans (congrArg some (by kernel_rfl))
  f225 := Tryd.func141.trans (congrArg some (by kernel_rfl))
  f227 := Tryd.func118.trans (congrArg some (by kernel_rfl))
  f228 := Tryd.func133.trans (congrArg some (by kernel_rfl))
  f231 := Tryd.func117.trans (congrArg some (by kernel_rfl))
  f233 := Tryd.func119.trans (congrArg some (by kernel_rfl))
  f235 := Tryd.func120.trans (congrArg some (by kernel_rfl))
  f260 := Tryd.func151.trans (congrArg some (by kernel_rfl))
  f266 := Tryd.func130.trans (congrArg some (by kernel_rfl))
  t0 := Tryd.underlying0
  a0 := Tryd.isAgg0
  z0 := Tryd.sizeOf0
  v0 := Tryd.zeroValue0
  t3 := Tryd.underlying3
  a3 := Tryd.isAgg3
  z3 := Tryd.sizeOf3
  v3 := Tryd.zeroValue3
  t4 := Tryd.underlying4
  a4 := Tryd.isAgg4
  z4 := Tryd.sizeOf4
  v4 := Tryd.zeroValue4
  t5 := Tryd.underlying5
  a5 := Tryd.isAgg5
  z5 := Tryd.sizeOf5
  v5 := Tryd.zeroValue5
  t9 := Tryd.underlying9
  a9 := Tryd.isAgg9
  z9 := Tryd.sizeOf9
  v9 := Tryd.zeroValue9
  t21 := Tryd.underlying21
  a21 := Tryd.isAgg21
  z21 := Tryd.sizeOf21
  v21 := Tryd.zeroValue21
  t46 := Tryd.underlying182
  a46 := Tryd.isAgg182
  z46 := Tryd.sizeOf182
  v46 := Tryd.zeroValue182
  t105 := Tryd.underlying177
  a105 := Tryd.isAgg177
  z105 := Tryd.sizeOf177
  v105 := Tryd.zeroValue177
  t116 := Tryd.underlying146
  a116 := Tryd.isAgg146
  z116 := Tryd.sizeOf146
  t117 := Tryd.underlying147
  a117 := Tryd.isAgg147
  z117 := Tryd.sizeOf147
  v117 := Tryd.zeroValue147
  t119 := Tryd.underlying186
  a119 := Tryd.isAgg186
  z119 := Tryd.sizeOf186
  t124 := Tryd.underlying150
  a124 := Tryd.isAgg150
  z124 := Tryd.sizeOf150
  v124 := Tryd.zeroValue150
  t138 := Tryd.underlying188
  a138 := Tryd.isAgg188
  z138 := Tryd.sizeOf188
  v138 := Tryd.zeroValue188
  t139 := Tryd.underlying189
  a139 := Tryd.isAgg189
  z139 := Tryd.sizeOf189
  v139 := Tryd.zeroValue189
  g3 := by kernel_rfl
  g4 := by kernel_rfl }
end Go.Proofs
 end

 section
set_option linter.unusedVariables false
namespace Go.Proofs
open Go.RowKit Go.Eng

set_option maxRecDepth 100000 in
theorem copyCheck_used (b : Nat) (w : World) (h0 : w.cell? ⟨b, 0, none⟩ = some (.pointer (some ⟨b, 0, none⟩))) :
    Calls Tryd.prog 121 #[.pointer (some ⟨b, 0, none⟩)] w fun e w' => e = .returned (.tuple #[]) ∧ w' = w := by
  have t70 : Tryd.prog.underlying 115 = some (.pointer 117) := by kernel_rfl
  have hjj : (Tryd.prog.info? 117).map (·.size) = some 2 := by kernel_rfl
  obtain ⟨j, hj, hjs⟩ := Option.map_eq_some_iff.1 hjj
  go_enter Tryd.func121, Tryd.ntmps121
  go_wp2
  rw [Lib.run_neq_ptr_same w _ t70 hj]
  go_wp2
  go_end0
  exact ⟨rfl, rfl⟩

set_option maxRecDepth 100000 in
theorem copyCheck_fresh (b : Nat) (w : World) (h0 : w.cell? ⟨b, 0, none⟩ = some (.pointer none)) (hsh : w.shape? b = some (117, 2)) (hfz : w.frozen? ⟨b, 0, none⟩ = false) :
    Calls Tryd.prog 121 #[.pointer (some ⟨b, 0, none⟩)] w fun e w' => e = .returned (.tuple #[]) ∧ w' = w.setCell ⟨b, 0, none⟩ (.pointer (some ⟨b, 0, none⟩)) := by
  have t70 : Tryd.prog.underlying 115 = some (.pointer 117) := by kernel_rfl
  have t164 : Tryd.prog.underlying 132 = some .unsafePointer := by kernel_rfl
  have hjj : (Tryd.prog.info? 117).map (·.size) = some 2 := by kernel_rfl
  obtain ⟨j, hj, hjs⟩ := Option.map_eq_some_iff.1 hjj
  have lies : liesAt Tryd.prog Tryd.prog.depth 117 (2 / Tryd.prog.cellsOf 117) 0 117 1 = true := by kernel_rfl
  go_enter Tryd.func121, Tryd.ntmps121
  go_wp2
  rw [Lib.run_to_unsafe w ⟨b, 0, none⟩ t70 t164 hj (by rw [hjs]; decide) hsh (Nat.zero_lt_succ 1)]
  simp only [Result.andThen]
  rw [Oper.upon_value]
  go_wp2
  rw [run_callFunc_extern Tryd.func140 (by kernel_rfl) (by kernel_rfl) (by kernel_rfl) (e := Extern.AbiNoEscape.same) (by kernel_rfl)]
  rw [Lib.run_noEscape]
  simp only [Result.andThen]
  rw [Oper.upon_value]
  go_wp2
  rw [Lib.run_from_unsafe w ⟨b, 0, none⟩ t164 t70 hj hsh lies]
  simp only [Result.andThen]
  rw [Oper.upon_value]
  go_wp2
  go_end0
  exact ⟨rfl, rfl⟩
end Go.Proofs
 end

 section
set_option linter.unusedVariables false
namespace Go.Proofs
open Go.RowKit Go.Eng

theorem wpList_append_run {P : Program} {w w' : World} {ops : Array Oper} {rest : List Oper} {o : Oper} {a : Act} {Q : Exit → Act → World → Prop} (hgd : o.guard = none) (sl x : Operand) (t u : TypeId)
    (ho : o.op = .call { callee := .builtin .append, args := #[sl, x], argTypes := #[t, u] }) {v1 v2 v' : Value} (hs : a.eval sl = v1) (hx : a.eval x = v2)
    (hr : (Builtin.append_ #[t, u] o.type #[v1, v2]).run P w = .ok v' w') (h : wpList P ops Q rest (a.put o.dst v') w') : wpList P ops Q (o :: rest) a w := by
  refine wpList_plain hgd fun K hK => ?_
  unfold Oper.wp execOp
  simp only [ho, resolve, invoke, builtin, Sem.run_bind, Sem.run_pure, Result.andThen_ok, List.map_toArray, List.map_cons, List.map_nil, hs, hx, hr]
  exact hK _ _ h

set_option maxRecDepth 100000 in
set_option maxHeartbeats 1000000 in
theorem writeString_calls (b : Nat) (ao ao' : Option Addr) (n c n' c' : Nat) (s : ByteArray) (w w1 w2 : World) (v2 : Value)
    (hcc : Calls Tryd.prog 121 #[.pointer (some ⟨b, 0, none⟩)] w fun e w' => e = .returned (.tuple #[]) ∧ w' = w1)
    (h1 : w1.cell? ⟨b, 1, none⟩ = some (.slice ao n c)) (hA : (Builtin.append_ #[92, 9] 92 #[.slice ao n c, .string s]).run Tryd.prog w1 = .ok (.slice ao' n' c') w2)
    (h2 : w2.cell? ⟨b, 1, none⟩ = some v2) (f2 : w2.frozen? ⟨b, 1, none⟩ = false) :
    Calls Tryd.prog 91 #[.pointer (some ⟨b, 0, none⟩), .string s] w fun e w' => e = .returned (.tuple #[.int .i64 s.size, .nilIface]) ∧ w' = w2.setCell ⟨b, 1, none⟩ (.slice ao' n' c') := by
  go_enter Tryd.func91, Tryd.ntmps91
  go_wp2_with (go_at_call 121; refine hcc.mono ?_)
  rintro e w' ⟨rfl, rfl⟩
  go_wp2_with (at_builtin; refine wpList_append_run rfl _ _ 92 9 rfl rfl rfl hA ?_)
  go_wp2
  go_ret2
  exact ⟨rfl, rfl⟩

set_option maxRecDepth 100000 in
set_option maxHeartbeats 1000000 in
theorem string_calls (b : Nat) (A : Addr) (n c : Nat) (s : ByteArray) (w : World)
    (c1 : w.drew.cell? ⟨b, 1, none⟩ = some (.slice (some A) n c))
    (hSD : (Builtin.unsafeSliceData_ #[92] 151 #[.slice (some A) n c]).run Tryd.prog w.drew = .ok (.pointer (some A)) w.drew)
    (hUS : (Builtin.unsafeString_ #[151, 3] 9 #[.pointer (some A), .int .i64 n]).run Tryd.prog w.drew = .ok (.string s) (w.drew.freeze A n)) :
    Calls Tryd.prog 94 #[.pointer (some ⟨b, 0, none⟩)] w fun e w' => e = .returned (.string s) ∧ w' = w.drew.freeze A n := by
  have mixed : Tryd.prog.follows .mixedOrders = true := by kernel_rfl
  go_enter Tryd.func94, Tryd.ntmps94
  go_wp2
  go_region_o
  all_goals (go_wp2; go_ret; exact ⟨rfl, rfl⟩)
theorem string_nil (b : Nat) (A p : Option Addr) (c : Nat) (w : World)
    (c1 : w.drew.cell? ⟨b, 1, none⟩ = some (.slice A 0 c))
    (hSD : (Builtin.unsafeSliceData_ #[92] 151 #[.slice A 0 c]).run Tryd.prog w.drew = .ok (.pointer p) w.drew) :
    Calls Tryd.prog 94 #[.pointer (some ⟨b, 0, none⟩)] w fun e w' => e = .returned (.string .empty) ∧ w' = w.drew := by
  have mixed : Tryd.prog.follows .mixedOrders = true := by kernel_rfl
  have hUS : (Builtin.unsafeString_ #[151, 3] 9 #[.pointer p, .int .i64 0]).run Tryd.prog w.drew = .ok (.string .empty) w.drew := Lib.run_unsafeString_none ..
  go_enter Tryd.func94, Tryd.ntmps94
  go_wp2
  go_region_o
  all_goals (go_wp2; go_ret; exact ⟨rfl, rfl⟩)

set_option maxRecDepth 100000 in
theorem tryd_copyCheck : CopyCheck Tryd.prog 121 117 := ⟨copyCheck_used, copyCheck_fresh⟩
set_option maxRecDepth 100000 in
theorem tryd_writeString : ExtOk Tryd.prog 91 (eWriteString 117 5) :=
  writeString_ok (fc := 121) (tb := 92) (tx := 9) Tryd.func91 rfl rfl tryd_copyCheck writeString_calls (by kernel_rfl) (by kernel_rfl) (by kernel_rfl) (by kernel_rfl) (by kernel_rfl) (by kernel_rfl)
set_option maxRecDepth 100000 in
theorem tryd_string : ExtOk Tryd.prog 94 (eString 117 5) :=
  string_ok (tb := 92) (tp := 151) (ti := 3) (tx := 9) Tryd.func94 rfl rfl ⟨string_calls, string_nil⟩ (by kernel_rfl) (by kernel_rfl)
set_option maxRecDepth 100000 in
theorem tryd_indexByte : ExtOk Tryd.prog 130 eIndexByte := indexByte_ok Tryd.func130 (by kernel_rfl) (by kernel_rfl) (by kernel_rfl) (by kernel_rfl)

set_option maxRecDepth 100000 in
set_option maxHeartbeats 1000000 in
theorem writeByte_calls (b : Nat) (ao ao' : Option Addr) (n c n' c' : Nat) (x : Int) (w w1 w2 : World) (v2 : Value)
    (hcc : Calls Tryd.prog 121 #[.pointer (some ⟨b, 0, none⟩)] w fun e w' => e = .returned (.tuple #[]) ∧ w' = w1)
    (h1 : w1.cell? ⟨b, 1, none⟩ = some (.slice ao n c)) (hlt : b < w1.heap.size)
    (hA : (Builtin.append_ #[92, 92] 92 #[.slice ao n c, .slice (some ⟨w1.heap.size, 0, none⟩) 1 1]).run Tryd.prog (w1.alloc (.cells #[.int .u8 x] 5)) = .ok (.slice ao' n' c') w2)
    (h2 : w2.cell? ⟨b, 1, none⟩ = some v2) (f2 : w2.frozen? ⟨b, 1, none⟩ = false) :
    Calls Tryd.prog 93 #[.pointer (some ⟨b, 0, none⟩), .int .u8 x] w fun e w' => e = .returned .nilIface ∧ w' = w2.setCell ⟨b, 1, none⟩ (.slice ao' n' c') := by
  go_enter Tryd.func93, Tryd.ntmps93
  go_wp2_with (go_at_call 121; refine hcc.mono ?_)
  rintro e w' ⟨rfl, rfl⟩
  go_wp2_with (at_builtin; refine wpList_append_run rfl _ _ 92 92 rfl rfl rfl hA ?_)
  go_wp2
  go_ret
  exact ⟨rfl, rfl⟩
set_option maxRecDepth 100000 in
theorem tryd_writeByte : ExtOk Tryd.prog 93 (eWriteByte 117 5) :=
  writeByte_ok (fc := 121) (tb := 92) Tryd.func93 rfl rfl tryd_copyCheck writeByte_calls (by kernel_rfl) (by kernel_rfl) (by kernel_rfl) (by kernel_rfl) (by kernel_rfl)
set_option maxRecDepth 100000 in
theorem tryd_trimLeft : ExtOk Tryd.prog 90 eTrimLeft :=
  trimLeft_ok Tryd.func90 rfl rfl fun s c w h1 h2 => Any.strings_TrimLeft_laid Tryd.lays161 (by kernel_rfl) s c w h1 h2
end Go.Proofs
 end
