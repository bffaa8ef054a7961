/- copyCheck, over the seat's program.
   WriteString, over the seat's program. -/
import Derived.Test.YtomaefbhcpmbiaaEi
import Derived.Lib.Builder
import Derived.RowKit3
import Derived.Test.YtomaefbhcpmbiaaChecked
import Derived.KernelRfl
import Derived.Shelf.Strings.BuilderF
 section
set_option linter.unusedVariables false
namespace Go.Proofs
open Go.RowKit Go.Eng

set_option maxRecDepth 100000 in
theorem copyCheck_used (b : Nat) (w : World) (h0 : w.cell? ⟨b, 0, none⟩ = some (.pointer (some ⟨b, 0, none⟩))) :
    Calls Try.prog 66 #[.pointer (some ⟨b, 0, none⟩)] w fun e w' => e = .returned (.tuple #[]) ∧ w' = w := by
  have t70 : Try.prog.underlying 82 = some (.pointer 85) := by kernel_rfl
  have hjj : (Try.prog.info? 85).map (·.size) = some 2 := by kernel_rfl
  obtain ⟨j, hj, hjs⟩ := Option.map_eq_some_iff.1 hjj
  go_enter Try.func66, Try.ntmps66
  go_wp2
  rw [Lib.run_neq_ptr_same w _ t70 hj]
  go_wp2
  go_end0
  exact ⟨rfl, rfl⟩

set_option maxRecDepth 100000 in
theorem copyCheck_fresh (b : Nat) (w : World) (h0 : w.cell? ⟨b, 0, none⟩ = some (.pointer none)) (hsh : w.shape? b = some (85, 2)) (hfz : w.frozen? ⟨b, 0, none⟩ = false) :
    Calls Try.prog 66 #[.pointer (some ⟨b, 0, none⟩)] w fun e w' => e = .returned (.tuple #[]) ∧ w' = w.setCell ⟨b, 0, none⟩ (.pointer (some ⟨b, 0, none⟩)) := by
  have t70 : Try.prog.underlying 82 = some (.pointer 85) := by kernel_rfl
  have t164 : Try.prog.underlying 115 = some .unsafePointer := by kernel_rfl
  have hjj : (Try.prog.info? 85).map (·.size) = some 2 := by kernel_rfl
  obtain ⟨j, hj, hjs⟩ := Option.map_eq_some_iff.1 hjj
  have lies : liesAt Try.prog Try.prog.depth 85 (2 / Try.prog.cellsOf 85) 0 85 1 = true := by kernel_rfl
  go_enter Try.func66, Try.ntmps66
  go_wp2
  rw [Lib.run_to_unsafe w ⟨b, 0, none⟩ t70 t164 hj (by rw [hjs]; decide) hsh (Nat.zero_lt_succ 1)]
  simp only [Result.andThen]
  rw [Oper.upon_value]
  go_wp2
  rw [run_callFunc_extern Try.func76 (by kernel_rfl) (by kernel_rfl) (by kernel_rfl) (e := Extern.AbiNoEscape.same) (by kernel_rfl)]
  rw [Lib.run_noEscape]
  simp only [Result.andThen]
  rw [Oper.upon_value]
  go_wp2
  rw [Lib.run_from_unsafe w ⟨b, 0, none⟩ t164 t70 hj hsh lies]
  simp only [Result.andThen]
  rw [Oper.upon_value]
  go_wp2
  go_end0
  exact ⟨rfl, rfl⟩
end Go.Proofs
 end

 section
set_option linter.unusedVariables false
namespace Go.Proofs
open Go.RowKit Go.Eng

theorem wpList_append_run {P : Program} {w w' : World} {ops : Array Oper} {rest : List Oper} {o : Oper} {a : Act} {Q : Exit → Act → World → Prop} (hgd : o.guard = none) (sl x : Operand) (t u : TypeId)
    (ho : o.op = .call { callee := .builtin .append, args := #[sl, x], argTypes := #[t, u] }) {v1 v2 v' : Value} (hs : a.eval sl = v1) (hx : a.eval x = v2)
    (hr : (Builtin.append_ #[t, u] o.type #[v1, v2]).run P w = .ok v' w') (h : wpList P ops Q rest (a.put o.dst v') w') : wpList P ops Q (o :: rest) a w := by
  refine wpList_plain hgd fun K hK => ?_
  unfold Oper.wp execOp
  simp only [ho, resolve, invoke, builtin, Sem.run_bind, Sem.run_pure, Result.andThen_ok, List.map_toArray, List.map_cons, List.map_nil, hs, hx, hr]
  exact hK _ _ h

set_option maxRecDepth 100000 in
set_option maxHeartbeats 1000000 in
theorem writeString_calls (b : Nat) (ao ao' : Option Addr) (n c n' c' : Nat) (s : ByteArray) (w w1 w2 : World) (v2 : Value)
    (hcc : Calls Try.prog 66 #[.pointer (some ⟨b, 0, none⟩)] w fun e w' => e = .returned (.tuple #[]) ∧ w' = w1)
    (h1 : w1.cell? ⟨b, 1, none⟩ = some (.slice ao n c)) (hA : (Builtin.append_ #[83, 9] 83 #[.slice ao n c, .string s]).run Try.prog w1 = .ok (.slice ao' n' c') w2)
    (h2 : w2.cell? ⟨b, 1, none⟩ = some v2) (f2 : w2.frozen? ⟨b, 1, none⟩ = false) :
    Calls Try.prog 46 #[.pointer (some ⟨b, 0, none⟩), .string s] w fun e w' => e = .returned (.tuple #[.int .i64 s.size, .nilIface]) ∧ w' = w2.setCell ⟨b, 1, none⟩ (.slice ao' n' c') := by
  go_enter Try.func46, Try.ntmps46
  go_wp2_with (go_at_call 66; refine hcc.mono ?_)
  rintro e w' ⟨rfl, rfl⟩
  go_wp2_with (at_builtin; refine wpList_append_run rfl _ _ 83 9 rfl rfl rfl hA ?_)
  go_wp2
  go_ret2
  exact ⟨rfl, rfl⟩

set_option maxRecDepth 100000 in
set_option maxHeartbeats 1000000 in
theorem string_calls (b : Nat) (A : Addr) (n c : Nat) (s : ByteArray) (w : World)
    (c1 : w.drew.cell? ⟨b, 1, none⟩ = some (.slice (some A) n c))
    (hSD : (Builtin.unsafeSliceData_ #[83] 103 #[.slice (some A) n c]).run Try.prog w.drew = .ok (.pointer (some A)) w.drew)
    (hUS : (Builtin.unsafeString_ #[103, 3] 9 #[.pointer (some A), .int .i64 n]).run Try.prog w.drew = .ok (.string s) (w.drew.freeze A n)) :
    Calls Try.prog 47 #[.pointer (some ⟨b, 0, none⟩)] w fun e w' => e = .returned (.string s) ∧ w' = w.drew.freeze A n := by
  have mixed : Try.prog.follows .mixedOrders = true := by kernel_rfl
  go_enter Try.func47, Try.ntmps47
  go_wp2
  go_region_o
  all_goals (go_wp2; go_ret; exact ⟨rfl, rfl⟩)
theorem string_nil (b : Nat) (A p : Option Addr) (c : Nat) (w : World)
    (c1 : w.drew.cell? ⟨b, 1, none⟩ = some (.slice A 0 c))
    (hSD : (Builtin.unsafeSliceData_ #[83] 103 #[.slice A 0 c]).run Try.prog w.drew = .ok (.pointer p) w.drew) :
    Calls Try.prog 47 #[.pointer (some ⟨b, 0, none⟩)] w fun e w' => e = .returned (.string .empty) ∧ w' = w.drew := by
  have mixed : Try.prog.follows .mixedOrders = true := by kernel_rfl
  have hUS : (Builtin.unsafeString_ #[103, 3] 9 #[.pointer p, .int .i64 0]).run Try.prog w.drew = .ok (.string .empty) w.drew := Lib.run_unsafeString_none ..
  go_enter Try.func47, Try.ntmps47
  go_wp2
  go_region_o
  all_goals (go_wp2; go_ret; exact ⟨rfl, rfl⟩)

set_option maxRecDepth 100000 in
theorem try_copyCheck : CopyCheck Try.prog 66 85 := ⟨copyCheck_used, copyCheck_fresh⟩
set_option maxRecDepth 100000 in
theorem try_writeString : ExtOk Try.prog 46 (eWriteString 85 5) :=
  writeString_ok (fc := 66) (tb := 83) (tx := 9) Try.func46 rfl rfl try_copyCheck writeString_calls (by kernel_rfl) (by kernel_rfl) (by kernel_rfl) (by kernel_rfl) (by kernel_rfl) (by kernel_rfl)
set_option maxRecDepth 100000 in
theorem try_string : ExtOk Try.prog 47 (eString 85 5) :=
  string_ok (tb := 83) (tp := 103) (ti := 3) (tx := 9) Try.func47 rfl rfl ⟨string_calls, string_nil⟩ (by kernel_rfl) (by kernel_rfl)
set_option maxRecDepth 100000 in
theorem try_indexByte : ExtOk Try.prog 72 eIndexByte := indexByte_ok Try.func72 (by kernel_rfl) (by kernel_rfl) (by kernel_rfl) (by kernel_rfl)
end Go.Proofs
 end
