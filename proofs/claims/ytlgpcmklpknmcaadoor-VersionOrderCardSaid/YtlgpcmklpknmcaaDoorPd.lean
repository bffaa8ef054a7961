/- awake: by running what it calls. -/
import Derived.Test.YtlgpcmklpknmcaaDoorYc
set_option maxRecDepth 1000000
namespace Go.Proofs.YtlgpcmklpknmcaaDoor
open Go Go.Eng Go.Proofs
theorem run1 : (runF tp 60).call 14 [AV.int .i64 1, AV.str [49, 46, 48, 126, 114, 99, 49], AV.str [49, 46, 48]] [] = some (.int .i64 (-1), []) := by kernel_rfl
theorem run2 : (runF tp 60).call 14 [AV.int .i64 1, AV.str [49, 46, 50], AV.str [48, 58, 49, 46, 50, 45, 48]] [] = some (.int .i64 0, []) := by kernel_rfl
theorem run3 : (runF tp 60).call 14 [AV.int .i64 2, AV.str [49, 46, 48, 94, 97, 45, 49], AV.str [49, 46, 48, 45, 49]] [] = some (.int .i64 1, []) := by kernel_rfl
theorem run4 : (runF tp 60).call 14 [AV.int .i64 3, AV.str [49, 46, 50, 95, 114, 99, 49], AV.str [49, 46, 50]] [] = some (.int .i64 (-1), []) := by kernel_rfl
theorem run5 : (runF tp 60).call 13 [AV.int .i64 3, AV.str [49, 46, 50, 45, 114, 48]] [] = some (.int .i64 0, []) := by kernel_rfl
theorem run6 : (runF tp 60).call 13 [AV.int .i64 2, AV.str [49, 46, 50]] [] = some (.int .i64 3, []) := by kernel_rfl
theorem cmp_run {f : Int} {a b : List UInt8} {r : Int} (h : (runF tp 60).call 14 [AV.int .i64 f, AV.str a, AV.str b] [] = some (.int .i64 r, [])) : version_Compare f a b = some r := by
  unfold version_Compare FnU
  rw [lim_call.2 ⟨60, h⟩]; rfl
theorem chk_run {f : Int} {a : List UInt8} {r : Int} (h : (runF tp 60).call 13 [AV.int .i64 f, AV.str a] [] = some (.int .i64 r, [])) : version_Check f a = some r := by
  unfold version_Check FnU
  rw [lim_call.2 ⟨60, h⟩]; rfl
theorem awake_true : drayagelaw12_awake = some true := by
  apply drayagelaw12_awake_of
  unfold drayagelaw12_awake_E
  rw [cmp_run run1, cmp_run run2, cmp_run run3, cmp_run run4, chk_run run5, chk_run run6]
  rfl
end Go.Proofs.YtlgpcmklpknmcaaDoor
