/- awake: by running what it calls. -/
import Derived.Test.YtlgpcmklpknmcaaDoorTc
set_option maxRecDepth 1000000
namespace Go.Proofs.YtlgpcmklpknmcaaDoor
open Go Go.Eng Go.Proofs
theorem run1 : (runF tp 60).call 24 [AV.int .i64 1, AV.int .i64 3, AV.str [49, 46, 50, 126, 98, 101, 116, 97, 50, 45, 49]] [] = some (.tup [.str [49, 46, 50, 95, 98, 101, 116, 97, 50, 45, 114, 49], .int .i64 0], []) := by kernel_rfl
theorem run2 : (runF tp 60).call 24 [AV.int .i64 1, AV.int .i64 3, AV.str [49, 58, 49, 46, 50, 45, 49]] [] = some (.tup [.str [], .int .i64 11], []) := by kernel_rfl
theorem tr_run {f t : Int} {a : List UInt8} {r : List UInt8} {e : Int} (h : (runF tp 60).call 24 [AV.int .i64 f, AV.int .i64 t, AV.str a] [] = some (.tup [.str r, .int .i64 e], [])) : vmap_Translate f t a = some (r, e) := by
  unfold vmap_Translate FnU
  rw [lim_call.2 ⟨60, h⟩]; rfl
theorem awake_true : drayagelaw13_awake = some true := by
  apply drayagelaw13_awake_of
  unfold drayagelaw13_awake_E
  rw [tr_run run1, tr_run run2]
  rfl
end Go.Proofs.YtlgpcmklpknmcaaDoor
