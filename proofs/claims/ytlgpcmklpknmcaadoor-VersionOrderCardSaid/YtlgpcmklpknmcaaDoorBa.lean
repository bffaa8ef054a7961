/- What functions without a text do, over the seat's program. -/
import Derived.Test.YtlgpcmklpknmcaaDoorEi
import Derived.Test.YtlgpcmklpknmcaaDoorChecked
import Derived.KernelRfl
set_option linter.unusedVariables false
namespace Go.Proofs
open Go.Eng
set_option maxRecDepth 100000 in
theorem tryd_indexByte : ExtOk Tryd.prog 130 eIndexByte := indexByte_ok Tryd.func130 (by kernel_rfl) (by kernel_rfl) (by kernel_rfl) (by kernel_rfl)
end Go.Proofs
