/- The code is the program's: the engine's run is the machine's. -/
import Derived.Test.YtlgpcmklpknmcaaDoorYb
import Derived.Test.YtlgpcmklpknmcaaDoorEl
import Derived.Test.YtlgpcmklpknmcaaDoorBa
set_option linter.unusedVariables false
set_option maxRecDepth 100000
namespace Go.Proofs.YtlgpcmklpknmcaaDoor
open Go Go.Eng Go.Proofs

theorem fn_all : ∀ p ∈ fnT, ∃ A, convFn Tryd.prog A p.1 = some p.2 :=
  (all_cons ⟨_, c3⟩ (all_cons ⟨_, c12⟩ (all_cons ⟨_, c13⟩ (all_cons ⟨_, c14⟩ (all_cons ⟨_, c39⟩ (all_cons ⟨_, c40⟩ (all_cons ⟨_, c41⟩ (all_cons ⟨_, c42⟩ (all_cons ⟨_, c43⟩ (all_cons ⟨_, c44⟩ (all_cons ⟨_, c45⟩ (all_cons ⟨_, c46⟩ (all_cons ⟨_, c50⟩ (all_cons ⟨_, c52⟩ (all_cons ⟨_, c69⟩ (all_cons ⟨_, c72⟩ (all_cons ⟨_, c75⟩ (all_cons ⟨_, c77⟩ (all_cons ⟨_, c78⟩ (all_cons ⟨_, c79⟩ (all_cons ⟨_, c80⟩ (all_cons ⟨_, c81⟩ (all_cons ⟨_, c82⟩ (all_cons ⟨_, c83⟩ (all_cons ⟨_, c84⟩ (all_cons ⟨_, c85⟩ (all_cons ⟨_, c86⟩ (all_cons ⟨_, c87⟩ (all_cons ⟨_, c88⟩ (all_cons ⟨_, c89⟩ (all_cons ⟨_, c90⟩ (all_cons ⟨_, c96⟩ (all_cons ⟨_, c98⟩ (all_cons ⟨_, c106⟩ (all_cons ⟨_, c112⟩ (all_cons ⟨_, c113⟩ (all_cons ⟨_, c114⟩ (all_cons ⟨_, c115⟩ (all_cons ⟨_, c116⟩ (all_cons ⟨_, c117⟩ (all_cons ⟨_, c122⟩ (all_cons ⟨_, c137⟩ all_nil))))))))))))))))))))))))))))))))))))))))))
theorem tp_ok : ProgOk Tryd.prog tp where
  fn f fn he hf := fn_all _ (lookup_mem hf)
  ext f e ds mem d mem' h := by
    have := lookup_mem h
    simp only [extT, List.mem_cons, Prod.mk.injEq, List.not_mem_nil, or_false] at this
    rcases this with ⟨rfl, rfl⟩
    · exact tryd_indexByte _ _ _ _
end Go.Proofs.YtlgpcmklpknmcaaDoor
