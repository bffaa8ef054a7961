/- The code is the program's: the engine's run is the machine's. -/
import Derived.Test.YtomaefbhcpmbiaaYb
import Derived.Test.YtomaefbhcpmbiaaEl
import Derived.Test.YtomaefbhcpmbiaaBa
set_option linter.unusedVariables false
set_option maxRecDepth 100000
namespace Go.Proofs.Ytomaefbhcpmbiaa
open Go Go.Eng Go.Proofs

theorem fn_all : ∀ p ∈ fnT, ∃ A, convFn Try.prog A p.1 = some p.2 :=
  (all_cons ⟨_, c4⟩ (all_cons ⟨_, c6⟩ (all_cons ⟨_, c7⟩ (all_cons ⟨_, c9⟩ (all_cons ⟨_, c10⟩ (all_cons ⟨_, c11⟩ (all_cons ⟨_, c12⟩ (all_cons ⟨_, c18⟩ (all_cons ⟨_, c19⟩ (all_cons ⟨_, c20⟩ (all_cons ⟨_, c21⟩ (all_cons ⟨_, c22⟩ (all_cons ⟨_, c23⟩ (all_cons ⟨_, c27⟩ (all_cons ⟨_, c28⟩ (all_cons ⟨_, c29⟩ (all_cons ⟨_, c37⟩ (all_cons ⟨_, c38⟩ (all_cons ⟨_, c39⟩ (all_cons ⟨_, c40⟩ (all_cons ⟨_, c41⟩ (all_cons ⟨_, c45⟩ (all_cons ⟨_, c48⟩ (all_cons ⟨_, c49⟩ (all_cons ⟨_, c50⟩ (all_cons ⟨_, c51⟩ (all_cons ⟨_, c55⟩ (all_cons ⟨_, c60⟩ (all_cons ⟨_, c61⟩ (all_cons ⟨_, c62⟩ (all_cons ⟨_, c70⟩ (all_cons ⟨_, c73⟩ (all_cons ⟨_, c79⟩ (all_cons ⟨_, c80⟩ (all_cons ⟨_, c81⟩ (all_cons ⟨_, c82⟩ (all_cons ⟨_, c83⟩ (all_cons ⟨_, c84⟩ (all_cons ⟨_, c90⟩ (all_cons ⟨_, c91⟩ (all_cons ⟨_, c92⟩ (all_cons ⟨_, c93⟩ (all_cons ⟨_, c94⟩ (all_cons ⟨_, c95⟩ (all_cons ⟨_, c96⟩ (all_cons ⟨_, c102⟩ (all_cons ⟨_, c103⟩ (all_cons ⟨_, c104⟩ all_nil))))))))))))))))))))))))))))))))))))))))))))))))
theorem tp_ok : ProgOk Try.prog tp where
  fn f fn he hf := fn_all _ (lookup_mem hf)
  ext f e ds mem d mem' h := by
    have := lookup_mem h
    simp only [extT, List.mem_cons, Prod.mk.injEq, List.not_mem_nil, or_false] at this
    rcases this with ⟨rfl, rfl⟩ | ⟨rfl, rfl⟩ | ⟨rfl, rfl⟩
    · exact try_indexByte _ _ _ _
    · exact try_writeString _ _ _ _
    · exact try_string _ _ _ _
end Go.Proofs.Ytomaefbhcpmbiaa
