/- The code is the program's: the engine's run is the machine's. -/
import Derived.Test.YtlgpcmklpknmcaaDoorTb
import Derived.Test.YtlgpcmklpknmcaaDoorEl
import Derived.Test.YtlgpcmklpknmcaaDoorBa
set_option linter.unusedVariables false
set_option maxRecDepth 100000
namespace Go.Proofs.YtlgpcmklpknmcaaDoor
open Go Go.Eng Go.Proofs

theorem fn_all : ∀ p ∈ fnT, ∃ A, convFn Tryd.prog A p.1 = some p.2 :=
  (all_cons ⟨_, c5⟩ (all_cons ⟨_, c6⟩ (all_cons ⟨_, c13⟩ (all_cons ⟨_, c15⟩ (all_cons ⟨_, c17⟩ (all_cons ⟨_, c18⟩ (all_cons ⟨_, c19⟩ (all_cons ⟨_, c20⟩ (all_cons ⟨_, c22⟩ (all_cons ⟨_, c23⟩ (all_cons ⟨_, c24⟩ (all_cons ⟨_, c25⟩ (all_cons ⟨_, c39⟩ (all_cons ⟨_, c40⟩ (all_cons ⟨_, c47⟩ (all_cons ⟨_, c48⟩ (all_cons ⟨_, c49⟩ (all_cons ⟨_, c50⟩ (all_cons ⟨_, c51⟩ (all_cons ⟨_, c52⟩ (all_cons ⟨_, c53⟩ (all_cons ⟨_, c54⟩ (all_cons ⟨_, c55⟩ (all_cons ⟨_, c56⟩ (all_cons ⟨_, c57⟩ (all_cons ⟨_, c58⟩ (all_cons ⟨_, c59⟩ (all_cons ⟨_, c60⟩ (all_cons ⟨_, c61⟩ (all_cons ⟨_, c62⟩ (all_cons ⟨_, c63⟩ (all_cons ⟨_, c64⟩ (all_cons ⟨_, c65⟩ (all_cons ⟨_, c69⟩ (all_cons ⟨_, c75⟩ (all_cons ⟨_, c77⟩ (all_cons ⟨_, c78⟩ (all_cons ⟨_, c79⟩ (all_cons ⟨_, c80⟩ (all_cons ⟨_, c81⟩ (all_cons ⟨_, c82⟩ (all_cons ⟨_, c83⟩ (all_cons ⟨_, c84⟩ (all_cons ⟨_, c92⟩ (all_cons ⟨_, c95⟩ (all_cons ⟨_, c96⟩ (all_cons ⟨_, c97⟩ (all_cons ⟨_, c98⟩ (all_cons ⟨_, c99⟩ (all_cons ⟨_, c100⟩ (all_cons ⟨_, c101⟩ (all_cons ⟨_, c102⟩ (all_cons ⟨_, c103⟩ (all_cons ⟨_, c104⟩ (all_cons ⟨_, c106⟩ (all_cons ⟨_, c113⟩ (all_cons ⟨_, c114⟩ (all_cons ⟨_, c115⟩ (all_cons ⟨_, c122⟩ (all_cons ⟨_, c123⟩ (all_cons ⟨_, c124⟩ (all_cons ⟨_, c125⟩ (all_cons ⟨_, c126⟩ (all_cons ⟨_, c127⟩ (all_cons ⟨_, c128⟩ (all_cons ⟨_, c137⟩ (all_cons ⟨_, c144⟩ (all_cons ⟨_, c145⟩ (all_cons ⟨_, c146⟩ (all_cons ⟨_, c147⟩ (all_cons ⟨_, c148⟩ all_nil)))))))))))))))))))))))))))))))))))))))))))))))))))))))))))))))))))))))
theorem tp_ok : ProgOk Tryd.prog tp where
  fn f fn he hf := fn_all _ (lookup_mem hf)
  ext f e ds mem d mem' h := by
    have := lookup_mem h
    simp only [extT, List.mem_cons, Prod.mk.injEq, List.not_mem_nil, or_false] at this
    rcases this with ⟨rfl, rfl⟩ | ⟨rfl, rfl⟩ | ⟨rfl, rfl⟩ | ⟨rfl, rfl⟩ | ⟨rfl, rfl⟩
    · exact tryd_indexByte _ _ _ _
    · exact tryd_writeString _ _ _ _
    · exact tryd_string _ _ _ _
    · exact tryd_writeByte _ _ _ _
    · exact tryd_trimLeft _ _ _ _
end Go.Proofs.YtlgpcmklpknmcaaDoor
