/- What is proved here, of the given program: The row's closed facts, one by one. -/
import Derived.Test.YtaendhbiehknlaaGreatDoorRows
import Derived.JoinedOf
import Derived.KernelRfl
set_option linter.unusedVariables false
set_option linter.unusedSimpArgs false
set_option linter.constructorNameAsVariable false
namespace Go.Proofs.YtaendhbiehknlaaGreatDoor
open Go

set_option maxRecDepth 100000 in
set_option maxHeartbeats 40000000 in
theorem rowFacts : joinedFacts Tryz.prog 3 Tryz.f3 Rows.archiveFormatsSpec Rows.archiveFormatsRow = true := by
  unfold joinedFacts
  simp only [Bool.and_eq_true]
  repeat' apply And.intro
  all_goals (as_aux_lemma => kernel_rfl)
end Go.Proofs.YtaendhbiehknlaaGreatDoor
