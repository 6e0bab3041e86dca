/- What is proved here, of the given program: The example's keys are right: by reckoning. -/
import Derived.Test.YtaendhbiehknlaaGreatDoorU14
set_option linter.unusedVariables false
set_option linter.unusedSimpArgs false
set_option linter.constructorNameAsVariable false
namespace Go.Proofs.YtaendhbiehknlaaGreatDoor
open Go.RowKit Go.Shelf Go.Proofs
theorem keys_right : (rightPublic (pow61 3 (keyOf (derive (List.replicate 32 0) [108, 101, 97, 102]))) && rightPublic (pow61 3 (keyOf (derive (List.replicate 32 0) [105, 110, 105, 116])))) = true := by kernel_rfl
end Go.Proofs.YtaendhbiehknlaaGreatDoor
