/- What is proved here, of the given program:  -/
import Derived.Test.YtaendhbiehknlaaGreatDoorTie
import Derived.Test.YtaendhbiehknlaaGreatDoorCards
import Derived.SevenTiedAt
set_option linter.unusedVariables false
set_option linter.unusedSimpArgs false
set_option linter.constructorNameAsVariable false
namespace Go.Proofs.YtaendhbiehknlaaGreatDoor
open Go
theorem goes_none {P : Program} (h : P.funcs.any Func.goes = false) (f : FuncId) : P.goes f = false := by
  have hg : ∀ g : Nat, (P.funcs[g]?).any Func.goes = false := by
    intro g
    cases hq : P.funcs[g]? with
    | none => rfl
    | some fn =>
      have := Array.any_eq_false.1 h
      obtain ⟨hlt, rfl⟩ := Array.getElem?_eq_some_iff.1 hq
      simpa using this g hlt
  simp [Program.goes, h, hg]
theorem noGo : Tryz.prog.funcs.any Func.goes = false := by kernel_rfl
theorem goesFrom_none {P : Program} (h : P.funcs.any Func.goes = false) (s : String) : P.goesFrom s = false := by
  unfold Program.goesFrom
  cases P.funcNamed s with
  | none => rfl
  | some f => exact goes_none h f
theorem goesAt_none {P : Program} (h : P.funcs.any Func.goes = false) (s : String) : P.goesAt .entering s = false := by
  unfold Program.goesAt
  rw [goesFrom_none h]; rfl
theorem goes : false = Rows.archiveFormatsRow.goesBy Tryz.prog := (goesAt_none noGo _).symm
end Go.Proofs.YtaendhbiehknlaaGreatDoor
