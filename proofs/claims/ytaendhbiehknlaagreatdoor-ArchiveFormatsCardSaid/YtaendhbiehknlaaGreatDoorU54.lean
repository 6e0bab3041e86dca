/- What is proved here, of the given program: The statement ArchiveFormats (Format and Open accept exactly the allowed values) is true of the program for every input, with no condition: its row and its card. -/
import Derived.Test.YtaendhbiehknlaaGreatDoorU51
import Derived.Test.YtaendhbiehknlaaGreatDoorU52
import Derived.Test.YtaendhbiehknlaaGreatDoorTie
import Derived.Test.YtaendhbiehknlaaGreatDoorCards
import Derived.Test.YtaendhbiehknlaaGreatDoorU53
import Derived.SevenTiedAt
set_option linter.unusedVariables false
set_option linter.unusedSimpArgs false
set_option linter.constructorNameAsVariable false
namespace Go.Proofs.YtaendhbiehknlaaGreatDoor
open Go Go.RowKit

theorem archiveFormats_row : Rows.ArchiveFormatsSaid :=
  OpenClaim.holds_of_wide 3 Tryz.f3 rfl rfl rfl rfl rfl rfl rfl ⟨rfl, rfl, rfl, rfl, rfl⟩ rfl rfl rfl rfl rfl (by kernel_rfl) Tryz.func3 rowFacts
    (of_decide_eq_true (by kernel_rfl)) (by unfold Func.isWrapper; first | (rw [if_pos (by decide +kernel)]; kernel_rfl) | (rw [if_neg (by decide +kernel)]; exact ⟨rfl, rfl⟩))
    (fun os started H enc _ => lifted os started H enc)
theorem archiveFormats_card : Rows.ArchiveFormatsCardSaid :=
  Claim7.holds_tied_plain_at .later [] [.data, .data, .handle, .data, .data] true (true, "9e4342d605ead334c534a39904c399602e2a9549e1932cdc070b3c73b5ef2a4a") true
    archiveFormats_row (fun _ h => by cases h) (by kernel_rfl) (fun _ h => by cases h) archiveFormats_row_tie rfl ⟨rfl, rfl⟩ (by kernel_rfl) rfl
    (fun f fn hf hfn => by
      obtain rfl : f = 3 := Option.some.inj ((show Tryz.prog.funcNamed "engrosser/engrosserlaw29.ArchiveFormats" = some 3 by kernel_rfl).symm.trans hf) |>.symm
      obtain rfl : fn = Tryz.f3 := (Option.some.inj (Tryz.func3.symm.trans hfn)).symm
      exact ⟨by kernel_rfl, fun j t ht => by
        rw [Tryz.params3] at ht
        have hm : t ∈ [5, 22, 25] := by simpa using Array.mem_of_getElem? ht
        have hall : ([5, 22, 25].all fun u => !Tryz.prog.wantsStandIn u) = true := by kernel_rfl
        exact (show Tryz.prog.wantsStandIn t = false by simpa using List.all_eq_true.1 hall t hm)⟩)
    goes
end Go.Proofs.YtaendhbiehknlaaGreatDoor
