import Derived.Test.YtkacieekahfdmaaGreatDoorCards
import Derived.SevenTiedAt
import Derived.KernelRfl
set_option linter.unusedSimpArgs false
set_option linter.unusedVariables false
set_option linter.unusedSectionVars false
namespace Go.Proofs.YtkacieekahfdmaaGreatDoor
open Go
theorem cardFact6 : false = Rows.statusLinesRow.goesBy Tryz.pinned.checked.prog := by kernel_rfl
end Go.Proofs.YtkacieekahfdmaaGreatDoor
