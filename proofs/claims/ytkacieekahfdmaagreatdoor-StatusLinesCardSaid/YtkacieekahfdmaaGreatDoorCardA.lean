import Derived.Test.YtkacieekahfdmaaGreatDoorCards
import Derived.SevenTiedAt
import Derived.KernelRfl
set_option linter.unusedSimpArgs false
set_option linter.unusedVariables false
set_option linter.unusedSectionVars false
namespace Go.Proofs.YtkacieekahfdmaaGreatDoor
open Go
theorem cardFact1 : Rows.statusLinesRow.wfByText (OpenSpec.ofChange Rows.statusLinesSpec) = true := by kernel_rfl
end Go.Proofs.YtkacieekahfdmaaGreatDoor
namespace Go.Proofs.YtkacieekahfdmaaGreatDoor
open Go
theorem cardFact2 : Tryz.pinned.checked.prog.mainIs = some (true, ("8c090e1778ee9e40b7575ee8cd763d01f5424529e962adf78f3c857d90fc8275" : String).toList) := by kernel_rfl
end Go.Proofs.YtkacieekahfdmaaGreatDoor
namespace Go.Proofs.YtkacieekahfdmaaGreatDoor
open Go
theorem cardFact3 : Tryz.prog.funcNamed "treenail/treenaillaw27.StatusLines" = some 3 := by kernel_rfl
end Go.Proofs.YtkacieekahfdmaaGreatDoor
namespace Go.Proofs.YtkacieekahfdmaaGreatDoor
open Go
theorem cardFact4 : true = Tryz.pinned.checked.prog.looks [] := by kernel_rfl
end Go.Proofs.YtkacieekahfdmaaGreatDoor
namespace Go.Proofs.YtkacieekahfdmaaGreatDoor
open Go
theorem cardFact5 : ([22, 23, 5].all fun u => !Tryz.prog.wantsStandIn u) = true := by kernel_rfl
end Go.Proofs.YtkacieekahfdmaaGreatDoor
