import Derived.Test.YtkacieekahfdmaaGreatDoorOutA
set_option linter.unusedSimpArgs false
set_option linter.unusedVariables false
set_option linter.unusedSectionVars false
namespace Go.Proofs.YtkacieekahfdmaaGreatDoor
open Go Go.RowKit Go.Abs
set_option maxRecDepth 1000000
theorem run_8_true : chkO 8 true = true := by decide +kernel
theorem run_5_true : chkO 5 true = true := by decide +kernel
theorem run_2_true : chkO 2 true = true := by decide +kernel
end Go.Proofs.YtkacieekahfdmaaGreatDoor
