import Derived.Test.YtkacieekahfdmaaGreatDoorOutA
set_option linter.unusedSimpArgs false
set_option linter.unusedVariables false
set_option linter.unusedSectionVars false
namespace Go.Proofs.YtkacieekahfdmaaGreatDoor
open Go Go.RowKit Go.Abs
set_option maxRecDepth 1000000
theorem run_9_true : chkO 9 true = true := by decide +kernel
theorem run_6_true : chkO 6 true = true := by decide +kernel
theorem run_3_true : chkO 3 true = true := by decide +kernel
theorem run_0_true : chkO 0 true = true := by decide +kernel
end Go.Proofs.YtkacieekahfdmaaGreatDoor
