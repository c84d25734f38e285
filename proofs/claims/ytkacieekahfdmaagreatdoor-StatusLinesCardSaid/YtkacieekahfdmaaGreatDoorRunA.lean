import Derived.Test.YtkacieekahfdmaaGreatDoorOutA
set_option linter.unusedSimpArgs false
set_option linter.unusedVariables false
set_option linter.unusedSectionVars false
namespace Go.Proofs.YtkacieekahfdmaaGreatDoor
open Go Go.RowKit Go.Abs
set_option maxRecDepth 1000000
theorem run_10_true : chkO 10 true = true := by decide +kernel
theorem run_7_true : chkO 7 true = true := by decide +kernel
theorem run_4_true : chkO 4 true = true := by decide +kernel
theorem run_1_true : chkO 1 true = true := by decide +kernel
end Go.Proofs.YtkacieekahfdmaaGreatDoor
