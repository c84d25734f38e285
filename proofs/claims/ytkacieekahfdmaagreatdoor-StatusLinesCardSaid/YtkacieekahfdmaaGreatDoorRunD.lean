import Derived.Test.YtkacieekahfdmaaGreatDoorOutA
set_option linter.unusedSimpArgs false
set_option linter.unusedVariables false
set_option linter.unusedSectionVars false
namespace Go.Proofs.YtkacieekahfdmaaGreatDoor
open Go Go.RowKit Go.Abs
set_option maxRecDepth 1000000
theorem run_9_false : chkO 9 false = true := by decide +kernel
theorem run_6_false : chkO 6 false = true := by decide +kernel
theorem run_3_false : chkO 3 false = true := by decide +kernel
theorem run_0_false : chkO 0 false = true := by decide +kernel
end Go.Proofs.YtkacieekahfdmaaGreatDoor
