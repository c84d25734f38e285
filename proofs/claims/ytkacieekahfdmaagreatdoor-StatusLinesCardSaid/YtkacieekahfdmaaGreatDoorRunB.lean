import Derived.Test.YtkacieekahfdmaaGreatDoorOutA
set_option linter.unusedSimpArgs false
set_option linter.unusedVariables false
set_option linter.unusedSectionVars false
namespace Go.Proofs.YtkacieekahfdmaaGreatDoor
open Go Go.RowKit Go.Abs
set_option maxRecDepth 1000000
theorem run_10_false : chkO 10 false = true := by decide +kernel
theorem run_7_false : chkO 7 false = true := by decide +kernel
theorem run_4_false : chkO 4 false = true := by decide +kernel
theorem run_1_false : chkO 1 false = true := by decide +kernel
end Go.Proofs.YtkacieekahfdmaaGreatDoor
