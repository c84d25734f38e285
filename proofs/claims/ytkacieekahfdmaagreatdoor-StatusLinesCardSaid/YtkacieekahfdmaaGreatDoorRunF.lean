import Derived.Test.YtkacieekahfdmaaGreatDoorOutA
set_option linter.unusedSimpArgs false
set_option linter.unusedVariables false
set_option linter.unusedSectionVars false
namespace Go.Proofs.YtkacieekahfdmaaGreatDoor
open Go Go.RowKit Go.Abs
set_option maxRecDepth 1000000
theorem run_8_false : chkO 8 false = true := by decide +kernel
theorem run_5_false : chkO 5 false = true := by decide +kernel
theorem run_2_false : chkO 2 false = true := by decide +kernel
end Go.Proofs.YtkacieekahfdmaaGreatDoor
