import Derived.Test.YtkacieekahfdmaaGreatDoorLinesD
set_option linter.unusedSimpArgs false
set_option linter.unusedVariables false
set_option linter.unusedSectionVars false
namespace Go.Proofs.YtkacieekahfdmaaGreatDoor
open Go Go.RowKit Go.Abs
set_option maxRecDepth 1000000
theorem ln_0 : lnOk 0 (lnRun 0) = true := by decide +kernel
theorem ln_1 : lnOk 1 (lnRun 1) = true := by decide +kernel
theorem ln_2 : lnOk 2 (lnRun 2) = true := by decide +kernel
theorem ln_3 : lnOk 3 (lnRun 3) = true := by decide +kernel
end Go.Proofs.YtkacieekahfdmaaGreatDoor
