import Derived.Test.YtkacieekahfdmaaGreatDoorLinesD
set_option linter.unusedSimpArgs false
set_option linter.unusedVariables false
set_option linter.unusedSectionVars false
namespace Go.Proofs.YtkacieekahfdmaaGreatDoor
open Go Go.RowKit Go.Abs
set_option maxRecDepth 1000000
theorem ln_8 : lnOk 8 (lnRun 8) = true := by decide +kernel
theorem ln_9 : lnOk 9 (lnRun 9) = true := by decide +kernel
theorem ln_10 : lnOk 10 (lnRun 10) = true := by decide +kernel
theorem ln_11 : lnOk 11 (lnRun 11) = true := by decide +kernel
end Go.Proofs.YtkacieekahfdmaaGreatDoor
