import Derived.Test.YtkacieekahfdmaaGreatDoorLinesD
set_option linter.unusedSimpArgs false
set_option linter.unusedVariables false
set_option linter.unusedSectionVars false
namespace Go.Proofs.YtkacieekahfdmaaGreatDoor
open Go Go.RowKit Go.Abs
set_option maxRecDepth 1000000
theorem ln_4 : lnOk 4 (lnRun 4) = true := by decide +kernel
theorem ln_5 : lnOk 5 (lnRun 5) = true := by decide +kernel
theorem ln_6 : lnOk 6 (lnRun 6) = true := by decide +kernel
theorem ln_7 : lnOk 7 (lnRun 7) = true := by decide +kernel
end Go.Proofs.YtkacieekahfdmaaGreatDoor
