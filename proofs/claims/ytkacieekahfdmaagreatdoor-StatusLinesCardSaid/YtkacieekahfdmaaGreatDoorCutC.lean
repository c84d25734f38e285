import Derived.Test.YtkacieekahfdmaaGreatDoorCutD
set_option linter.unusedSimpArgs false
set_option linter.unusedVariables false
set_option linter.unusedSectionVars false
namespace Go.Proofs.YtkacieekahfdmaaGreatDoor
open Go Go.RowKit Go.Abs
set_option maxRecDepth 1000000
theorem chk_c2 : chkCut eBase 60 c2 = true := by decide +kernel
end Go.Proofs.YtkacieekahfdmaaGreatDoor
