import Derived.Test.YtkacieekahfdmaaGreatDoorCutD
set_option linter.unusedSimpArgs false
set_option linter.unusedVariables false
set_option linter.unusedSectionVars false
namespace Go.Proofs.YtkacieekahfdmaaGreatDoor
open Go Go.RowKit Go.Abs
set_option maxRecDepth 1000000
theorem chk_c4 : chkCut eBase 60 c4 = true := by decide +kernel
end Go.Proofs.YtkacieekahfdmaaGreatDoor
namespace Go.Proofs.YtkacieekahfdmaaGreatDoor
open Go Go.RowKit Go.Abs
set_option maxRecDepth 1000000
theorem wakes_run : wakesRun = true := by decide +kernel
end Go.Proofs.YtkacieekahfdmaaGreatDoor
