import Derived.Test.YtkacieekahfdmaaGreatDoorLawA
import Derived.Test.YtkacieekahfdmaaGreatDoorCards
import Derived.Test.YtkacieekahfdmaaGreatDoorTie
import Derived.WalkKit
import Derived.ProofKit
import Derived.OpenShut
import Derived.ShutString
import Derived.ChangeOld
import Derived.Below
import Derived.LaidMore
import Derived.Stop.Joined
import Derived.SevenTiedAt
import Derived.WideKeyArr2
import Derived.Deep.Slices
import Derived.Lib.LaidTab
import Derived.Stop.LaidErr
set_option linter.unusedSimpArgs false
set_option linter.unusedVariables false
set_option linter.unusedSectionVars false
set_option linter.unusedSectionVars false
namespace Go.Proofs.YtkacieekahfdmaaGreatDoor
open Go Go.ChangeShapes Go.WideShapes Go.ChangeAt Go.WideMaps Go.WideElems Go.RowKit
open Go.Abs (Tr)
theorem own : ownKnob Tryz.prog.godebug = none := by kernel_rfl
theorem laidOut : laidOutB Tryz.prog = true := by kernel_rfl
abbrev laidL : List (String × DataW Unit) := [("math/bits.deBruijn32tab", Rows.laid_math_bits_deBruijn32tab), ("math/bits.deBruijn64tab", Rows.laid_math_bits_deBruijn64tab), ("internal/strconv.uint64pow10", Rows.laid_internal_strconv_uint64pow10)]
theorem door_met (os : Os) (args : Array Value) : laidMetH Tryz.prog laidL ((World.doorLaid Tryz.prog 24 os).forCall (fun _ _ => 0) ⟨#[], args, []⟩).memory :=
  laidMetH_of_parts3 (fuel := 8) (laidMet_of_run' 8 (by kernel_rfl) (by kernel_rfl)) (by kernel_rfl) (by kernel_rfl)
theorem g64 : Tryz.prog.globalNamed "math/bits.deBruijn64tab" = some 2 := by kernel_rfl
theorem gPow : Tryz.prog.globalNamed "internal/strconv.uint64pow10" = some 0 := by kernel_rfl
def tab64 : List Int := [0, 1, 56, 2, 57, 49, 28, 3, 61, 58, 42, 50, 38, 29, 17, 4, 62, 47, 59, 36, 45, 43, 51, 22, 53, 39, 33, 30, 24, 18, 12, 5, 63, 55, 48, 27, 60, 41, 37, 16, 46, 35, 44, 21, 52, 32, 23, 11, 54, 26, 40, 15, 34, 20, 31, 10, 25, 14, 19, 9, 13, 8, 7, 6]
theorem of_laid {W : World} (h : laidMetH Tryz.prog laidL W) : Pow10 W ∧ 2 < W.heap.size ∧ W.cell? ⟨2, 63, none⟩ = some (.int .u8 6) := by
  rw [MakeChecks.laidMetH_plain _ _ _ (by kernel_rfl)] at h
  have h1 := h.tail
  have h2 := h1.tail
  have t1 : Lib.TabIs Tryz.prog W "math/bits.deBruijn64tab" .u8 tab64 :=
    Lib.tabIs_of_head (t := 301) (e := 5) (n := 64) g64 (by kernel_rfl) (by kernel_rfl) Tryz.underlying5 (by kernel_rfl) (by kernel_rfl) (zs := tab64) h1
  have t2 : Pow10 W :=
    Lib.tabIs_of_head (t := 144) (e := 24) (n := 20) gPow (by kernel_rfl) (by kernel_rfl) Tryz.underlying24 (by kernel_rfl) (by kernel_rfl) (zs := Lib.pow10Tab) h2
  have hc := t1.cell g64 63 (by decide)
  refine ⟨t2, ?_, hc⟩
  rcases Nat.lt_or_ge 2 W.heap.size with h' | h'
  · exact h'
  · unfold World.cell? at hc
    rw [Array.getElem?_eq_none h'] at hc
    cases hc
end Go.Proofs.YtkacieekahfdmaaGreatDoor
