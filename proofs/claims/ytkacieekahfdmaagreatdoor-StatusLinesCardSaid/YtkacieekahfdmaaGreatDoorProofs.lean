/-
  The law StatusLines returns true for every input: the lines of every status are the document's, and two statuses are equal just if all is the same.
  Conditions: three tables of the library read as their text lays them when the call begins (the card ties them to the text).
-/
import Derived.Test.YtkacieekahfdmaaGreatDoorLawC
import Derived.Test.YtkacieekahfdmaaGreatDoorCardA
import Derived.Test.YtkacieekahfdmaaGreatDoorCardB
import Derived.Test.YtkacieekahfdmaaGreatDoorCards
import Derived.Test.YtkacieekahfdmaaGreatDoorTie
import Derived.WalkKit
import Derived.ProofKit
import Derived.OpenShut
import Derived.ShutString
import Derived.ChangeOld
import Derived.Below
import Derived.LaidMore
import Derived.Stop.Joined
import Derived.SevenTiedAt
import Derived.WideKeyArr2
import Derived.Deep.Slices
import Derived.Lib.LaidTab
import Derived.Stop.LaidErr
set_option linter.unusedSimpArgs false
set_option linter.unusedVariables false
set_option linter.unusedSectionVars false
set_option linter.unusedSectionVars false
namespace Go.Proofs.YtkacieekahfdmaaGreatDoor
open Go Go.ChangeShapes Go.WideShapes Go.ChangeAt Go.WideMaps Go.WideElems Go.RowKit
open Go.Abs (Tr)
theorem statusLines_card : Rows.StatusLinesCardSaid :=
  Claim7.holds_tied_plain_at .later [] [.data, .data, .data] true (true, "8c090e1778ee9e40b7575ee8cd763d01f5424529e962adf78f3c857d90fc8275") true
    statusLines_holds (fun _ h => by cases h) cardFact1 (fun _ h => by cases h) statusLines_row_tie rfl ⟨rfl, rfl⟩ cardFact2 rfl
    (fun f fn hf hfn => by
      obtain rfl : f = 3 := Option.some.inj (cardFact3.symm.trans hf) |>.symm
      obtain rfl : fn = Tryz.f3 := (Option.some.inj (Tryz.func3.symm.trans hfn)).symm
      exact ⟨cardFact4, fun j t ht => by
        rw [Tryz.params3] at ht
        have hm : t ∈ [22, 23, 5] := by simpa using Array.mem_of_getElem? ht
        exact (show Tryz.prog.wantsStandIn t = false by simpa using List.all_eq_true.1 cardFact5 t hm)⟩)
    cardFact6
#print axioms statusLines_card
end Go.Proofs.YtkacieekahfdmaaGreatDoor
