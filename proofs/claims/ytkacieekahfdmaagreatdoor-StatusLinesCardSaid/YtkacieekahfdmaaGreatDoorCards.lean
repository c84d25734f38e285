/-
  DERIVED. GIVEN WITH THE SEED: THE CARDS: each row of YtkacieekahfdmaaGreatDoorRows.lean that lists a variable, with what it lists TIED to the program's text (the seventh form; the later family's looks); each row that meets fmt, with fmt's text TOLD by the authors' own Lean function (tested against real Go, not proved from fmt's source: count such statements apart). THE CARD IS WHAT COUNTS. Prove the row's statement (the work); the ties are given (YtkacieekahfdmaaGreatDoorTie.lean); close each card by the builder's one call (the guide's Derived/Test/ToyasCard.lean, 'card_holds'). Laid BY PROGRAM, IN A SANDBOX (cutbox-door.mjs). By AI agents, Wed Nov 11 2026. No macro, syntax, notation, axiom, sorry.
-/
import Derived.Test.YtkacieekahfdmaaGreatDoorRows
import GoSem.ClaimSeven
namespace Go.Proofs.YtkacieekahfdmaaGreatDoor
namespace Rows

/-- THE TIED CARD OF 'treenaillaw27.StatusLines'. -/
def statusLinesCard : Claim7 := { stood := { row := statusLinesRow, standIns := [], harness := (true, "8c090e1778ee9e40b7575ee8cd763d01f5424529e962adf78f3c857d90fc8275"), looks := true }, kinds := [], alts := [], laidByText := true, laidKinds := [.data, .data, .data], laidTests := true, laidLooks := .later }
def StatusLinesCardSaid : Prop := Claim7.holds Tryz.pinned (.plain (OpenSpec.ofChange statusLinesSpec)) statusLinesCard

/-- THE SECOND FORM's CARD OF 'treenaillaw27.StatusLines'. -/
def statusLinesUptoCard : Claim7 := { stood := { row := statusLinesUptoRow, standIns := [], harness := (true, "8c090e1778ee9e40b7575ee8cd763d01f5424529e962adf78f3c857d90fc8275"), looks := true }, kinds := [], alts := [], laidByText := true, laidKinds := [.data, .data, .data], laidTests := true, laidLooks := .later }
def StatusLinesUptoCardSaid : Prop := Claim7.holds Tryz.pinned (.plain (OpenSpec.upto statusLinesSpec)) statusLinesUptoCard
end Rows
end Go.Proofs.YtkacieekahfdmaaGreatDoor
