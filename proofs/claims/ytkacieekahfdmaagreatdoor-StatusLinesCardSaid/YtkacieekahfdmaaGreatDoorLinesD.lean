import Derived.Test.YtkacieekahfdmaaGreatDoorTokA
set_option linter.unusedSimpArgs false
set_option linter.unusedVariables false
set_option linter.unusedSectionVars false
set_option linter.unusedSectionVars false
namespace Go.Proofs.YtkacieekahfdmaaGreatDoor
open Go Go.RowKit Go.Abs
def codeOf : List Nat → Nat
  | [] => 0
  | d :: l => d + 1024 * codeOf l
/-- a word and numbers, as pieces -/
def lineP : List Nat → List Nat → List Nat
  | w, [] => w
  | w, i :: l => lineP (w ++ [33, 257 + i]) l
def badP : Nat → Nat → List (List Nat)
  | 0, _ => []
  | n + 1, k => lineP [99, 98, 101] [100 + 2 * k, 101 + 2 * k] :: badP n (k + 1)
def linesP (n : Nat) : List (List Nat) :=
  [[104, 102, 111, 33, 258], lineP [117, 115, 102, 102] [3, 4, 5], lineP [115, 102, 113, 98, 106, 115, 116] [6], lineP [110, 112, 119, 102, 101] [7, 2], lineP [109, 102, 103, 117] [8, 11],
   lineP [101, 102, 98, 101] [52, 53], lineP [116, 106, 109, 119, 102, 115] [54, 9], lineP [103, 109, 118, 116, 105, 102, 116] [10, 12]] ++ badP n 0
noncomputable def hdLn (f : Nat) : Option Hd := bif Nat.beq f 6 then some hItoaT else bif Nat.beq f 12 then some hFmtT else bif Nat.beq f 14 then some hBitT else none
noncomputable def eLn (n : Nat) : Env := envOf kT kF hdLn (hookS n)
def statTok : Value := .agg ⟨[.chan (some 9), inTok 3, inTok 4, inTok 5, inTok 6, inTok 7, inTok 2, inTok 8, inTok 11, .chan (some 20), .chan (some 28), .chan (some 36), inTok 9, .chan (some 13), inTok 10, inTok 12]⟩
noncomputable def lnOk (n : Nat) (r : Option (Value × AS)) : Bool :=
  match r with
  | some (.slice (some ⟨i, 0, none⟩) m c2, s) => (match s.heap.get i with
    | some (.cells e vs _ lo hi) => Nat.beq m (8 + n) && Nat.ble m (c2 / 2) && (Nat.beq (c2 % 2) 1 || Nat.ble (c2 / 2) vs.length) && Nat.beq e 9 && Nat.beq lo 0 && Nat.beq hi 0 && lEq (vEq 2) (vs.take m) ((linesP n).map fun l => strTok (codeOf l))
    | _ => false)
  | _ => false
noncomputable def lnRun (n : Nat) : Option (Value × AS) := run (eLn n) 20 7 [statTok] { heap := .nil, next := 0 }
end Go.Proofs.YtkacieekahfdmaaGreatDoor
