import Derived.Test.YtkacieekahfdmaaGreatDoorRows
import Derived.JoinedOf
import Derived.KernelRfl
set_option linter.unusedSimpArgs false
set_option linter.unusedVariables false
set_option linter.unusedSectionVars false
namespace Go.Proofs.YtkacieekahfdmaaGreatDoor
open Go
theorem andI {a b : Bool} (h : a = true) (k : b = true) : (a && b) = true := by rw [h, k]; rfl
theorem fact0 : (Rows.statusLinesRow.wf (OpenSpec.ofChange Rows.statusLinesSpec) : Bool) = true := by kernel_rfl
theorem fact1 : (laidOutB Tryz.prog : Bool) = true := by kernel_rfl
theorem fact2 : (mapsRowed Tryz.prog : Bool) = true := by kernel_rfl
theorem fact3 : (Tryz.f3.params.all (Tryz.prog.readableRec ·) : Bool) = true := by kernel_rfl
theorem fact4 : (namedTie Tryz.prog Rows.statusLinesRow.named Rows.statusLinesSpec.vars : Bool) = true := by kernel_rfl
theorem fact5 : ((Rows.statusLinesRow.stops == []) : Bool) = true := by kernel_rfl
theorem fact6 : ((Tryz.prog.stops == []) : Bool) = true := by kernel_rfl
theorem fact7 : ((Rows.statusLinesRow.knobs == []) : Bool) = true := by kernel_rfl
theorem fact8 : ((Tryz.prog.stopKnobs == []) : Bool) = true := by kernel_rfl
theorem fact9 : ((Rows.statusLinesRow.inPlace == Tryz.prog.inPlace 3) : Bool) = true := by kernel_rfl
theorem fact10 : ((Rows.statusLinesRow.unfollowed == Tryz.prog.unfollowed 3) : Bool) = true := by kernel_rfl
theorem fact11 : ((Rows.statusLinesRow.recurses == Tryz.prog.recurses 3) : Bool) = true := by kernel_rfl
theorem fact12 : ((Rows.statusLinesRow.named == Tryz.prog.varsNamed 3) : Bool) = true := by kernel_rfl
theorem fact13 : ((Rows.statusLinesRow.maps == (Tryz.f3.params.toList ++ Rows.statusLinesSpec.plain.varTypes Tryz.prog).any (Tryz.prog.mapsRec ·)) : Bool) = true := by kernel_rfl
theorem fact14 : ((Rows.statusLinesRow.ifaces == (Tryz.f3.params.toList ++ Rows.statusLinesSpec.plain.varTypes Tryz.prog).any (Tryz.prog.ifacesRec ·)) : Bool) = true := by kernel_rfl
theorem fact15 : ((Rows.statusLinesRow.mapsOut == Tryz.prog.mapsAmong Tryz.f3.resultTypes.toList) : Bool) = true := by kernel_rfl
theorem fact16 : ((Rows.statusLinesRow.loops == (Tryz.f3.params.toList ++ Rows.statusLinesSpec.plain.varTypes Tryz.prog).any (Tryz.prog.loopsFrom ·)) : Bool) = true := by kernel_rfl
theorem fact17 : ((Rows.statusLinesRow.wideKeys == (Tryz.f3.params.toList ++ Rows.statusLinesSpec.plain.varTypes Tryz.prog ++ Tryz.f3.resultTypes.toList).any (Tryz.prog.wideKeysFrom ·)) : Bool) = true := by kernel_rfl
theorem fact18 : (Rows.statusLinesSpec.vars.all (Tryz.prog.varReadable ·) : Bool) = true := by kernel_rfl
theorem fact19 : (Tryz.f3.resultTypes.all (fun t => Tryz.prog.readableRec t && decide (t < Tryz.prog.types.size)) : Bool) = true := by kernel_rfl
theorem fact20 : ((Rows.statusLinesRow.ifacesOut == Tryz.f3.resultTypes.toList.any (Tryz.prog.ifacesRec ·)) : Bool) = true := by kernel_rfl
theorem fact21 : ((Rows.statusLinesRow.loopsOut == Tryz.f3.resultTypes.toList.any (Tryz.prog.loopsFrom ·)) : Bool) = true := by kernel_rfl
theorem fact22 : ((Rows.statusLinesRow.plainKeys == Tryz.prog.plainKeys) : Bool) = true := by kernel_rfl
theorem fact23 : (Rows.statusLinesRow.shortTexts.isNone : Bool) = true := by kernel_rfl
theorem fact24 : (Tryz.prog.stopsHeard : Bool) = true := by kernel_rfl
theorem fact25 : (Tryz.prog.mayEnter : Bool) = true := by kernel_rfl
theorem fact26 : ((Rows.statusLinesRow.lifted == Tryz.prog.liftsFinal) : Bool) = true := by kernel_rfl
theorem fact27 : ((Tryz.prog.make == some Rows.statusLinesRow.make) : Bool) = true := by kernel_rfl
theorem fact28 : ((Rows.statusLinesRow.kinds == (if Rows.statusLinesRow.domain.isEmpty then [] else Tryz.f3.params.toList.map fun t => match Tryz.prog.underlying t with | some (.int k) => some k | _ => none)) : Bool) = true := by kernel_rfl
theorem fact29 : ((Rows.statusLinesRow.pinned == Rows.statusLinesRow.pinnedBy) : Bool) = true := by kernel_rfl
theorem fact30 : ((Rows.statusLinesRow.veiled == (Tryz.f3.params.toList ++ Rows.statusLinesSpec.plain.varTypes Tryz.prog ++ Tryz.f3.resultTypes.toList).any (Tryz.prog.veiledRec ·)) : Bool) = true := by kernel_rfl
theorem fact31 : (Rows.statusLinesRow.veiledFits Tryz.prog Tryz.f3.params.toList (Tryz.f3.params.toList ++ Rows.statusLinesSpec.plain.varTypes Tryz.prog ++ Tryz.f3.resultTypes.toList) : Bool) = true := by kernel_rfl
end Go.Proofs.YtkacieekahfdmaaGreatDoor
