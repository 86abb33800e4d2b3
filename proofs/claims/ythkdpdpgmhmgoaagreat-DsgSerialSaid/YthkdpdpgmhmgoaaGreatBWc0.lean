/- Contracts of functions of the program, and what they lean on. Conditions: those of each theorem. -/
import Derived.Test.YthkdpdpgmhmgoaaGreatBF

set_option linter.unusedVariables false
set_option linter.unusedSimpArgs false

section
namespace Go.Proofs.YthkdpdpgmhmgoaaGreat
open Go.ChangeShapes Go.WideShapes Go.ChangeAt Go.RowKit Go.Vm Go.Rt
open Go.Proofs (Tryz.prog)
theorem a9N : Rows.dsgSerialRow.wf (OpenSpec.ofChange Rows.dsgSerialSpec) = true := by kernel_rfl
theorem a0O : laidOutB Tryz.prog = true := by kernel_rfl
theorem a1O : mapsRowed Tryz.prog = true := by kernel_rfl
theorem a2O : Tryz.f5.params.all (Tryz.prog.readableRec ·) = true := by kernel_rfl
theorem a3O : namedTie Tryz.prog Rows.dsgSerialRow.named Rows.dsgSerialSpec.vars = true := by kernel_rfl
theorem a4O : (Rows.dsgSerialRow.stops == []) = true := by kernel_rfl
theorem a5O : (Tryz.prog.stops == []) = true := by kernel_rfl
theorem a6O : (Rows.dsgSerialRow.knobs == []) = true := by kernel_rfl
theorem a7O : (Tryz.prog.stopKnobs == []) = true := by kernel_rfl
theorem a8O : (Rows.dsgSerialRow.inPlace == Tryz.prog.inPlace 5) = true := by kernel_rfl
theorem a9O : (Rows.dsgSerialRow.unfollowed == Tryz.prog.unfollowed 5) = true := by kernel_rfl
theorem a0P : (Rows.dsgSerialRow.recurses == Tryz.prog.recurses 5) = true := by kernel_rfl
theorem a1P : (Rows.dsgSerialRow.named == Tryz.prog.varsNamed 5) = true := by kernel_rfl
theorem a2P : (Rows.dsgSerialRow.maps == (Tryz.f5.params.toList ++ Rows.dsgSerialSpec.plain.varTypes Tryz.prog).any (Tryz.prog.mapsRec ·)) = true := by kernel_rfl
theorem a3P : (Rows.dsgSerialRow.ifaces == (Tryz.f5.params.toList ++ Rows.dsgSerialSpec.plain.varTypes Tryz.prog).any (Tryz.prog.ifacesRec ·)) = true := by kernel_rfl
theorem a4P : (Rows.dsgSerialRow.mapsOut == Tryz.prog.mapsAmong Tryz.f5.resultTypes.toList) = true := by kernel_rfl
theorem a5P : (Rows.dsgSerialRow.loops == (Tryz.f5.params.toList ++ Rows.dsgSerialSpec.plain.varTypes Tryz.prog).any (Tryz.prog.loopsFrom ·)) = true := by kernel_rfl
theorem a6P : (Rows.dsgSerialRow.wideKeys == (Tryz.f5.params.toList ++ Rows.dsgSerialSpec.plain.varTypes Tryz.prog ++ Tryz.f5.resultTypes.toList).any (Tryz.prog.wideKeysFrom ·)) = true := by kernel_rfl
theorem a7P : Rows.dsgSerialSpec.vars.all (Tryz.prog.varReadable ·) = true := by kernel_rfl
theorem a8P : Tryz.f5.resultTypes.all (fun t => Tryz.prog.readableRec t && decide (t < Tryz.prog.types.size)) = true := by kernel_rfl
theorem a9P : (Rows.dsgSerialRow.ifacesOut == Tryz.f5.resultTypes.toList.any (Tryz.prog.ifacesRec ·)) = true := by kernel_rfl
theorem a0Q : (Rows.dsgSerialRow.loopsOut == Tryz.f5.resultTypes.toList.any (Tryz.prog.loopsFrom ·)) = true := by kernel_rfl
theorem a1Q : (Rows.dsgSerialRow.plainKeys == Tryz.prog.plainKeys) = true := by kernel_rfl
theorem a2Q : Rows.dsgSerialRow.shortTexts.isNone = true := by kernel_rfl
theorem a3Q : Tryz.prog.stopsHeard = true := by kernel_rfl
theorem a4Q : Tryz.prog.mayEnter = true := by kernel_rfl
theorem a5Q : (Rows.dsgSerialRow.lifted == Tryz.prog.liftsFinal) = true := by kernel_rfl
theorem a6Q : (Tryz.prog.make == some Rows.dsgSerialRow.make) = true := by kernel_rfl
theorem a7Q : (Rows.dsgSerialRow.pinned == Rows.dsgSerialRow.pinnedBy) = true := by kernel_rfl
theorem a8Q : (Rows.dsgSerialRow.veiled == (Tryz.f5.params.toList ++ Rows.dsgSerialSpec.plain.varTypes Tryz.prog ++ Tryz.f5.resultTypes.toList).any (Tryz.prog.veiledRec ·)) = true := by kernel_rfl
theorem a9Q : Rows.dsgSerialRow.veiledFits Tryz.prog Tryz.f5.params.toList (Tryz.f5.params.toList ++ Rows.dsgSerialSpec.plain.varTypes Tryz.prog ++ Tryz.f5.resultTypes.toList) = true := by kernel_rfl
theorem a0R : Tryz.prog.funcNamed Rows.dsgSerialRow.func = some 5 := by kernel_rfl
theorem a1R : Tryz.f5.isInstance Tryz.prog Rows.dsgSerialRow.origin Rows.dsgSerialRow.targs := of_decide_eq_true (by kernel_rfl)
theorem a2R : Tryz.f5.isWrapper Tryz.prog Rows.dsgSerialRow.wrapper Rows.dsgSerialRow.mainSum := by unfold Func.isWrapper; first | (rw [if_pos (by decide +kernel)]; kernel_rfl) | (rw [if_neg (by decide +kernel)]; exact ⟨rfl, rfl⟩)
theorem a3R : joinedFacts Tryz.prog 5 Tryz.f5 Rows.dsgSerialSpec Rows.dsgSerialRow = true := by
 unfold joinedFacts
 rw [a9N, a0O, a1O, a2O, a3O, a4O, a5O, a6O, a7O, a8O, a9O, a0P, a1P, a2P, a3P, a4P, a5P, a6P, a7P, a8P, a9P, a0Q, a1Q, a2Q, a3Q, a4Q, a5Q, a6Q]
 simp only [Bool.true_and, Bool.and_eq_true]
 exact ⟨⟨⟨by kernel_rfl, a7Q⟩, a8Q⟩, a9Q⟩
end Go.Proofs.YthkdpdpgmhmgoaaGreat
end
