/- Contracts of functions of the program, and what they lean on. Conditions: those of each theorem. -/
import Derived.Test.YthkdpdpgmhmgoaaGreatBF

set_option linter.unusedVariables false
set_option linter.unusedSimpArgs false

section
namespace Go.Proofs.YthkdpdpgmhmgoaaGreat
open Go.ChangeShapes Go.WideShapes Go.ChangeAt Go.RowKit Go.Vm Go.Rt
open Go.Proofs (Tryz.prog)
theorem b2s : Rows.dsgOthersRow.wf (OpenSpec.ofChange Rows.dsgOthersSpec) = true := by kernel_rfl
theorem b3s : laidOutB Tryz.prog = true := by kernel_rfl
theorem b4s : mapsRowed Tryz.prog = true := by kernel_rfl
theorem b5s : Tryz.f6.params.all (Tryz.prog.readableRec ·) = true := by kernel_rfl
theorem b6s : namedTie Tryz.prog Rows.dsgOthersRow.named Rows.dsgOthersSpec.vars = true := by kernel_rfl
theorem b7s : (Rows.dsgOthersRow.stops == []) = true := by kernel_rfl
theorem b8s : (Tryz.prog.stops == []) = true := by kernel_rfl
theorem b9s : (Rows.dsgOthersRow.knobs == []) = true := by kernel_rfl
theorem b0t : (Tryz.prog.stopKnobs == []) = true := by kernel_rfl
theorem b1t : (Rows.dsgOthersRow.inPlace == Tryz.prog.inPlace 6) = true := by kernel_rfl
theorem b2t : (Rows.dsgOthersRow.unfollowed == Tryz.prog.unfollowed 6) = true := by kernel_rfl
theorem b3t : (Rows.dsgOthersRow.recurses == Tryz.prog.recurses 6) = true := by kernel_rfl
theorem b4t : (Rows.dsgOthersRow.named == Tryz.prog.varsNamed 6) = true := by kernel_rfl
theorem b5t : (Rows.dsgOthersRow.maps == (Tryz.f6.params.toList ++ Rows.dsgOthersSpec.plain.varTypes Tryz.prog).any (Tryz.prog.mapsRec ·)) = true := by kernel_rfl
theorem b6t : (Rows.dsgOthersRow.ifaces == (Tryz.f6.params.toList ++ Rows.dsgOthersSpec.plain.varTypes Tryz.prog).any (Tryz.prog.ifacesRec ·)) = true := by kernel_rfl
theorem b7t : (Rows.dsgOthersRow.mapsOut == Tryz.prog.mapsAmong Tryz.f6.resultTypes.toList) = true := by kernel_rfl
theorem b8t : (Rows.dsgOthersRow.loops == (Tryz.f6.params.toList ++ Rows.dsgOthersSpec.plain.varTypes Tryz.prog).any (Tryz.prog.loopsFrom ·)) = true := by kernel_rfl
theorem b9t : (Rows.dsgOthersRow.wideKeys == (Tryz.f6.params.toList ++ Rows.dsgOthersSpec.plain.varTypes Tryz.prog ++ Tryz.f6.resultTypes.toList).any (Tryz.prog.wideKeysFrom ·)) = true := by kernel_rfl
theorem b0u : Rows.dsgOthersSpec.vars.all (Tryz.prog.varReadable ·) = true := by kernel_rfl
theorem b1u : Tryz.f6.resultTypes.all (fun t => Tryz.prog.readableRec t && decide (t < Tryz.prog.types.size)) = true := by kernel_rfl
theorem b2u : (Rows.dsgOthersRow.ifacesOut == Tryz.f6.resultTypes.toList.any (Tryz.prog.ifacesRec ·)) = true := by kernel_rfl
theorem b3u : (Rows.dsgOthersRow.loopsOut == Tryz.f6.resultTypes.toList.any (Tryz.prog.loopsFrom ·)) = true := by kernel_rfl
theorem b4u : (Rows.dsgOthersRow.plainKeys == Tryz.prog.plainKeys) = true := by kernel_rfl
theorem b5u : Rows.dsgOthersRow.shortTexts.isNone = true := by kernel_rfl
theorem b6u : Tryz.prog.stopsHeard = true := by kernel_rfl
theorem b7u : Tryz.prog.mayEnter = true := by kernel_rfl
theorem b8u : (Rows.dsgOthersRow.lifted == Tryz.prog.liftsFinal) = true := by kernel_rfl
theorem b9u : (Tryz.prog.make == some Rows.dsgOthersRow.make) = true := by kernel_rfl
theorem b0v : (Rows.dsgOthersRow.pinned == Rows.dsgOthersRow.pinnedBy) = true := by kernel_rfl
theorem b1v : (Rows.dsgOthersRow.veiled == (Tryz.f6.params.toList ++ Rows.dsgOthersSpec.plain.varTypes Tryz.prog ++ Tryz.f6.resultTypes.toList).any (Tryz.prog.veiledRec ·)) = true := by kernel_rfl
theorem b2v : Rows.dsgOthersRow.veiledFits Tryz.prog Tryz.f6.params.toList (Tryz.f6.params.toList ++ Rows.dsgOthersSpec.plain.varTypes Tryz.prog ++ Tryz.f6.resultTypes.toList) = true := by kernel_rfl
theorem b3v : Tryz.prog.funcNamed Rows.dsgOthersRow.func = some 6 := by kernel_rfl
theorem b4v : Tryz.f6.isInstance Tryz.prog Rows.dsgOthersRow.origin Rows.dsgOthersRow.targs := of_decide_eq_true (by kernel_rfl)
theorem b5v : Tryz.f6.isWrapper Tryz.prog Rows.dsgOthersRow.wrapper Rows.dsgOthersRow.mainSum := by unfold Func.isWrapper; first | (rw [if_pos (by decide +kernel)]; kernel_rfl) | (rw [if_neg (by decide +kernel)]; exact ⟨rfl, rfl⟩)
theorem b6v : joinedFacts Tryz.prog 6 Tryz.f6 Rows.dsgOthersSpec Rows.dsgOthersRow = true := by
 unfold joinedFacts
 rw [b2s, b3s, b4s, b5s, b6s, b7s, b8s, b9s, b0t, b1t, b2t, b3t, b4t, b5t, b6t, b7t, b8t, b9t, b0u, b1u, b2u, b3u, b4u, b5u, b6u, b7u, b8u, b9u]
 simp only [Bool.true_and, Bool.and_eq_true]
 exact ⟨⟨⟨by kernel_rfl, b0v⟩, b1v⟩, b2v⟩
end Go.Proofs.YthkdpdpgmhmgoaaGreat
end
