/- Contracts of functions of the program, and what they lean on. Conditions: those of each theorem. -/
import Derived.Test.YthkdpdpgmhmgoaaGreatPF

set_option linter.unusedVariables false
set_option linter.unusedSimpArgs false

section
namespace Go.Proofs.YthkdpdpgmhmgoaaGreat
open Go.ChangeShapes Go.WideShapes Go.ChangeAt Go.RowKit Go.Vm Go.Rt
open Go.Proofs (Tryz.prog)
theorem b6h : Rows.dsgEdgesRow.wf (OpenSpec.ofChange Rows.dsgEdgesSpec) = true := by kernel_rfl
theorem b7h : laidOutB Tryz.prog = true := by kernel_rfl
theorem b8h : mapsRowed Tryz.prog = true := by kernel_rfl
theorem b9h : Tryz.f3.params.all (Tryz.prog.readableRec ·) = true := by kernel_rfl
theorem b0i : namedTie Tryz.prog Rows.dsgEdgesRow.named Rows.dsgEdgesSpec.vars = true := by kernel_rfl
theorem b1i : (Rows.dsgEdgesRow.stops == []) = true := by kernel_rfl
theorem b2i : (Tryz.prog.stops == []) = true := by kernel_rfl
theorem b3i : (Rows.dsgEdgesRow.knobs == []) = true := by kernel_rfl
theorem b4i : (Tryz.prog.stopKnobs == []) = true := by kernel_rfl
theorem b5i : (Rows.dsgEdgesRow.inPlace == Tryz.prog.inPlace 3) = true := by kernel_rfl
theorem b6i : (Rows.dsgEdgesRow.unfollowed == Tryz.prog.unfollowed 3) = true := by kernel_rfl
theorem b7i : (Rows.dsgEdgesRow.recurses == Tryz.prog.recurses 3) = true := by kernel_rfl
theorem b8i : (Rows.dsgEdgesRow.named == Tryz.prog.varsNamed 3) = true := by kernel_rfl
theorem b9i : (Rows.dsgEdgesRow.maps == (Tryz.f3.params.toList ++ Rows.dsgEdgesSpec.plain.varTypes Tryz.prog).any (Tryz.prog.mapsRec ·)) = true := by kernel_rfl
theorem b0j : (Rows.dsgEdgesRow.ifaces == (Tryz.f3.params.toList ++ Rows.dsgEdgesSpec.plain.varTypes Tryz.prog).any (Tryz.prog.ifacesRec ·)) = true := by kernel_rfl
theorem b1j : (Rows.dsgEdgesRow.mapsOut == Tryz.prog.mapsAmong Tryz.f3.resultTypes.toList) = true := by kernel_rfl
theorem b2j : (Rows.dsgEdgesRow.loops == (Tryz.f3.params.toList ++ Rows.dsgEdgesSpec.plain.varTypes Tryz.prog).any (Tryz.prog.loopsFrom ·)) = true := by kernel_rfl
theorem b3j : (Rows.dsgEdgesRow.wideKeys == (Tryz.f3.params.toList ++ Rows.dsgEdgesSpec.plain.varTypes Tryz.prog ++ Tryz.f3.resultTypes.toList).any (Tryz.prog.wideKeysFrom ·)) = true := by kernel_rfl
theorem b4j : Rows.dsgEdgesSpec.vars.all (Tryz.prog.varReadable ·) = true := by kernel_rfl
theorem b5j : Tryz.f3.resultTypes.all (fun t => Tryz.prog.readableRec t && decide (t < Tryz.prog.types.size)) = true := by kernel_rfl
theorem b6j : (Rows.dsgEdgesRow.ifacesOut == Tryz.f3.resultTypes.toList.any (Tryz.prog.ifacesRec ·)) = true := by kernel_rfl
theorem b7j : (Rows.dsgEdgesRow.loopsOut == Tryz.f3.resultTypes.toList.any (Tryz.prog.loopsFrom ·)) = true := by kernel_rfl
theorem b8j : (Rows.dsgEdgesRow.plainKeys == Tryz.prog.plainKeys) = true := by kernel_rfl
theorem b9j : Rows.dsgEdgesRow.shortTexts.isNone = true := by kernel_rfl
theorem b0k : Tryz.prog.stopsHeard = true := by kernel_rfl
theorem b1k : Tryz.prog.mayEnter = true := by kernel_rfl
theorem b2k : (Rows.dsgEdgesRow.lifted == Tryz.prog.liftsFinal) = true := by kernel_rfl
theorem b3k : (Tryz.prog.make == some Rows.dsgEdgesRow.make) = true := by kernel_rfl
theorem b4k : (Rows.dsgEdgesRow.pinned == Rows.dsgEdgesRow.pinnedBy) = true := by kernel_rfl
theorem b5k : (Rows.dsgEdgesRow.veiled == (Tryz.f3.params.toList ++ Rows.dsgEdgesSpec.plain.varTypes Tryz.prog ++ Tryz.f3.resultTypes.toList).any (Tryz.prog.veiledRec ·)) = true := by kernel_rfl
theorem b6k : Rows.dsgEdgesRow.veiledFits Tryz.prog Tryz.f3.params.toList (Tryz.f3.params.toList ++ Rows.dsgEdgesSpec.plain.varTypes Tryz.prog ++ Tryz.f3.resultTypes.toList) = true := by kernel_rfl
theorem b7k : Tryz.prog.funcNamed Rows.dsgEdgesRow.func = some 3 := by kernel_rfl
theorem b8k : Tryz.f3.isInstance Tryz.prog Rows.dsgEdgesRow.origin Rows.dsgEdgesRow.targs := of_decide_eq_true (by kernel_rfl)
theorem b9k : Tryz.f3.isWrapper Tryz.prog Rows.dsgEdgesRow.wrapper Rows.dsgEdgesRow.mainSum := by unfold Func.isWrapper; first | (rw [if_pos (by decide +kernel)]; kernel_rfl) | (rw [if_neg (by decide +kernel)]; exact ⟨rfl, rfl⟩)
theorem b0l : joinedFacts Tryz.prog 3 Tryz.f3 Rows.dsgEdgesSpec Rows.dsgEdgesRow = true := by
 unfold joinedFacts
 rw [b6h, b7h, b8h, b9h, b0i, b1i, b2i, b3i, b4i, b5i, b6i, b7i, b8i, b9i, b0j, b1j, b2j, b3j, b4j, b5j, b6j, b7j, b8j, b9j, b0k, b1k, b2k, b3k]
 simp only [Bool.true_and, Bool.and_eq_true]
 exact ⟨⟨⟨by kernel_rfl, b4k⟩, b5k⟩, b6k⟩
end Go.Proofs.YthkdpdpgmhmgoaaGreat
end
