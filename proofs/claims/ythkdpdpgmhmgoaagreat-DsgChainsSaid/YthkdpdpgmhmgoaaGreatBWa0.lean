/- Contracts of functions of the program, and what they lean on. Conditions: those of each theorem. -/
import Derived.Test.YthkdpdpgmhmgoaaGreatBF

set_option linter.unusedVariables false
set_option linter.unusedSimpArgs false

section
namespace Go.Proofs.YthkdpdpgmhmgoaaGreat
open Go.ChangeShapes Go.WideShapes Go.ChangeAt Go.RowKit Go.Vm Go.Rt
open Go.Proofs (Tryz.prog)
theorem d7g : Rows.dsgChainsRow.wf (OpenSpec.ofChange Rows.dsgChainsSpec) = true := by kernel_rfl
theorem d8g : laidOutB Tryz.prog = true := by kernel_rfl
theorem d9g : mapsRowed Tryz.prog = true := by kernel_rfl
theorem d0h : Tryz.f4.params.all (Tryz.prog.readableRec ·) = true := by kernel_rfl
theorem d1h : namedTie Tryz.prog Rows.dsgChainsRow.named Rows.dsgChainsSpec.vars = true := by kernel_rfl
theorem d2h : (Rows.dsgChainsRow.stops == []) = true := by kernel_rfl
theorem d3h : (Tryz.prog.stops == []) = true := by kernel_rfl
theorem d4h : (Rows.dsgChainsRow.knobs == []) = true := by kernel_rfl
theorem d5h : (Tryz.prog.stopKnobs == []) = true := by kernel_rfl
theorem d6h : (Rows.dsgChainsRow.inPlace == Tryz.prog.inPlace 4) = true := by kernel_rfl
theorem d7h : (Rows.dsgChainsRow.unfollowed == Tryz.prog.unfollowed 4) = true := by kernel_rfl
theorem d8h : (Rows.dsgChainsRow.recurses == Tryz.prog.recurses 4) = true := by kernel_rfl
theorem d9h : (Rows.dsgChainsRow.named == Tryz.prog.varsNamed 4) = true := by kernel_rfl
theorem d0i : (Rows.dsgChainsRow.maps == (Tryz.f4.params.toList ++ Rows.dsgChainsSpec.plain.varTypes Tryz.prog).any (Tryz.prog.mapsRec ·)) = true := by kernel_rfl
theorem d1i : (Rows.dsgChainsRow.ifaces == (Tryz.f4.params.toList ++ Rows.dsgChainsSpec.plain.varTypes Tryz.prog).any (Tryz.prog.ifacesRec ·)) = true := by kernel_rfl
theorem d2i : (Rows.dsgChainsRow.mapsOut == Tryz.prog.mapsAmong Tryz.f4.resultTypes.toList) = true := by kernel_rfl
theorem d3i : (Rows.dsgChainsRow.loops == (Tryz.f4.params.toList ++ Rows.dsgChainsSpec.plain.varTypes Tryz.prog).any (Tryz.prog.loopsFrom ·)) = true := by kernel_rfl
theorem d4i : (Rows.dsgChainsRow.wideKeys == (Tryz.f4.params.toList ++ Rows.dsgChainsSpec.plain.varTypes Tryz.prog ++ Tryz.f4.resultTypes.toList).any (Tryz.prog.wideKeysFrom ·)) = true := by kernel_rfl
theorem d5i : Rows.dsgChainsSpec.vars.all (Tryz.prog.varReadable ·) = true := by kernel_rfl
theorem d6i : Tryz.f4.resultTypes.all (fun t => Tryz.prog.readableRec t && decide (t < Tryz.prog.types.size)) = true := by kernel_rfl
theorem d7i : (Rows.dsgChainsRow.ifacesOut == Tryz.f4.resultTypes.toList.any (Tryz.prog.ifacesRec ·)) = true := by kernel_rfl
theorem d8i : (Rows.dsgChainsRow.loopsOut == Tryz.f4.resultTypes.toList.any (Tryz.prog.loopsFrom ·)) = true := by kernel_rfl
theorem d9i : (Rows.dsgChainsRow.plainKeys == Tryz.prog.plainKeys) = true := by kernel_rfl
theorem d0j : Rows.dsgChainsRow.shortTexts.isNone = true := by kernel_rfl
theorem d1j : Tryz.prog.stopsHeard = true := by kernel_rfl
theorem d2j : Tryz.prog.mayEnter = true := by kernel_rfl
theorem d3j : (Rows.dsgChainsRow.lifted == Tryz.prog.liftsFinal) = true := by kernel_rfl
theorem d4j : (Tryz.prog.make == some Rows.dsgChainsRow.make) = true := by kernel_rfl
theorem d5j : (Rows.dsgChainsRow.pinned == Rows.dsgChainsRow.pinnedBy) = true := by kernel_rfl
theorem d6j : (Rows.dsgChainsRow.veiled == (Tryz.f4.params.toList ++ Rows.dsgChainsSpec.plain.varTypes Tryz.prog ++ Tryz.f4.resultTypes.toList).any (Tryz.prog.veiledRec ·)) = true := by kernel_rfl
theorem d7j : Rows.dsgChainsRow.veiledFits Tryz.prog Tryz.f4.params.toList (Tryz.f4.params.toList ++ Rows.dsgChainsSpec.plain.varTypes Tryz.prog ++ Tryz.f4.resultTypes.toList) = true := by kernel_rfl
theorem d8j : Tryz.prog.funcNamed Rows.dsgChainsRow.func = some 4 := by kernel_rfl
theorem d9j : Tryz.f4.isInstance Tryz.prog Rows.dsgChainsRow.origin Rows.dsgChainsRow.targs := of_decide_eq_true (by kernel_rfl)
theorem d0k : Tryz.f4.isWrapper Tryz.prog Rows.dsgChainsRow.wrapper Rows.dsgChainsRow.mainSum := by unfold Func.isWrapper; first | (rw [if_pos (by decide +kernel)]; kernel_rfl) | (rw [if_neg (by decide +kernel)]; exact ⟨rfl, rfl⟩)
theorem d1k : joinedFacts Tryz.prog 4 Tryz.f4 Rows.dsgChainsSpec Rows.dsgChainsRow = true := by
 unfold joinedFacts
 rw [d7g, d8g, d9g, d0h, d1h, d2h, d3h, d4h, d5h, d6h, d7h, d8h, d9h, d0i, d1i, d2i, d3i, d4i, d5i, d6i, d7i, d8i, d9i, d0j, d1j, d2j, d3j, d4j]
 simp only [Bool.true_and, Bool.and_eq_true]
 exact ⟨⟨⟨by kernel_rfl, d5j⟩, d6j⟩, d7j⟩
end Go.Proofs.YthkdpdpgmhmgoaaGreat
end
