/- Contracts of functions of the program, and what they lean on. Conditions: those of each theorem. -/
import Derived.Test.YthkdpdpgmhmgoaaGreatSpUF

set_option linter.unusedVariables false
set_option linter.unusedSimpArgs false
set_option maxHeartbeats 64000000
set_option maxRecDepth 100000

section
namespace Go.Proofs.YthkdpdpgmhmgoaaGreat
open Go.ChangeShapes Go.WideShapes Go.ChangeAt Go.RowKit Go.Vm Go.Rt
open Go.Proofs (Tryz.prog)
theorem b1I:Rows.phenomWitnessRow.wf (OpenSpec.ofChange Rows.phenomWitnessSpec)=true:=by kernel_rfl
theorem b2I:laidOutB Tryz.prog=true:=by kernel_rfl
theorem b3I:mapsRowed Tryz.prog=true:=by kernel_rfl
theorem b4I:Tryz.f8.params.all (Tryz.prog.readableRec ·)=true:=by kernel_rfl
theorem b5I:namedTie Tryz.prog Rows.phenomWitnessRow.named Rows.phenomWitnessSpec.vars=true:=by kernel_rfl
theorem b6I:(Rows.phenomWitnessRow.stops==[])=true:=by kernel_rfl
theorem b7I:(Tryz.prog.stops==[])=true:=by kernel_rfl
theorem b8I:(Rows.phenomWitnessRow.knobs==[])=true:=by kernel_rfl
theorem b9I:(Tryz.prog.stopKnobs==[])=true:=by kernel_rfl
theorem b0J:(Rows.phenomWitnessRow.inPlace==Tryz.prog.inPlace 8)=true:=by kernel_rfl
theorem b1J:(Rows.phenomWitnessRow.unfollowed==Tryz.prog.unfollowed 8)=true:=by kernel_rfl
theorem b2J:(Rows.phenomWitnessRow.recurses==Tryz.prog.recurses 8)=true:=by kernel_rfl
theorem b3J:(Rows.phenomWitnessRow.named==Tryz.prog.varsNamed 8)=true:=by kernel_rfl
theorem b4J:(Rows.phenomWitnessRow.maps==(Tryz.f8.params.toList++Rows.phenomWitnessSpec.plain.varTypes Tryz.prog).any (Tryz.prog.mapsRec ·))=true:=by kernel_rfl
theorem b5J:(Rows.phenomWitnessRow.ifaces==(Tryz.f8.params.toList++Rows.phenomWitnessSpec.plain.varTypes Tryz.prog).any (Tryz.prog.ifacesRec ·))=true:=by kernel_rfl
theorem b6J:(Rows.phenomWitnessRow.mapsOut==Tryz.prog.mapsAmong Tryz.f8.resultTypes.toList)=true:=by kernel_rfl
theorem b7J:(Rows.phenomWitnessRow.loops==(Tryz.f8.params.toList++Rows.phenomWitnessSpec.plain.varTypes Tryz.prog).any (Tryz.prog.loopsFrom ·))=true:=by kernel_rfl
theorem b8J:(Rows.phenomWitnessRow.wideKeys==(Tryz.f8.params.toList++Rows.phenomWitnessSpec.plain.varTypes Tryz.prog++Tryz.f8.resultTypes.toList).any (Tryz.prog.wideKeysFrom ·))=true:=by kernel_rfl
theorem b9J:Rows.phenomWitnessSpec.vars.all (Tryz.prog.varReadable ·)=true:=by kernel_rfl
theorem b0K:Tryz.f8.resultTypes.all (fun t=>Tryz.prog.readableRec t&&decide (t<Tryz.prog.types.size))=true:=by kernel_rfl
theorem b1K:(Rows.phenomWitnessRow.ifacesOut==Tryz.f8.resultTypes.toList.any (Tryz.prog.ifacesRec ·))=true:=by kernel_rfl
theorem b2K:(Rows.phenomWitnessRow.loopsOut==Tryz.f8.resultTypes.toList.any (Tryz.prog.loopsFrom ·))=true:=by kernel_rfl
theorem b3K:(Rows.phenomWitnessRow.plainKeys==Tryz.prog.plainKeys)=true:=by kernel_rfl
theorem b4K:Rows.phenomWitnessRow.shortTexts.isNone=true:=by kernel_rfl
theorem b5K:Tryz.prog.stopsHeard=true:=by kernel_rfl
theorem b6K:Tryz.prog.mayEnter=true:=by kernel_rfl
theorem b7K:(Rows.phenomWitnessRow.lifted==Tryz.prog.liftsFinal)=true:=by kernel_rfl
theorem b8K:(Tryz.prog.make==some Rows.phenomWitnessRow.make)=true:=by kernel_rfl
theorem b9K:(Rows.phenomWitnessRow.pinned==Rows.phenomWitnessRow.pinnedBy)=true:=by kernel_rfl
theorem b0L:(Rows.phenomWitnessRow.veiled==(Tryz.f8.params.toList++Rows.phenomWitnessSpec.plain.varTypes Tryz.prog++Tryz.f8.resultTypes.toList).any (Tryz.prog.veiledRec ·))=true:=by kernel_rfl
theorem b1L:Rows.phenomWitnessRow.veiledFits Tryz.prog Tryz.f8.params.toList (Tryz.f8.params.toList++Rows.phenomWitnessSpec.plain.varTypes Tryz.prog++Tryz.f8.resultTypes.toList)=true:=by kernel_rfl
theorem b2L:Tryz.prog.funcNamed Rows.phenomWitnessRow.func=some 8:=by kernel_rfl
theorem b3L:Tryz.f8.isInstance Tryz.prog Rows.phenomWitnessRow.origin Rows.phenomWitnessRow.targs:=of_decide_eq_true (by kernel_rfl)
theorem b4L:Tryz.f8.isWrapper Tryz.prog Rows.phenomWitnessRow.wrapper Rows.phenomWitnessRow.mainSum:=by unfold Func.isWrapper;first|(rw[if_pos (by decide+kernel)];kernel_rfl)|(rw[if_neg (by decide+kernel)];exact⟨rfl,rfl⟩)
theorem b5L:joinedFacts Tryz.prog 8 Tryz.f8 Rows.phenomWitnessSpec Rows.phenomWitnessRow=true:=by
 unfold joinedFacts;rw[b1I,b2I,b3I,b4I,b5I,b6I,b7I,b8I,b9I,b0J,b1J,b2J,b3J,b4J,b5J,b6J,b7J,b8J,b9J,b0K,b1K,b2K,b3K,b4K,b5K,b6K,b7K,b8K];simp only[Bool.true_and,Bool.and_eq_true];exact⟨⟨⟨by kernel_rfl,b9K⟩,b0L⟩,b1L⟩
end Go.Proofs.YthkdpdpgmhmgoaaGreat
end
