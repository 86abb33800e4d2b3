/- Contracts of functions of the program, and what they lean on. Conditions: those of each theorem. -/
import Derived.Test.YthkdpdpgmhmgoaaGreatSpUF

set_option linter.unusedVariables false
set_option linter.unusedSimpArgs false
set_option maxHeartbeats 64000000
set_option maxRecDepth 100000

section
namespace Go.Proofs.YthkdpdpgmhmgoaaGreat
open Go.ChangeShapes Go.WideShapes Go.ChangeAt Go.RowKit Go.Vm Go.Rt
open Go.Proofs (Tryz.prog)
theorem b0W:Rows.phenomLevelsRow.wf (OpenSpec.ofChange Rows.phenomLevelsSpec)=true:=by kernel_rfl
theorem b1W:laidOutB Tryz.prog=true:=by kernel_rfl
theorem b2W:mapsRowed Tryz.prog=true:=by kernel_rfl
theorem b3W:Tryz.f12.params.all (Tryz.prog.readableRec ·)=true:=by kernel_rfl
theorem b4W:namedTie Tryz.prog Rows.phenomLevelsRow.named Rows.phenomLevelsSpec.vars=true:=by kernel_rfl
theorem b5W:(Rows.phenomLevelsRow.stops==[])=true:=by kernel_rfl
theorem b6W:(Tryz.prog.stops==[])=true:=by kernel_rfl
theorem b7W:(Rows.phenomLevelsRow.knobs==[])=true:=by kernel_rfl
theorem b8W:(Tryz.prog.stopKnobs==[])=true:=by kernel_rfl
theorem b9W:(Rows.phenomLevelsRow.inPlace==Tryz.prog.inPlace 12)=true:=by kernel_rfl
theorem b0X:(Rows.phenomLevelsRow.unfollowed==Tryz.prog.unfollowed 12)=true:=by kernel_rfl
theorem b1X:(Rows.phenomLevelsRow.recurses==Tryz.prog.recurses 12)=true:=by kernel_rfl
theorem b2X:(Rows.phenomLevelsRow.named==Tryz.prog.varsNamed 12)=true:=by kernel_rfl
theorem b3X:(Rows.phenomLevelsRow.maps==(Tryz.f12.params.toList++Rows.phenomLevelsSpec.plain.varTypes Tryz.prog).any (Tryz.prog.mapsRec ·))=true:=by kernel_rfl
theorem b4X:(Rows.phenomLevelsRow.ifaces==(Tryz.f12.params.toList++Rows.phenomLevelsSpec.plain.varTypes Tryz.prog).any (Tryz.prog.ifacesRec ·))=true:=by kernel_rfl
theorem b5X:(Rows.phenomLevelsRow.mapsOut==Tryz.prog.mapsAmong Tryz.f12.resultTypes.toList)=true:=by kernel_rfl
theorem b6X:(Rows.phenomLevelsRow.loops==(Tryz.f12.params.toList++Rows.phenomLevelsSpec.plain.varTypes Tryz.prog).any (Tryz.prog.loopsFrom ·))=true:=by kernel_rfl
theorem b7X:(Rows.phenomLevelsRow.wideKeys==(Tryz.f12.params.toList++Rows.phenomLevelsSpec.plain.varTypes Tryz.prog++Tryz.f12.resultTypes.toList).any (Tryz.prog.wideKeysFrom ·))=true:=by kernel_rfl
theorem b8X:Rows.phenomLevelsSpec.vars.all (Tryz.prog.varReadable ·)=true:=by kernel_rfl
theorem b9X:Tryz.f12.resultTypes.all (fun t=>Tryz.prog.readableRec t&&decide (t<Tryz.prog.types.size))=true:=by kernel_rfl
theorem b0Y:(Rows.phenomLevelsRow.ifacesOut==Tryz.f12.resultTypes.toList.any (Tryz.prog.ifacesRec ·))=true:=by kernel_rfl
theorem b1Y:(Rows.phenomLevelsRow.loopsOut==Tryz.f12.resultTypes.toList.any (Tryz.prog.loopsFrom ·))=true:=by kernel_rfl
theorem b2Y:(Rows.phenomLevelsRow.plainKeys==Tryz.prog.plainKeys)=true:=by kernel_rfl
theorem b3Y:Rows.phenomLevelsRow.shortTexts.isNone=true:=by kernel_rfl
theorem b4Y:Tryz.prog.stopsHeard=true:=by kernel_rfl
theorem b5Y:Tryz.prog.mayEnter=true:=by kernel_rfl
theorem b6Y:(Rows.phenomLevelsRow.lifted==Tryz.prog.liftsFinal)=true:=by kernel_rfl
theorem b7Y:(Tryz.prog.make==some Rows.phenomLevelsRow.make)=true:=by kernel_rfl
theorem b8Y:(Rows.phenomLevelsRow.pinned==Rows.phenomLevelsRow.pinnedBy)=true:=by kernel_rfl
theorem b9Y:(Rows.phenomLevelsRow.veiled==(Tryz.f12.params.toList++Rows.phenomLevelsSpec.plain.varTypes Tryz.prog++Tryz.f12.resultTypes.toList).any (Tryz.prog.veiledRec ·))=true:=by kernel_rfl
theorem b0Z:Rows.phenomLevelsRow.veiledFits Tryz.prog Tryz.f12.params.toList (Tryz.f12.params.toList++Rows.phenomLevelsSpec.plain.varTypes Tryz.prog++Tryz.f12.resultTypes.toList)=true:=by kernel_rfl
theorem b1Z:Tryz.prog.funcNamed Rows.phenomLevelsRow.func=some 12:=by kernel_rfl
theorem b2Z:Tryz.f12.isInstance Tryz.prog Rows.phenomLevelsRow.origin Rows.phenomLevelsRow.targs:=of_decide_eq_true (by kernel_rfl)
theorem b3Z:Tryz.f12.isWrapper Tryz.prog Rows.phenomLevelsRow.wrapper Rows.phenomLevelsRow.mainSum:=by unfold Func.isWrapper;first|(rw[if_pos (by decide+kernel)];kernel_rfl)|(rw[if_neg (by decide+kernel)];exact⟨rfl,rfl⟩)
theorem b4Z:joinedFacts Tryz.prog 12 Tryz.f12 Rows.phenomLevelsSpec Rows.phenomLevelsRow=true:=by
 unfold joinedFacts;rw[b0W,b1W,b2W,b3W,b4W,b5W,b6W,b7W,b8W,b9W,b0X,b1X,b2X,b3X,b4X,b5X,b6X,b7X,b8X,b9X,b0Y,b1Y,b2Y,b3Y,b4Y,b5Y,b6Y,b7Y];simp only[Bool.true_and,Bool.and_eq_true];exact⟨⟨⟨by kernel_rfl,b8Y⟩,b9Y⟩,b0Z⟩
end Go.Proofs.YthkdpdpgmhmgoaaGreat
end
