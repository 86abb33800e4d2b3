/- Contracts of functions of the program, and what they lean on. Conditions: those of each theorem. -/
import Derived.Test.YthkdpdpgmhmgoaaGreatSpMF

set_option linter.unusedVariables false
set_option linter.unusedSimpArgs false
set_option maxHeartbeats 64000000
set_option maxRecDepth 100000

section
namespace Go.Proofs.YthkdpdpgmhmgoaaGreat
open Go.ChangeShapes Go.WideShapes Go.ChangeAt Go.RowKit Go.Vm Go.Rt
open Go.Proofs (Tryz.prog)
theorem b7T:Rows.mixingLowersRow.wf (OpenSpec.ofChange Rows.mixingLowersSpec)=true:=by kernel_rfl
theorem b8T:laidOutB Tryz.prog=true:=by kernel_rfl
theorem b9T:mapsRowed Tryz.prog=true:=by kernel_rfl
theorem b0U:Tryz.f15.params.all (Tryz.prog.readableRec ·)=true:=by kernel_rfl
theorem b1U:namedTie Tryz.prog Rows.mixingLowersRow.named Rows.mixingLowersSpec.vars=true:=by kernel_rfl
theorem b2U:(Rows.mixingLowersRow.stops==[])=true:=by kernel_rfl
theorem b3U:(Tryz.prog.stops==[])=true:=by kernel_rfl
theorem b4U:(Rows.mixingLowersRow.knobs==[])=true:=by kernel_rfl
theorem b5U:(Tryz.prog.stopKnobs==[])=true:=by kernel_rfl
theorem b6U:(Rows.mixingLowersRow.inPlace==Tryz.prog.inPlace 15)=true:=by kernel_rfl
theorem b7U:(Rows.mixingLowersRow.unfollowed==Tryz.prog.unfollowed 15)=true:=by kernel_rfl
theorem b8U:(Rows.mixingLowersRow.recurses==Tryz.prog.recurses 15)=true:=by kernel_rfl
theorem b9U:(Rows.mixingLowersRow.named==Tryz.prog.varsNamed 15)=true:=by kernel_rfl
theorem b0V:(Rows.mixingLowersRow.maps==(Tryz.f15.params.toList++Rows.mixingLowersSpec.plain.varTypes Tryz.prog).any (Tryz.prog.mapsRec ·))=true:=by kernel_rfl
theorem b1V:(Rows.mixingLowersRow.ifaces==(Tryz.f15.params.toList++Rows.mixingLowersSpec.plain.varTypes Tryz.prog).any (Tryz.prog.ifacesRec ·))=true:=by kernel_rfl
theorem b2V:(Rows.mixingLowersRow.mapsOut==Tryz.prog.mapsAmong Tryz.f15.resultTypes.toList)=true:=by kernel_rfl
theorem b3V:(Rows.mixingLowersRow.loops==(Tryz.f15.params.toList++Rows.mixingLowersSpec.plain.varTypes Tryz.prog).any (Tryz.prog.loopsFrom ·))=true:=by kernel_rfl
theorem b4V:(Rows.mixingLowersRow.wideKeys==(Tryz.f15.params.toList++Rows.mixingLowersSpec.plain.varTypes Tryz.prog++Tryz.f15.resultTypes.toList).any (Tryz.prog.wideKeysFrom ·))=true:=by kernel_rfl
theorem b5V:Rows.mixingLowersSpec.vars.all (Tryz.prog.varReadable ·)=true:=by kernel_rfl
theorem b6V:Tryz.f15.resultTypes.all (fun t=>Tryz.prog.readableRec t&&decide (t<Tryz.prog.types.size))=true:=by kernel_rfl
theorem b7V:(Rows.mixingLowersRow.ifacesOut==Tryz.f15.resultTypes.toList.any (Tryz.prog.ifacesRec ·))=true:=by kernel_rfl
theorem b8V:(Rows.mixingLowersRow.loopsOut==Tryz.f15.resultTypes.toList.any (Tryz.prog.loopsFrom ·))=true:=by kernel_rfl
theorem b9V:(Rows.mixingLowersRow.plainKeys==Tryz.prog.plainKeys)=true:=by kernel_rfl
theorem b0W:Rows.mixingLowersRow.shortTexts.isNone=true:=by kernel_rfl
theorem b1W:Tryz.prog.stopsHeard=true:=by kernel_rfl
theorem b2W:Tryz.prog.mayEnter=true:=by kernel_rfl
theorem b3W:(Rows.mixingLowersRow.lifted==Tryz.prog.liftsFinal)=true:=by kernel_rfl
theorem b4W:(Tryz.prog.make==some Rows.mixingLowersRow.make)=true:=by kernel_rfl
theorem b5W:(Rows.mixingLowersRow.pinned==Rows.mixingLowersRow.pinnedBy)=true:=by kernel_rfl
theorem b6W:(Rows.mixingLowersRow.veiled==(Tryz.f15.params.toList++Rows.mixingLowersSpec.plain.varTypes Tryz.prog++Tryz.f15.resultTypes.toList).any (Tryz.prog.veiledRec ·))=true:=by kernel_rfl
theorem b7W:Rows.mixingLowersRow.veiledFits Tryz.prog Tryz.f15.params.toList (Tryz.f15.params.toList++Rows.mixingLowersSpec.plain.varTypes Tryz.prog++Tryz.f15.resultTypes.toList)=true:=by kernel_rfl
theorem b8W:Tryz.prog.funcNamed Rows.mixingLowersRow.func=some 15:=by kernel_rfl
theorem b9W:Tryz.f15.isInstance Tryz.prog Rows.mixingLowersRow.origin Rows.mixingLowersRow.targs:=of_decide_eq_true (by kernel_rfl)
theorem b0X:Tryz.f15.isWrapper Tryz.prog Rows.mixingLowersRow.wrapper Rows.mixingLowersRow.mainSum:=by unfold Func.isWrapper;first|(rw[if_pos (by decide+kernel)];kernel_rfl)|(rw[if_neg (by decide+kernel)];exact⟨rfl,rfl⟩)
theorem b1X:joinedFacts Tryz.prog 15 Tryz.f15 Rows.mixingLowersSpec Rows.mixingLowersRow=true:=by
 unfold joinedFacts;rw[b7T,b8T,b9T,b0U,b1U,b2U,b3U,b4U,b5U,b6U,b7U,b8U,b9U,b0V,b1V,b2V,b3V,b4V,b5V,b6V,b7V,b8V,b9V,b0W,b1W,b2W,b3W,b4W];simp only[Bool.true_and,Bool.and_eq_true];exact⟨⟨⟨by kernel_rfl,b5W⟩,b6W⟩,b7W⟩
end Go.Proofs.YthkdpdpgmhmgoaaGreat
end
