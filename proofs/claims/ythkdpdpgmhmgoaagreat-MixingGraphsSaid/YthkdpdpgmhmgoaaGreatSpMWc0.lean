/- Contracts of functions of the program, and what they lean on. Conditions: those of each theorem. -/
import Derived.Test.YthkdpdpgmhmgoaaGreatSpMF

set_option linter.unusedVariables false
set_option linter.unusedSimpArgs false
set_option maxHeartbeats 64000000
set_option maxRecDepth 100000

section
namespace Go.Proofs.YthkdpdpgmhmgoaaGreat
open Go.ChangeShapes Go.WideShapes Go.ChangeAt Go.RowKit Go.Vm Go.Rt
open Go.Proofs (Tryz.prog)
theorem b9K:Rows.mixingGraphsRow.wf (OpenSpec.ofChange Rows.mixingGraphsSpec)=true:=by kernel_rfl
theorem b0L:laidOutB Tryz.prog=true:=by kernel_rfl
theorem b1L:mapsRowed Tryz.prog=true:=by kernel_rfl
theorem b2L:Tryz.f16.params.all (Tryz.prog.readableRec ·)=true:=by kernel_rfl
theorem b3L:namedTie Tryz.prog Rows.mixingGraphsRow.named Rows.mixingGraphsSpec.vars=true:=by kernel_rfl
theorem b4L:(Rows.mixingGraphsRow.stops==[])=true:=by kernel_rfl
theorem b5L:(Tryz.prog.stops==[])=true:=by kernel_rfl
theorem b6L:(Rows.mixingGraphsRow.knobs==[])=true:=by kernel_rfl
theorem b7L:(Tryz.prog.stopKnobs==[])=true:=by kernel_rfl
theorem b8L:(Rows.mixingGraphsRow.inPlace==Tryz.prog.inPlace 16)=true:=by kernel_rfl
theorem b9L:(Rows.mixingGraphsRow.unfollowed==Tryz.prog.unfollowed 16)=true:=by kernel_rfl
theorem b0M:(Rows.mixingGraphsRow.recurses==Tryz.prog.recurses 16)=true:=by kernel_rfl
theorem b1M:(Rows.mixingGraphsRow.named==Tryz.prog.varsNamed 16)=true:=by kernel_rfl
theorem b2M:(Rows.mixingGraphsRow.maps==(Tryz.f16.params.toList++Rows.mixingGraphsSpec.plain.varTypes Tryz.prog).any (Tryz.prog.mapsRec ·))=true:=by kernel_rfl
theorem b3M:(Rows.mixingGraphsRow.ifaces==(Tryz.f16.params.toList++Rows.mixingGraphsSpec.plain.varTypes Tryz.prog).any (Tryz.prog.ifacesRec ·))=true:=by kernel_rfl
theorem b4M:(Rows.mixingGraphsRow.mapsOut==Tryz.prog.mapsAmong Tryz.f16.resultTypes.toList)=true:=by kernel_rfl
theorem b5M:(Rows.mixingGraphsRow.loops==(Tryz.f16.params.toList++Rows.mixingGraphsSpec.plain.varTypes Tryz.prog).any (Tryz.prog.loopsFrom ·))=true:=by kernel_rfl
theorem b6M:(Rows.mixingGraphsRow.wideKeys==(Tryz.f16.params.toList++Rows.mixingGraphsSpec.plain.varTypes Tryz.prog++Tryz.f16.resultTypes.toList).any (Tryz.prog.wideKeysFrom ·))=true:=by kernel_rfl
theorem b7M:Rows.mixingGraphsSpec.vars.all (Tryz.prog.varReadable ·)=true:=by kernel_rfl
theorem b8M:Tryz.f16.resultTypes.all (fun t=>Tryz.prog.readableRec t&&decide (t<Tryz.prog.types.size))=true:=by kernel_rfl
theorem b9M:(Rows.mixingGraphsRow.ifacesOut==Tryz.f16.resultTypes.toList.any (Tryz.prog.ifacesRec ·))=true:=by kernel_rfl
theorem b0N:(Rows.mixingGraphsRow.loopsOut==Tryz.f16.resultTypes.toList.any (Tryz.prog.loopsFrom ·))=true:=by kernel_rfl
theorem b1N:(Rows.mixingGraphsRow.plainKeys==Tryz.prog.plainKeys)=true:=by kernel_rfl
theorem b2N:Rows.mixingGraphsRow.shortTexts.isNone=true:=by kernel_rfl
theorem b3N:Tryz.prog.stopsHeard=true:=by kernel_rfl
theorem b4N:Tryz.prog.mayEnter=true:=by kernel_rfl
theorem b5N:(Rows.mixingGraphsRow.lifted==Tryz.prog.liftsFinal)=true:=by kernel_rfl
theorem b6N:(Tryz.prog.make==some Rows.mixingGraphsRow.make)=true:=by kernel_rfl
theorem b7N:(Rows.mixingGraphsRow.pinned==Rows.mixingGraphsRow.pinnedBy)=true:=by kernel_rfl
theorem b8N:(Rows.mixingGraphsRow.veiled==(Tryz.f16.params.toList++Rows.mixingGraphsSpec.plain.varTypes Tryz.prog++Tryz.f16.resultTypes.toList).any (Tryz.prog.veiledRec ·))=true:=by kernel_rfl
theorem b9N:Rows.mixingGraphsRow.veiledFits Tryz.prog Tryz.f16.params.toList (Tryz.f16.params.toList++Rows.mixingGraphsSpec.plain.varTypes Tryz.prog++Tryz.f16.resultTypes.toList)=true:=by kernel_rfl
theorem b0O:Tryz.prog.funcNamed Rows.mixingGraphsRow.func=some 16:=by kernel_rfl
theorem b1O:Tryz.f16.isInstance Tryz.prog Rows.mixingGraphsRow.origin Rows.mixingGraphsRow.targs:=of_decide_eq_true (by kernel_rfl)
theorem b2O:Tryz.f16.isWrapper Tryz.prog Rows.mixingGraphsRow.wrapper Rows.mixingGraphsRow.mainSum:=by unfold Func.isWrapper;first|(rw[if_pos (by decide+kernel)];kernel_rfl)|(rw[if_neg (by decide+kernel)];exact⟨rfl,rfl⟩)
theorem b3O:joinedFacts Tryz.prog 16 Tryz.f16 Rows.mixingGraphsSpec Rows.mixingGraphsRow=true:=by
 unfold joinedFacts;rw[b9K,b0L,b1L,b2L,b3L,b4L,b5L,b6L,b7L,b8L,b9L,b0M,b1M,b2M,b3M,b4M,b5M,b6M,b7M,b8M,b9M,b0N,b1N,b2N,b3N,b4N,b5N,b6N];simp only[Bool.true_and,Bool.and_eq_true];exact⟨⟨⟨by kernel_rfl,b7N⟩,b8N⟩,b9N⟩
end Go.Proofs.YthkdpdpgmhmgoaaGreat
end
