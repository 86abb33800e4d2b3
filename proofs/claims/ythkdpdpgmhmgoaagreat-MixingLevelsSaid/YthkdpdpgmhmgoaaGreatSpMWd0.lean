/- Contracts of functions of the program, and what they lean on. Conditions: those of each theorem. -/
import Derived.Test.YthkdpdpgmhmgoaaGreatSpMF

set_option linter.unusedVariables false
set_option linter.unusedSimpArgs false
set_option maxHeartbeats 64000000
set_option maxRecDepth 100000

section
namespace Go.Proofs.YthkdpdpgmhmgoaaGreat
open Go.ChangeShapes Go.WideShapes Go.ChangeAt Go.RowKit Go.Vm Go.Rt
open Go.Proofs (Tryz.prog)
theorem e0g:Rows.mixingLevelsRow.wf (OpenSpec.ofChange Rows.mixingLevelsSpec)=true:=by kernel_rfl
theorem e1g:laidOutB Tryz.prog=true:=by kernel_rfl
theorem e2g:mapsRowed Tryz.prog=true:=by kernel_rfl
theorem e3g:Tryz.f17.params.all (Tryz.prog.readableRec ·)=true:=by kernel_rfl
theorem e4g:namedTie Tryz.prog Rows.mixingLevelsRow.named Rows.mixingLevelsSpec.vars=true:=by kernel_rfl
theorem e5g:(Rows.mixingLevelsRow.stops==[])=true:=by kernel_rfl
theorem e6g:(Tryz.prog.stops==[])=true:=by kernel_rfl
theorem e7g:(Rows.mixingLevelsRow.knobs==[])=true:=by kernel_rfl
theorem e8g:(Tryz.prog.stopKnobs==[])=true:=by kernel_rfl
theorem e9g:(Rows.mixingLevelsRow.inPlace==Tryz.prog.inPlace 17)=true:=by kernel_rfl
theorem e0h:(Rows.mixingLevelsRow.unfollowed==Tryz.prog.unfollowed 17)=true:=by kernel_rfl
theorem e1h:(Rows.mixingLevelsRow.recurses==Tryz.prog.recurses 17)=true:=by kernel_rfl
theorem e2h:(Rows.mixingLevelsRow.named==Tryz.prog.varsNamed 17)=true:=by kernel_rfl
theorem e3h:(Rows.mixingLevelsRow.maps==(Tryz.f17.params.toList++Rows.mixingLevelsSpec.plain.varTypes Tryz.prog).any (Tryz.prog.mapsRec ·))=true:=by kernel_rfl
theorem e4h:(Rows.mixingLevelsRow.ifaces==(Tryz.f17.params.toList++Rows.mixingLevelsSpec.plain.varTypes Tryz.prog).any (Tryz.prog.ifacesRec ·))=true:=by kernel_rfl
theorem e5h:(Rows.mixingLevelsRow.mapsOut==Tryz.prog.mapsAmong Tryz.f17.resultTypes.toList)=true:=by kernel_rfl
theorem e6h:(Rows.mixingLevelsRow.loops==(Tryz.f17.params.toList++Rows.mixingLevelsSpec.plain.varTypes Tryz.prog).any (Tryz.prog.loopsFrom ·))=true:=by kernel_rfl
theorem e7h:(Rows.mixingLevelsRow.wideKeys==(Tryz.f17.params.toList++Rows.mixingLevelsSpec.plain.varTypes Tryz.prog++Tryz.f17.resultTypes.toList).any (Tryz.prog.wideKeysFrom ·))=true:=by kernel_rfl
theorem e8h:Rows.mixingLevelsSpec.vars.all (Tryz.prog.varReadable ·)=true:=by kernel_rfl
theorem e9h:Tryz.f17.resultTypes.all (fun t=>Tryz.prog.readableRec t&&decide (t<Tryz.prog.types.size))=true:=by kernel_rfl
theorem e0i:(Rows.mixingLevelsRow.ifacesOut==Tryz.f17.resultTypes.toList.any (Tryz.prog.ifacesRec ·))=true:=by kernel_rfl
theorem e1i:(Rows.mixingLevelsRow.loopsOut==Tryz.f17.resultTypes.toList.any (Tryz.prog.loopsFrom ·))=true:=by kernel_rfl
theorem e2i:(Rows.mixingLevelsRow.plainKeys==Tryz.prog.plainKeys)=true:=by kernel_rfl
theorem e3i:Rows.mixingLevelsRow.shortTexts.isNone=true:=by kernel_rfl
theorem e4i:Tryz.prog.stopsHeard=true:=by kernel_rfl
theorem e5i:Tryz.prog.mayEnter=true:=by kernel_rfl
theorem e6i:(Rows.mixingLevelsRow.lifted==Tryz.prog.liftsFinal)=true:=by kernel_rfl
theorem e7i:(Tryz.prog.make==some Rows.mixingLevelsRow.make)=true:=by kernel_rfl
theorem e8i:(Rows.mixingLevelsRow.pinned==Rows.mixingLevelsRow.pinnedBy)=true:=by kernel_rfl
theorem e9i:(Rows.mixingLevelsRow.veiled==(Tryz.f17.params.toList++Rows.mixingLevelsSpec.plain.varTypes Tryz.prog++Tryz.f17.resultTypes.toList).any (Tryz.prog.veiledRec ·))=true:=by kernel_rfl
theorem e0j:Rows.mixingLevelsRow.veiledFits Tryz.prog Tryz.f17.params.toList (Tryz.f17.params.toList++Rows.mixingLevelsSpec.plain.varTypes Tryz.prog++Tryz.f17.resultTypes.toList)=true:=by kernel_rfl
theorem e1j:Tryz.prog.funcNamed Rows.mixingLevelsRow.func=some 17:=by kernel_rfl
theorem e2j:Tryz.f17.isInstance Tryz.prog Rows.mixingLevelsRow.origin Rows.mixingLevelsRow.targs:=of_decide_eq_true (by kernel_rfl)
theorem e3j:Tryz.f17.isWrapper Tryz.prog Rows.mixingLevelsRow.wrapper Rows.mixingLevelsRow.mainSum:=by unfold Func.isWrapper;first|(rw[if_pos (by decide+kernel)];kernel_rfl)|(rw[if_neg (by decide+kernel)];exact⟨rfl,rfl⟩)
theorem e4j:joinedFacts Tryz.prog 17 Tryz.f17 Rows.mixingLevelsSpec Rows.mixingLevelsRow=true:=by
 unfold joinedFacts;rw[e0g,e1g,e2g,e3g,e4g,e5g,e6g,e7g,e8g,e9g,e0h,e1h,e2h,e3h,e4h,e5h,e6h,e7h,e8h,e9h,e0i,e1i,e2i,e3i,e4i,e5i,e6i,e7i];simp only[Bool.true_and,Bool.and_eq_true];exact⟨⟨⟨by kernel_rfl,e8i⟩,e9i⟩,e0j⟩
end Go.Proofs.YthkdpdpgmhmgoaaGreat
end
