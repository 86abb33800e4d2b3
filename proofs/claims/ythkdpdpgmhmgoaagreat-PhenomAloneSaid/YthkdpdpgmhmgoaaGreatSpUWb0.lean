/- Contracts of functions of the program, and what they lean on. Conditions: those of each theorem. -/
import Derived.Test.YthkdpdpgmhmgoaaGreatSpUF

set_option linter.unusedVariables false
set_option linter.unusedSimpArgs false
set_option maxHeartbeats 64000000
set_option maxRecDepth 100000

section
namespace Go.Proofs.YthkdpdpgmhmgoaaGreat
open Go.ChangeShapes Go.WideShapes Go.ChangeAt Go.RowKit Go.Vm Go.Rt
open Go.Proofs (Tryz.prog)
theorem c6d:Rows.phenomAloneRow.wf (OpenSpec.ofChange Rows.phenomAloneSpec)=true:=by kernel_rfl
theorem c7d:laidOutB Tryz.prog=true:=by kernel_rfl
theorem c8d:mapsRowed Tryz.prog=true:=by kernel_rfl
theorem c9d:Tryz.f10.params.all (Tryz.prog.readableRec ·)=true:=by kernel_rfl
theorem c0e:namedTie Tryz.prog Rows.phenomAloneRow.named Rows.phenomAloneSpec.vars=true:=by kernel_rfl
theorem c1e:(Rows.phenomAloneRow.stops==[])=true:=by kernel_rfl
theorem c2e:(Tryz.prog.stops==[])=true:=by kernel_rfl
theorem c3e:(Rows.phenomAloneRow.knobs==[])=true:=by kernel_rfl
theorem c4e:(Tryz.prog.stopKnobs==[])=true:=by kernel_rfl
theorem c5e:(Rows.phenomAloneRow.inPlace==Tryz.prog.inPlace 10)=true:=by kernel_rfl
theorem c6e:(Rows.phenomAloneRow.unfollowed==Tryz.prog.unfollowed 10)=true:=by kernel_rfl
theorem c7e:(Rows.phenomAloneRow.recurses==Tryz.prog.recurses 10)=true:=by kernel_rfl
theorem c8e:(Rows.phenomAloneRow.named==Tryz.prog.varsNamed 10)=true:=by kernel_rfl
theorem c9e:(Rows.phenomAloneRow.maps==(Tryz.f10.params.toList++Rows.phenomAloneSpec.plain.varTypes Tryz.prog).any (Tryz.prog.mapsRec ·))=true:=by kernel_rfl
theorem c0f:(Rows.phenomAloneRow.ifaces==(Tryz.f10.params.toList++Rows.phenomAloneSpec.plain.varTypes Tryz.prog).any (Tryz.prog.ifacesRec ·))=true:=by kernel_rfl
theorem c1f:(Rows.phenomAloneRow.mapsOut==Tryz.prog.mapsAmong Tryz.f10.resultTypes.toList)=true:=by kernel_rfl
theorem c2f:(Rows.phenomAloneRow.loops==(Tryz.f10.params.toList++Rows.phenomAloneSpec.plain.varTypes Tryz.prog).any (Tryz.prog.loopsFrom ·))=true:=by kernel_rfl
theorem c3f:(Rows.phenomAloneRow.wideKeys==(Tryz.f10.params.toList++Rows.phenomAloneSpec.plain.varTypes Tryz.prog++Tryz.f10.resultTypes.toList).any (Tryz.prog.wideKeysFrom ·))=true:=by kernel_rfl
theorem c4f:Rows.phenomAloneSpec.vars.all (Tryz.prog.varReadable ·)=true:=by kernel_rfl
theorem c5f:Tryz.f10.resultTypes.all (fun t=>Tryz.prog.readableRec t&&decide (t<Tryz.prog.types.size))=true:=by kernel_rfl
theorem c6f:(Rows.phenomAloneRow.ifacesOut==Tryz.f10.resultTypes.toList.any (Tryz.prog.ifacesRec ·))=true:=by kernel_rfl
theorem c7f:(Rows.phenomAloneRow.loopsOut==Tryz.f10.resultTypes.toList.any (Tryz.prog.loopsFrom ·))=true:=by kernel_rfl
theorem c8f:(Rows.phenomAloneRow.plainKeys==Tryz.prog.plainKeys)=true:=by kernel_rfl
theorem c9f:Rows.phenomAloneRow.shortTexts.isNone=true:=by kernel_rfl
theorem c0g:Tryz.prog.stopsHeard=true:=by kernel_rfl
theorem c1g:Tryz.prog.mayEnter=true:=by kernel_rfl
theorem c2g:(Rows.phenomAloneRow.lifted==Tryz.prog.liftsFinal)=true:=by kernel_rfl
theorem c3g:(Tryz.prog.make==some Rows.phenomAloneRow.make)=true:=by kernel_rfl
theorem c4g:(Rows.phenomAloneRow.pinned==Rows.phenomAloneRow.pinnedBy)=true:=by kernel_rfl
theorem c5g:(Rows.phenomAloneRow.veiled==(Tryz.f10.params.toList++Rows.phenomAloneSpec.plain.varTypes Tryz.prog++Tryz.f10.resultTypes.toList).any (Tryz.prog.veiledRec ·))=true:=by kernel_rfl
theorem c6g:Rows.phenomAloneRow.veiledFits Tryz.prog Tryz.f10.params.toList (Tryz.f10.params.toList++Rows.phenomAloneSpec.plain.varTypes Tryz.prog++Tryz.f10.resultTypes.toList)=true:=by kernel_rfl
theorem c7g:Tryz.prog.funcNamed Rows.phenomAloneRow.func=some 10:=by kernel_rfl
theorem c8g:Tryz.f10.isInstance Tryz.prog Rows.phenomAloneRow.origin Rows.phenomAloneRow.targs:=of_decide_eq_true (by kernel_rfl)
theorem c9g:Tryz.f10.isWrapper Tryz.prog Rows.phenomAloneRow.wrapper Rows.phenomAloneRow.mainSum:=by unfold Func.isWrapper;first|(rw[if_pos (by decide+kernel)];kernel_rfl)|(rw[if_neg (by decide+kernel)];exact⟨rfl,rfl⟩)
theorem c0h:joinedFacts Tryz.prog 10 Tryz.f10 Rows.phenomAloneSpec Rows.phenomAloneRow=true:=by
 unfold joinedFacts;rw[c6d,c7d,c8d,c9d,c0e,c1e,c2e,c3e,c4e,c5e,c6e,c7e,c8e,c9e,c0f,c1f,c2f,c3f,c4f,c5f,c6f,c7f,c8f,c9f,c0g,c1g,c2g,c3g];simp only[Bool.true_and,Bool.and_eq_true];exact⟨⟨⟨by kernel_rfl,c4g⟩,c5g⟩,c6g⟩
end Go.Proofs.YthkdpdpgmhmgoaaGreat
end
