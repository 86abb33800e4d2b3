/- Contracts of functions of the program, and what they lean on. Conditions: those of each theorem. -/
import Derived.Test.YthkdpdpgmhmgoaaGreatSpUF

set_option linter.unusedVariables false
set_option linter.unusedSimpArgs false
set_option maxHeartbeats 64000000
set_option maxRecDepth 100000

section
namespace Go.Proofs.YthkdpdpgmhmgoaaGreat
open Go.ChangeShapes Go.WideShapes Go.ChangeAt Go.RowKit Go.Vm Go.Rt
open Go.Proofs (Tryz.prog)
theorem b6E:Rows.phenomRungsRow.wf (OpenSpec.ofChange Rows.phenomRungsSpec)=true:=by kernel_rfl
theorem b7E:laidOutB Tryz.prog=true:=by kernel_rfl
theorem b8E:mapsRowed Tryz.prog=true:=by kernel_rfl
theorem b9E:Tryz.f9.params.all (Tryz.prog.readableRec ·)=true:=by kernel_rfl
theorem b0F:namedTie Tryz.prog Rows.phenomRungsRow.named Rows.phenomRungsSpec.vars=true:=by kernel_rfl
theorem b1F:(Rows.phenomRungsRow.stops==[])=true:=by kernel_rfl
theorem b2F:(Tryz.prog.stops==[])=true:=by kernel_rfl
theorem b3F:(Rows.phenomRungsRow.knobs==[])=true:=by kernel_rfl
theorem b4F:(Tryz.prog.stopKnobs==[])=true:=by kernel_rfl
theorem b5F:(Rows.phenomRungsRow.inPlace==Tryz.prog.inPlace 9)=true:=by kernel_rfl
theorem b6F:(Rows.phenomRungsRow.unfollowed==Tryz.prog.unfollowed 9)=true:=by kernel_rfl
theorem b7F:(Rows.phenomRungsRow.recurses==Tryz.prog.recurses 9)=true:=by kernel_rfl
theorem b8F:(Rows.phenomRungsRow.named==Tryz.prog.varsNamed 9)=true:=by kernel_rfl
theorem b9F:(Rows.phenomRungsRow.maps==(Tryz.f9.params.toList++Rows.phenomRungsSpec.plain.varTypes Tryz.prog).any (Tryz.prog.mapsRec ·))=true:=by kernel_rfl
theorem b0G:(Rows.phenomRungsRow.ifaces==(Tryz.f9.params.toList++Rows.phenomRungsSpec.plain.varTypes Tryz.prog).any (Tryz.prog.ifacesRec ·))=true:=by kernel_rfl
theorem b1G:(Rows.phenomRungsRow.mapsOut==Tryz.prog.mapsAmong Tryz.f9.resultTypes.toList)=true:=by kernel_rfl
theorem b2G:(Rows.phenomRungsRow.loops==(Tryz.f9.params.toList++Rows.phenomRungsSpec.plain.varTypes Tryz.prog).any (Tryz.prog.loopsFrom ·))=true:=by kernel_rfl
theorem b3G:(Rows.phenomRungsRow.wideKeys==(Tryz.f9.params.toList++Rows.phenomRungsSpec.plain.varTypes Tryz.prog++Tryz.f9.resultTypes.toList).any (Tryz.prog.wideKeysFrom ·))=true:=by kernel_rfl
theorem b4G:Rows.phenomRungsSpec.vars.all (Tryz.prog.varReadable ·)=true:=by kernel_rfl
theorem b5G:Tryz.f9.resultTypes.all (fun t=>Tryz.prog.readableRec t&&decide (t<Tryz.prog.types.size))=true:=by kernel_rfl
theorem b6G:(Rows.phenomRungsRow.ifacesOut==Tryz.f9.resultTypes.toList.any (Tryz.prog.ifacesRec ·))=true:=by kernel_rfl
theorem b7G:(Rows.phenomRungsRow.loopsOut==Tryz.f9.resultTypes.toList.any (Tryz.prog.loopsFrom ·))=true:=by kernel_rfl
theorem b8G:(Rows.phenomRungsRow.plainKeys==Tryz.prog.plainKeys)=true:=by kernel_rfl
theorem b9G:Rows.phenomRungsRow.shortTexts.isNone=true:=by kernel_rfl
theorem b0H:Tryz.prog.stopsHeard=true:=by kernel_rfl
theorem b1H:Tryz.prog.mayEnter=true:=by kernel_rfl
theorem b2H:(Rows.phenomRungsRow.lifted==Tryz.prog.liftsFinal)=true:=by kernel_rfl
theorem b3H:(Tryz.prog.make==some Rows.phenomRungsRow.make)=true:=by kernel_rfl
theorem b4H:(Rows.phenomRungsRow.pinned==Rows.phenomRungsRow.pinnedBy)=true:=by kernel_rfl
theorem b5H:(Rows.phenomRungsRow.veiled==(Tryz.f9.params.toList++Rows.phenomRungsSpec.plain.varTypes Tryz.prog++Tryz.f9.resultTypes.toList).any (Tryz.prog.veiledRec ·))=true:=by kernel_rfl
theorem b6H:Rows.phenomRungsRow.veiledFits Tryz.prog Tryz.f9.params.toList (Tryz.f9.params.toList++Rows.phenomRungsSpec.plain.varTypes Tryz.prog++Tryz.f9.resultTypes.toList)=true:=by kernel_rfl
theorem b7H:Tryz.prog.funcNamed Rows.phenomRungsRow.func=some 9:=by kernel_rfl
theorem b8H:Tryz.f9.isInstance Tryz.prog Rows.phenomRungsRow.origin Rows.phenomRungsRow.targs:=of_decide_eq_true (by kernel_rfl)
theorem b9H:Tryz.f9.isWrapper Tryz.prog Rows.phenomRungsRow.wrapper Rows.phenomRungsRow.mainSum:=by unfold Func.isWrapper;first|(rw[if_pos (by decide+kernel)];kernel_rfl)|(rw[if_neg (by decide+kernel)];exact⟨rfl,rfl⟩)
theorem b0I:joinedFacts Tryz.prog 9 Tryz.f9 Rows.phenomRungsSpec Rows.phenomRungsRow=true:=by
 unfold joinedFacts;rw[b6E,b7E,b8E,b9E,b0F,b1F,b2F,b3F,b4F,b5F,b6F,b7F,b8F,b9F,b0G,b1G,b2G,b3G,b4G,b5G,b6G,b7G,b8G,b9G,b0H,b1H,b2H,b3H];simp only[Bool.true_and,Bool.and_eq_true];exact⟨⟨⟨by kernel_rfl,b4H⟩,b5H⟩,b6H⟩
end Go.Proofs.YthkdpdpgmhmgoaaGreat
end
