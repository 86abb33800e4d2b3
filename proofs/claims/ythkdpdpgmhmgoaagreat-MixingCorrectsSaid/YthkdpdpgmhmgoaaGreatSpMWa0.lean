/- Contracts of functions of the program, and what they lean on. Conditions: those of each theorem. -/
import Derived.Test.YthkdpdpgmhmgoaaGreatSpMF

set_option linter.unusedVariables false
set_option linter.unusedSimpArgs false
set_option maxHeartbeats 64000000
set_option maxRecDepth 100000

section
namespace Go.Proofs.YthkdpdpgmhmgoaaGreat
open Go.ChangeShapes Go.WideShapes Go.ChangeAt Go.RowKit Go.Vm Go.Rt
open Go.Proofs (Tryz.prog)
theorem d9X:Rows.mixingCorrectsRow.wf (OpenSpec.ofChange Rows.mixingCorrectsSpec)=true:=by kernel_rfl
theorem d0Y:laidOutB Tryz.prog=true:=by kernel_rfl
theorem d1Y:mapsRowed Tryz.prog=true:=by kernel_rfl
theorem d2Y:Tryz.f13.params.all (Tryz.prog.readableRec ·)=true:=by kernel_rfl
theorem d3Y:namedTie Tryz.prog Rows.mixingCorrectsRow.named Rows.mixingCorrectsSpec.vars=true:=by kernel_rfl
theorem d4Y:(Rows.mixingCorrectsRow.stops==[])=true:=by kernel_rfl
theorem d5Y:(Tryz.prog.stops==[])=true:=by kernel_rfl
theorem d6Y:(Rows.mixingCorrectsRow.knobs==[])=true:=by kernel_rfl
theorem d7Y:(Tryz.prog.stopKnobs==[])=true:=by kernel_rfl
theorem d8Y:(Rows.mixingCorrectsRow.inPlace==Tryz.prog.inPlace 13)=true:=by kernel_rfl
theorem d9Y:(Rows.mixingCorrectsRow.unfollowed==Tryz.prog.unfollowed 13)=true:=by kernel_rfl
theorem d0Z:(Rows.mixingCorrectsRow.recurses==Tryz.prog.recurses 13)=true:=by kernel_rfl
theorem d1Z:(Rows.mixingCorrectsRow.named==Tryz.prog.varsNamed 13)=true:=by kernel_rfl
theorem d2Z:(Rows.mixingCorrectsRow.maps==(Tryz.f13.params.toList++Rows.mixingCorrectsSpec.plain.varTypes Tryz.prog).any (Tryz.prog.mapsRec ·))=true:=by kernel_rfl
theorem d3Z:(Rows.mixingCorrectsRow.ifaces==(Tryz.f13.params.toList++Rows.mixingCorrectsSpec.plain.varTypes Tryz.prog).any (Tryz.prog.ifacesRec ·))=true:=by kernel_rfl
theorem d4Z:(Rows.mixingCorrectsRow.mapsOut==Tryz.prog.mapsAmong Tryz.f13.resultTypes.toList)=true:=by kernel_rfl
theorem d5Z:(Rows.mixingCorrectsRow.loops==(Tryz.f13.params.toList++Rows.mixingCorrectsSpec.plain.varTypes Tryz.prog).any (Tryz.prog.loopsFrom ·))=true:=by kernel_rfl
theorem d6Z:(Rows.mixingCorrectsRow.wideKeys==(Tryz.f13.params.toList++Rows.mixingCorrectsSpec.plain.varTypes Tryz.prog++Tryz.f13.resultTypes.toList).any (Tryz.prog.wideKeysFrom ·))=true:=by kernel_rfl
theorem d7Z:Rows.mixingCorrectsSpec.vars.all (Tryz.prog.varReadable ·)=true:=by kernel_rfl
theorem d8Z:Tryz.f13.resultTypes.all (fun t=>Tryz.prog.readableRec t&&decide (t<Tryz.prog.types.size))=true:=by kernel_rfl
theorem d9Z:(Rows.mixingCorrectsRow.ifacesOut==Tryz.f13.resultTypes.toList.any (Tryz.prog.ifacesRec ·))=true:=by kernel_rfl
theorem e0a:(Rows.mixingCorrectsRow.loopsOut==Tryz.f13.resultTypes.toList.any (Tryz.prog.loopsFrom ·))=true:=by kernel_rfl
theorem e1a:(Rows.mixingCorrectsRow.plainKeys==Tryz.prog.plainKeys)=true:=by kernel_rfl
theorem e2a:Rows.mixingCorrectsRow.shortTexts.isNone=true:=by kernel_rfl
theorem e3a:Tryz.prog.stopsHeard=true:=by kernel_rfl
theorem e4a:Tryz.prog.mayEnter=true:=by kernel_rfl
theorem e5a:(Rows.mixingCorrectsRow.lifted==Tryz.prog.liftsFinal)=true:=by kernel_rfl
theorem e6a:(Tryz.prog.make==some Rows.mixingCorrectsRow.make)=true:=by kernel_rfl
theorem e7a:(Rows.mixingCorrectsRow.pinned==Rows.mixingCorrectsRow.pinnedBy)=true:=by kernel_rfl
theorem e8a:(Rows.mixingCorrectsRow.veiled==(Tryz.f13.params.toList++Rows.mixingCorrectsSpec.plain.varTypes Tryz.prog++Tryz.f13.resultTypes.toList).any (Tryz.prog.veiledRec ·))=true:=by kernel_rfl
theorem e9a:Rows.mixingCorrectsRow.veiledFits Tryz.prog Tryz.f13.params.toList (Tryz.f13.params.toList++Rows.mixingCorrectsSpec.plain.varTypes Tryz.prog++Tryz.f13.resultTypes.toList)=true:=by kernel_rfl
theorem e0b:Tryz.prog.funcNamed Rows.mixingCorrectsRow.func=some 13:=by kernel_rfl
theorem e1b:Tryz.f13.isInstance Tryz.prog Rows.mixingCorrectsRow.origin Rows.mixingCorrectsRow.targs:=of_decide_eq_true (by kernel_rfl)
theorem e2b:Tryz.f13.isWrapper Tryz.prog Rows.mixingCorrectsRow.wrapper Rows.mixingCorrectsRow.mainSum:=by unfold Func.isWrapper;first|(rw[if_pos (by decide+kernel)];kernel_rfl)|(rw[if_neg (by decide+kernel)];exact⟨rfl,rfl⟩)
theorem e3b:joinedFacts Tryz.prog 13 Tryz.f13 Rows.mixingCorrectsSpec Rows.mixingCorrectsRow=true:=by
 unfold joinedFacts;rw[d9X,d0Y,d1Y,d2Y,d3Y,d4Y,d5Y,d6Y,d7Y,d8Y,d9Y,d0Z,d1Z,d2Z,d3Z,d4Z,d5Z,d6Z,d7Z,d8Z,d9Z,e0a,e1a,e2a,e3a,e4a,e5a,e6a];simp only[Bool.true_and,Bool.and_eq_true];exact⟨⟨⟨by kernel_rfl,e7a⟩,e8a⟩,e9a⟩
end Go.Proofs.YthkdpdpgmhmgoaaGreat
end
