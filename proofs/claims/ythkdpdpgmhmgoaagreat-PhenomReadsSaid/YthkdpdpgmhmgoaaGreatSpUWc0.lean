/- Contracts of functions of the program, and what they lean on. Conditions: those of each theorem. -/
import Derived.Test.YthkdpdpgmhmgoaaGreatSpUF

set_option linter.unusedVariables false
set_option linter.unusedSimpArgs false
set_option maxHeartbeats 64000000
set_option maxRecDepth 100000

section
namespace Go.Proofs.YthkdpdpgmhmgoaaGreat
open Go.ChangeShapes Go.WideShapes Go.ChangeAt Go.RowKit Go.Vm Go.Rt
open Go.Proofs (Tryz.prog)
theorem b1B:Rows.phenomReadsRow.wf (OpenSpec.ofChange Rows.phenomReadsSpec)=true:=by kernel_rfl
theorem b2B:laidOutB Tryz.prog=true:=by kernel_rfl
theorem b3B:mapsRowed Tryz.prog=true:=by kernel_rfl
theorem b4B:Tryz.f11.params.all (Tryz.prog.readableRec ·)=true:=by kernel_rfl
theorem b5B:namedTie Tryz.prog Rows.phenomReadsRow.named Rows.phenomReadsSpec.vars=true:=by kernel_rfl
theorem b6B:(Rows.phenomReadsRow.stops==[])=true:=by kernel_rfl
theorem b7B:(Tryz.prog.stops==[])=true:=by kernel_rfl
theorem b8B:(Rows.phenomReadsRow.knobs==[])=true:=by kernel_rfl
theorem b9B:(Tryz.prog.stopKnobs==[])=true:=by kernel_rfl
theorem b0C:(Rows.phenomReadsRow.inPlace==Tryz.prog.inPlace 11)=true:=by kernel_rfl
theorem b1C:(Rows.phenomReadsRow.unfollowed==Tryz.prog.unfollowed 11)=true:=by kernel_rfl
theorem b2C:(Rows.phenomReadsRow.recurses==Tryz.prog.recurses 11)=true:=by kernel_rfl
theorem b3C:(Rows.phenomReadsRow.named==Tryz.prog.varsNamed 11)=true:=by kernel_rfl
theorem b4C:(Rows.phenomReadsRow.maps==(Tryz.f11.params.toList++Rows.phenomReadsSpec.plain.varTypes Tryz.prog).any (Tryz.prog.mapsRec ·))=true:=by kernel_rfl
theorem b5C:(Rows.phenomReadsRow.ifaces==(Tryz.f11.params.toList++Rows.phenomReadsSpec.plain.varTypes Tryz.prog).any (Tryz.prog.ifacesRec ·))=true:=by kernel_rfl
theorem b6C:(Rows.phenomReadsRow.mapsOut==Tryz.prog.mapsAmong Tryz.f11.resultTypes.toList)=true:=by kernel_rfl
theorem b7C:(Rows.phenomReadsRow.loops==(Tryz.f11.params.toList++Rows.phenomReadsSpec.plain.varTypes Tryz.prog).any (Tryz.prog.loopsFrom ·))=true:=by kernel_rfl
theorem b8C:(Rows.phenomReadsRow.wideKeys==(Tryz.f11.params.toList++Rows.phenomReadsSpec.plain.varTypes Tryz.prog++Tryz.f11.resultTypes.toList).any (Tryz.prog.wideKeysFrom ·))=true:=by kernel_rfl
theorem b9C:Rows.phenomReadsSpec.vars.all (Tryz.prog.varReadable ·)=true:=by kernel_rfl
theorem b0D:Tryz.f11.resultTypes.all (fun t=>Tryz.prog.readableRec t&&decide (t<Tryz.prog.types.size))=true:=by kernel_rfl
theorem b1D:(Rows.phenomReadsRow.ifacesOut==Tryz.f11.resultTypes.toList.any (Tryz.prog.ifacesRec ·))=true:=by kernel_rfl
theorem b2D:(Rows.phenomReadsRow.loopsOut==Tryz.f11.resultTypes.toList.any (Tryz.prog.loopsFrom ·))=true:=by kernel_rfl
theorem b3D:(Rows.phenomReadsRow.plainKeys==Tryz.prog.plainKeys)=true:=by kernel_rfl
theorem b4D:Rows.phenomReadsRow.shortTexts.isNone=true:=by kernel_rfl
theorem b5D:Tryz.prog.stopsHeard=true:=by kernel_rfl
theorem b6D:Tryz.prog.mayEnter=true:=by kernel_rfl
theorem b7D:(Rows.phenomReadsRow.lifted==Tryz.prog.liftsFinal)=true:=by kernel_rfl
theorem b8D:(Tryz.prog.make==some Rows.phenomReadsRow.make)=true:=by kernel_rfl
theorem b9D:(Rows.phenomReadsRow.pinned==Rows.phenomReadsRow.pinnedBy)=true:=by kernel_rfl
theorem b0E:(Rows.phenomReadsRow.veiled==(Tryz.f11.params.toList++Rows.phenomReadsSpec.plain.varTypes Tryz.prog++Tryz.f11.resultTypes.toList).any (Tryz.prog.veiledRec ·))=true:=by kernel_rfl
theorem b1E:Rows.phenomReadsRow.veiledFits Tryz.prog Tryz.f11.params.toList (Tryz.f11.params.toList++Rows.phenomReadsSpec.plain.varTypes Tryz.prog++Tryz.f11.resultTypes.toList)=true:=by kernel_rfl
theorem b2E:Tryz.prog.funcNamed Rows.phenomReadsRow.func=some 11:=by kernel_rfl
theorem b3E:Tryz.f11.isInstance Tryz.prog Rows.phenomReadsRow.origin Rows.phenomReadsRow.targs:=of_decide_eq_true (by kernel_rfl)
theorem b4E:Tryz.f11.isWrapper Tryz.prog Rows.phenomReadsRow.wrapper Rows.phenomReadsRow.mainSum:=by unfold Func.isWrapper;first|(rw[if_pos (by decide+kernel)];kernel_rfl)|(rw[if_neg (by decide+kernel)];exact⟨rfl,rfl⟩)
theorem b5E:joinedFacts Tryz.prog 11 Tryz.f11 Rows.phenomReadsSpec Rows.phenomReadsRow=true:=by
 unfold joinedFacts;rw[b1B,b2B,b3B,b4B,b5B,b6B,b7B,b8B,b9B,b0C,b1C,b2C,b3C,b4C,b5C,b6C,b7C,b8C,b9C,b0D,b1D,b2D,b3D,b4D,b5D,b6D,b7D,b8D];simp only[Bool.true_and,Bool.and_eq_true];exact⟨⟨⟨by kernel_rfl,b9D⟩,b0E⟩,b1E⟩
end Go.Proofs.YthkdpdpgmhmgoaaGreat
end
