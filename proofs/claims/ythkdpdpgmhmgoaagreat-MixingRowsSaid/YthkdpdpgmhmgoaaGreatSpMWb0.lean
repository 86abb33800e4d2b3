/- Contracts of functions of the program, and what they lean on. Conditions: those of each theorem. -/
import Derived.Test.YthkdpdpgmhmgoaaGreatSpMF

set_option linter.unusedVariables false
set_option linter.unusedSimpArgs false
set_option maxHeartbeats 64000000
set_option maxRecDepth 100000

section
namespace Go.Proofs.YthkdpdpgmhmgoaaGreat
open Go.ChangeShapes Go.WideShapes Go.ChangeAt Go.RowKit Go.Vm Go.Rt
open Go.Proofs (Tryz.prog)
theorem d8p:Rows.mixingRowsRow.wf (OpenSpec.ofChange Rows.mixingRowsSpec)=true:=by kernel_rfl
theorem d9p:laidOutB Tryz.prog=true:=by kernel_rfl
theorem d0q:mapsRowed Tryz.prog=true:=by kernel_rfl
theorem d1q:Tryz.f14.params.all (Tryz.prog.readableRec ·)=true:=by kernel_rfl
theorem d2q:namedTie Tryz.prog Rows.mixingRowsRow.named Rows.mixingRowsSpec.vars=true:=by kernel_rfl
theorem d3q:(Rows.mixingRowsRow.stops==[])=true:=by kernel_rfl
theorem d4q:(Tryz.prog.stops==[])=true:=by kernel_rfl
theorem d5q:(Rows.mixingRowsRow.knobs==[])=true:=by kernel_rfl
theorem d6q:(Tryz.prog.stopKnobs==[])=true:=by kernel_rfl
theorem d7q:(Rows.mixingRowsRow.inPlace==Tryz.prog.inPlace 14)=true:=by kernel_rfl
theorem d8q:(Rows.mixingRowsRow.unfollowed==Tryz.prog.unfollowed 14)=true:=by kernel_rfl
theorem d9q:(Rows.mixingRowsRow.recurses==Tryz.prog.recurses 14)=true:=by kernel_rfl
theorem d0r:(Rows.mixingRowsRow.named==Tryz.prog.varsNamed 14)=true:=by kernel_rfl
theorem d1r:(Rows.mixingRowsRow.maps==(Tryz.f14.params.toList++Rows.mixingRowsSpec.plain.varTypes Tryz.prog).any (Tryz.prog.mapsRec ·))=true:=by kernel_rfl
theorem d2r:(Rows.mixingRowsRow.ifaces==(Tryz.f14.params.toList++Rows.mixingRowsSpec.plain.varTypes Tryz.prog).any (Tryz.prog.ifacesRec ·))=true:=by kernel_rfl
theorem d3r:(Rows.mixingRowsRow.mapsOut==Tryz.prog.mapsAmong Tryz.f14.resultTypes.toList)=true:=by kernel_rfl
theorem d4r:(Rows.mixingRowsRow.loops==(Tryz.f14.params.toList++Rows.mixingRowsSpec.plain.varTypes Tryz.prog).any (Tryz.prog.loopsFrom ·))=true:=by kernel_rfl
theorem d5r:(Rows.mixingRowsRow.wideKeys==(Tryz.f14.params.toList++Rows.mixingRowsSpec.plain.varTypes Tryz.prog++Tryz.f14.resultTypes.toList).any (Tryz.prog.wideKeysFrom ·))=true:=by kernel_rfl
theorem d6r:Rows.mixingRowsSpec.vars.all (Tryz.prog.varReadable ·)=true:=by kernel_rfl
theorem d7r:Tryz.f14.resultTypes.all (fun t=>Tryz.prog.readableRec t&&decide (t<Tryz.prog.types.size))=true:=by kernel_rfl
theorem d8r:(Rows.mixingRowsRow.ifacesOut==Tryz.f14.resultTypes.toList.any (Tryz.prog.ifacesRec ·))=true:=by kernel_rfl
theorem d9r:(Rows.mixingRowsRow.loopsOut==Tryz.f14.resultTypes.toList.any (Tryz.prog.loopsFrom ·))=true:=by kernel_rfl
theorem d0s:(Rows.mixingRowsRow.plainKeys==Tryz.prog.plainKeys)=true:=by kernel_rfl
theorem d1s:Rows.mixingRowsRow.shortTexts.isNone=true:=by kernel_rfl
theorem d2s:Tryz.prog.stopsHeard=true:=by kernel_rfl
theorem d3s:Tryz.prog.mayEnter=true:=by kernel_rfl
theorem d4s:(Rows.mixingRowsRow.lifted==Tryz.prog.liftsFinal)=true:=by kernel_rfl
theorem d5s:(Tryz.prog.make==some Rows.mixingRowsRow.make)=true:=by kernel_rfl
theorem d6s:(Rows.mixingRowsRow.pinned==Rows.mixingRowsRow.pinnedBy)=true:=by kernel_rfl
theorem d7s:(Rows.mixingRowsRow.veiled==(Tryz.f14.params.toList++Rows.mixingRowsSpec.plain.varTypes Tryz.prog++Tryz.f14.resultTypes.toList).any (Tryz.prog.veiledRec ·))=true:=by kernel_rfl
theorem d8s:Rows.mixingRowsRow.veiledFits Tryz.prog Tryz.f14.params.toList (Tryz.f14.params.toList++Rows.mixingRowsSpec.plain.varTypes Tryz.prog++Tryz.f14.resultTypes.toList)=true:=by kernel_rfl
theorem d9s:Tryz.prog.funcNamed Rows.mixingRowsRow.func=some 14:=by kernel_rfl
theorem d0t:Tryz.f14.isInstance Tryz.prog Rows.mixingRowsRow.origin Rows.mixingRowsRow.targs:=of_decide_eq_true (by kernel_rfl)
theorem d1t:Tryz.f14.isWrapper Tryz.prog Rows.mixingRowsRow.wrapper Rows.mixingRowsRow.mainSum:=by unfold Func.isWrapper;first|(rw[if_pos (by decide+kernel)];kernel_rfl)|(rw[if_neg (by decide+kernel)];exact⟨rfl,rfl⟩)
theorem d2t:joinedFacts Tryz.prog 14 Tryz.f14 Rows.mixingRowsSpec Rows.mixingRowsRow=true:=by
 unfold joinedFacts;rw[d8p,d9p,d0q,d1q,d2q,d3q,d4q,d5q,d6q,d7q,d8q,d9q,d0r,d1r,d2r,d3r,d4r,d5r,d6r,d7r,d8r,d9r,d0s,d1s,d2s,d3s,d4s,d5s];simp only[Bool.true_and,Bool.and_eq_true];exact⟨⟨⟨by kernel_rfl,d6s⟩,d7s⟩,d8s⟩
end Go.Proofs.YthkdpdpgmhmgoaaGreat
end
