/- Contracts of functions of the program, and what they lean on. Conditions: those of each theorem. -/
import Derived.Test.YthkdpdpgmhmgoaaGreatSpUF

set_option linter.unusedVariables false
set_option linter.unusedSimpArgs false
set_option maxHeartbeats 64000000
set_option maxRecDepth 100000

section
namespace Go.Proofs.YthkdpdpgmhmgoaaGreat
open Go.ChangeShapes Go.WideShapes Go.ChangeAt Go.RowKit Go.Vm Go.Rt
open Go.Proofs (Tryz.prog)
theorem d5h:Rows.phenomCyclesRow.wf (OpenSpec.ofChange Rows.phenomCyclesSpec)=true:=by kernel_rfl
theorem d6h:laidOutB Tryz.prog=true:=by kernel_rfl
theorem d7h:mapsRowed Tryz.prog=true:=by kernel_rfl
theorem d8h:Tryz.f7.params.all (Tryz.prog.readableRec ·)=true:=by kernel_rfl
theorem d9h:namedTie Tryz.prog Rows.phenomCyclesRow.named Rows.phenomCyclesSpec.vars=true:=by kernel_rfl
theorem d0i:(Rows.phenomCyclesRow.stops==[])=true:=by kernel_rfl
theorem d1i:(Tryz.prog.stops==[])=true:=by kernel_rfl
theorem d2i:(Rows.phenomCyclesRow.knobs==[])=true:=by kernel_rfl
theorem d3i:(Tryz.prog.stopKnobs==[])=true:=by kernel_rfl
theorem d4i:(Rows.phenomCyclesRow.inPlace==Tryz.prog.inPlace 7)=true:=by kernel_rfl
theorem d5i:(Rows.phenomCyclesRow.unfollowed==Tryz.prog.unfollowed 7)=true:=by kernel_rfl
theorem d6i:(Rows.phenomCyclesRow.recurses==Tryz.prog.recurses 7)=true:=by kernel_rfl
theorem d7i:(Rows.phenomCyclesRow.named==Tryz.prog.varsNamed 7)=true:=by kernel_rfl
theorem d8i:(Rows.phenomCyclesRow.maps==(Tryz.f7.params.toList++Rows.phenomCyclesSpec.plain.varTypes Tryz.prog).any (Tryz.prog.mapsRec ·))=true:=by kernel_rfl
theorem d9i:(Rows.phenomCyclesRow.ifaces==(Tryz.f7.params.toList++Rows.phenomCyclesSpec.plain.varTypes Tryz.prog).any (Tryz.prog.ifacesRec ·))=true:=by kernel_rfl
theorem d0j:(Rows.phenomCyclesRow.mapsOut==Tryz.prog.mapsAmong Tryz.f7.resultTypes.toList)=true:=by kernel_rfl
theorem d1j:(Rows.phenomCyclesRow.loops==(Tryz.f7.params.toList++Rows.phenomCyclesSpec.plain.varTypes Tryz.prog).any (Tryz.prog.loopsFrom ·))=true:=by kernel_rfl
theorem d2j:(Rows.phenomCyclesRow.wideKeys==(Tryz.f7.params.toList++Rows.phenomCyclesSpec.plain.varTypes Tryz.prog++Tryz.f7.resultTypes.toList).any (Tryz.prog.wideKeysFrom ·))=true:=by kernel_rfl
theorem d3j:Rows.phenomCyclesSpec.vars.all (Tryz.prog.varReadable ·)=true:=by kernel_rfl
theorem d4j:Tryz.f7.resultTypes.all (fun t=>Tryz.prog.readableRec t&&decide (t<Tryz.prog.types.size))=true:=by kernel_rfl
theorem d5j:(Rows.phenomCyclesRow.ifacesOut==Tryz.f7.resultTypes.toList.any (Tryz.prog.ifacesRec ·))=true:=by kernel_rfl
theorem d6j:(Rows.phenomCyclesRow.loopsOut==Tryz.f7.resultTypes.toList.any (Tryz.prog.loopsFrom ·))=true:=by kernel_rfl
theorem d7j:(Rows.phenomCyclesRow.plainKeys==Tryz.prog.plainKeys)=true:=by kernel_rfl
theorem d8j:Rows.phenomCyclesRow.shortTexts.isNone=true:=by kernel_rfl
theorem d9j:Tryz.prog.stopsHeard=true:=by kernel_rfl
theorem d0k:Tryz.prog.mayEnter=true:=by kernel_rfl
theorem d1k:(Rows.phenomCyclesRow.lifted==Tryz.prog.liftsFinal)=true:=by kernel_rfl
theorem d2k:(Tryz.prog.make==some Rows.phenomCyclesRow.make)=true:=by kernel_rfl
theorem d3k:(Rows.phenomCyclesRow.pinned==Rows.phenomCyclesRow.pinnedBy)=true:=by kernel_rfl
theorem d4k:(Rows.phenomCyclesRow.veiled==(Tryz.f7.params.toList++Rows.phenomCyclesSpec.plain.varTypes Tryz.prog++Tryz.f7.resultTypes.toList).any (Tryz.prog.veiledRec ·))=true:=by kernel_rfl
theorem d5k:Rows.phenomCyclesRow.veiledFits Tryz.prog Tryz.f7.params.toList (Tryz.f7.params.toList++Rows.phenomCyclesSpec.plain.varTypes Tryz.prog++Tryz.f7.resultTypes.toList)=true:=by kernel_rfl
theorem d6k:Tryz.prog.funcNamed Rows.phenomCyclesRow.func=some 7:=by kernel_rfl
theorem d7k:Tryz.f7.isInstance Tryz.prog Rows.phenomCyclesRow.origin Rows.phenomCyclesRow.targs:=of_decide_eq_true (by kernel_rfl)
theorem d8k:Tryz.f7.isWrapper Tryz.prog Rows.phenomCyclesRow.wrapper Rows.phenomCyclesRow.mainSum:=by unfold Func.isWrapper;first|(rw[if_pos (by decide+kernel)];kernel_rfl)|(rw[if_neg (by decide+kernel)];exact⟨rfl,rfl⟩)
theorem d9k:joinedFacts Tryz.prog 7 Tryz.f7 Rows.phenomCyclesSpec Rows.phenomCyclesRow=true:=by
 unfold joinedFacts;rw[d5h,d6h,d7h,d8h,d9h,d0i,d1i,d2i,d3i,d4i,d5i,d6i,d7i,d8i,d9i,d0j,d1j,d2j,d3j,d4j,d5j,d6j,d7j,d8j,d9j,d0k,d1k,d2k];simp only[Bool.true_and,Bool.and_eq_true];exact⟨⟨⟨by kernel_rfl,d3k⟩,d4k⟩,d5k⟩
end Go.Proofs.YthkdpdpgmhmgoaaGreat
end
