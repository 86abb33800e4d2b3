/- MixingGraphs is so of every input: the given statement. Conditions: none beyond the statement itself. -/
import Derived.Test.YthkdpdpgmhmgoaaGreatSpMQc
import Derived.Test.YthkdpdpgmhmgoaaGreatSpMWc0

set_option linter.unusedVariables false
set_option linter.unusedSimpArgs false
set_option maxHeartbeats 64000000
set_option maxRecDepth 100000

section
namespace Go.Proofs.YthkdpdpgmhmgoaaGreat
open Go.ChangeShapes Go.WideShapes Go.ChangeAt Go.RowKit Go.Vm Go.Rt
open Go.Proofs (Tryz.prog)
theorem d9Q(os:Os)(started:os.Started)(H:Type)(enc:TypeId×Value->H):
 ReturnsInHanded {} Tryz.checked os 16 .any (Rows.mixingGraphsSpec.pre6 enc Tryz.prog Tryz.f16 Rows.mixingGraphsRow.domain false) (Rows.mixingGraphsSpec.post enc Tryz.prog Tryz.f16 false true false false):=by
 refine returnsInHanded_of_change (C:=Tryz.checked) own started (by kernel_rfl) Tryz.func16
  (ChangeSpec.witness6 (enc:=enc) (C:=Tryz.checked) false ⟨#[], #[.agg #[.slice none 0 0, .slice none 0 0, .slice none 0 0]],[]⟩ 8 (by kernel_rfl) (by kernel_rfl) (by kernel_rfl) (by kernel_rfl)) ?_
 intro W base args ds gs before hval hW hcnd _;refine d0v (C:=Tryz.checked) (S:=IW) e4f e3f (fn:=Tryz.f16) (ts:=[26]) (tb:=4) (spec:=Rows.mixingGraphsSpec) rfl (by rw[Tryz.params16]) (by decide) (fun t ht=>e5f t (by revert ht;simp only[List.mem_cons,List.not_mem_nil,or_false];grind)) rfl (by kernel_rfl) ?_ ?_ hval hW
 ·intro H ds hl
  match ds,hl with
  | [d1],_=>exact⟨rfl,rfl,rfl⟩
 ·intro Wt PJ;obtain⟨h,ZY,Xs,e2⟩:=e7f PJ
  show ZX Tryz.prog true 16 (Qq Tryz.prog [26] Wt) [] _ []
  rw[e2];exact e0t ZY Xs
theorem mixingGraphs:Rows.MixingGraphsSaid:=
 OpenClaim.holds_of_wide 16 Tryz.f16 rfl rfl rfl rfl rfl rfl rfl ⟨rfl,rfl,rfl,rfl,rfl⟩ rfl rfl rfl rfl rfl b0O Tryz.func16 b3O
  b1O b2O
  (fun os started H enc _=>d9Q os started H enc)
#print axioms mixingGraphs
end Go.Proofs.YthkdpdpgmhmgoaaGreat
end
