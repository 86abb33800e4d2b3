/- MixingLevels is so of every input: the given statement. Conditions: none beyond the statement itself. -/
import Derived.Test.YthkdpdpgmhmgoaaGreatSpMQd
import Derived.Test.YthkdpdpgmhmgoaaGreatSpMWd0

set_option linter.unusedVariables false
set_option linter.unusedSimpArgs false
set_option maxHeartbeats 64000000
set_option maxRecDepth 100000

section
namespace Go.Proofs.YthkdpdpgmhmgoaaGreat
open Go.ChangeShapes Go.WideShapes Go.ChangeAt Go.RowKit Go.Vm Go.Rt
open Go.Proofs (Tryz.prog)
theorem c7e(os:Os)(started:os.Started)(H:Type)(enc:TypeId×Value->H):
 ReturnsInHanded {} Tryz.checked os 17 .any (Rows.mixingLevelsSpec.pre6 enc Tryz.prog Tryz.f17 Rows.mixingLevelsRow.domain false) (Rows.mixingLevelsSpec.post enc Tryz.prog Tryz.f17 false true false false):=by
 refine returnsInHanded_of_change (C:=Tryz.checked) own started (by kernel_rfl) Tryz.func17
  (ChangeSpec.witness6 (enc:=enc) (C:=Tryz.checked) false ⟨#[], #[.agg #[.slice none 0 0, .slice none 0 0, .slice none 0 0], .bool false],[]⟩ 8 (by kernel_rfl) (by kernel_rfl) (by kernel_rfl) (by kernel_rfl)) ?_
 intro W base args ds gs before hval hW hcnd _;refine d0v (C:=Tryz.checked) (S:=IW) e4f e3f (fn:=Tryz.f17) (ts:=[26,4]) (tb:=4) (spec:=Rows.mixingLevelsSpec) rfl (by rw[Tryz.params17]) (by decide) (fun t ht=>e5f t (by revert ht;simp only[List.mem_cons,List.not_mem_nil,or_false];grind)) rfl (by kernel_rfl) ?_ ?_ hval hW
 ·intro H ds hl
  match ds,hl with
  | [d1,d2],_=>exact⟨rfl,rfl,rfl⟩
 ·intro Wt PJ;obtain⟨h,b,ZY,Xs,e2⟩:=e9f PJ
  show ZX Tryz.prog true 17 (Qq Tryz.prog [26,4] Wt) [] _ []
  rw[e2];exact a6C ZY Xs b
theorem mixingLevels:Rows.MixingLevelsSaid:=
 OpenClaim.holds_of_wide 17 Tryz.f17 rfl rfl rfl rfl rfl rfl rfl ⟨rfl,rfl,rfl,rfl,rfl⟩ rfl rfl rfl rfl rfl e1j Tryz.func17 e4j
  e2j e3j
  (fun os started H enc _=>c7e os started H enc)
#print axioms mixingLevels
end Go.Proofs.YthkdpdpgmhmgoaaGreat
end
