/- PhenomLevels is so of every input: the given statement. Conditions: none beyond the statement itself. -/
import Derived.Test.YthkdpdpgmhmgoaaGreatSpUQd
import Derived.Test.YthkdpdpgmhmgoaaGreatSpUWd0

set_option linter.unusedVariables false
set_option linter.unusedSimpArgs false
set_option maxHeartbeats 64000000
set_option maxRecDepth 100000

section
namespace Go.Proofs.YthkdpdpgmhmgoaaGreat
open Go.ChangeShapes Go.WideShapes Go.ChangeAt Go.RowKit Go.Vm Go.Rt
open Go.Proofs (Tryz.prog)
theorem a2O(os:Os)(started:os.Started)(H:Type)(enc:TypeId×Value->H):
 ReturnsInHanded {} Tryz.checked os 12 .any (Rows.phenomLevelsSpec.pre6 enc Tryz.prog Tryz.f12 Rows.phenomLevelsRow.domain false) (Rows.phenomLevelsSpec.post enc Tryz.prog Tryz.f12 false true false false):=by
 refine returnsInHanded_of_change (C:=Tryz.checked) own started (by kernel_rfl) Tryz.func12
  (ChangeSpec.witness6 (enc:=enc) (C:=Tryz.checked) false ⟨#[], #[.agg #[.slice none 0 0, .slice none 0 0, .slice none 0 0], .int .i64 0, .int .i64 0],[]⟩ 8 (by kernel_rfl) (by kernel_rfl) (by kernel_rfl) (by kernel_rfl)) ?_
 intro W base args ds gs before hval hW hcnd _;refine d9w (C:=Tryz.checked) (S:=NH) e2b e1b (fn:=Tryz.f12) (ts:=[26,3,3]) (tb:=4) (spec:=Rows.phenomLevelsSpec) rfl (by rw[Tryz.params12]) (by decide) (fun t ht=>e3b t (by revert ht;simp only[List.mem_cons,List.not_mem_nil,or_false];grind)) rfl (by kernel_rfl) ?_ ?_ hval hW
 ·intro H ds hl
  match ds,hl with
  | [d1,d2,d3],_=>exact⟨rfl,rfl,rfl⟩
 ·intro WU Sc;obtain⟨h,n,m,ZY,Xp,hn,hm,e2⟩:=e7b Sc
  show ZU Tryz.prog true 12 (Q8 Tryz.prog [26,3,3] WU) [] _ []
  rw[e2];exact d0r ZY n m
theorem phenomLevels:Rows.PhenomLevelsSaid:=
 OpenClaim.holds_of_wide 12 Tryz.f12 rfl rfl rfl rfl rfl rfl rfl ⟨rfl,rfl,rfl,rfl,rfl⟩ rfl rfl rfl rfl rfl b1Z Tryz.func12 b4Z
  b2Z b3Z
  (fun os started H enc _=>a2O os started H enc)
#print axioms phenomLevels
end Go.Proofs.YthkdpdpgmhmgoaaGreat
end
