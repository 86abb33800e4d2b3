/- PhenomWitness is so of every input: the given statement. Conditions: none beyond the statement itself. -/
import Derived.Test.YthkdpdpgmhmgoaaGreatSpUQe
import Derived.Test.YthkdpdpgmhmgoaaGreatSpUWe0

set_option linter.unusedVariables false
set_option linter.unusedSimpArgs false
set_option maxHeartbeats 64000000
set_option maxRecDepth 100000

section
namespace Go.Proofs.YthkdpdpgmhmgoaaGreat
open Go.ChangeShapes Go.WideShapes Go.ChangeAt Go.RowKit Go.Vm Go.Rt
open Go.Proofs (Tryz.prog)
theorem a8x(os:Os)(started:os.Started)(H:Type)(enc:TypeId×Value->H):
 ReturnsInHanded {} Tryz.checked os 8 .any (Rows.phenomWitnessSpec.pre6 enc Tryz.prog Tryz.f8 Rows.phenomWitnessRow.domain false) (Rows.phenomWitnessSpec.post enc Tryz.prog Tryz.f8 false true false false):=by
 refine returnsInHanded_of_change (C:=Tryz.checked) own started (by kernel_rfl) Tryz.func8
  (ChangeSpec.witness6 (enc:=enc) (C:=Tryz.checked) false ⟨#[], #[.agg #[.slice none 0 0, .slice none 0 0, .slice none 0 0]],[]⟩ 8 (by kernel_rfl) (by kernel_rfl) (by kernel_rfl) (by kernel_rfl)) ?_
 intro W base args ds gs before hval hW hcnd _;refine d9w (C:=Tryz.checked) (S:=NH) e2b e1b (fn:=Tryz.f8) (ts:=[26]) (tb:=4) (spec:=Rows.phenomWitnessSpec) rfl (by rw[Tryz.params8]) (by decide) (fun t ht=>e3b t (by revert ht;simp only[List.mem_cons,List.not_mem_nil,or_false];grind)) rfl (by kernel_rfl) ?_ ?_ hval hW
 ·intro H ds hl
  match ds,hl with
  | [d1],_=>exact⟨rfl,rfl,rfl⟩
 ·intro WU Sc;obtain⟨h,ZY,Xp,e2⟩:=e5b Sc
  show ZU Tryz.prog true 8 (Q8 Tryz.prog [26] WU) [] _ []
  rw[e2];exact c2a ZY Xp
theorem phenomWitness:Rows.PhenomWitnessSaid:=
 OpenClaim.holds_of_wide 8 Tryz.f8 rfl rfl rfl rfl rfl rfl rfl ⟨rfl,rfl,rfl,rfl,rfl⟩ rfl rfl rfl rfl rfl b2L Tryz.func8 b5L
  b3L b4L
  (fun os started H enc _=>a8x os started H enc)
#print axioms phenomWitness
end Go.Proofs.YthkdpdpgmhmgoaaGreat
end
