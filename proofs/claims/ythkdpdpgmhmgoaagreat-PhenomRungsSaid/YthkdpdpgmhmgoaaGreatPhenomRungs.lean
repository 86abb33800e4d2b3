/- PhenomRungs is so of every input: the given statement. Conditions: none beyond the statement itself. -/
import Derived.Test.YthkdpdpgmhmgoaaGreatSpUQf
import Derived.Test.YthkdpdpgmhmgoaaGreatSpUWf0

set_option linter.unusedVariables false
set_option linter.unusedSimpArgs false
set_option maxHeartbeats 64000000
set_option maxRecDepth 100000

section
namespace Go.Proofs.YthkdpdpgmhmgoaaGreat
open Go.ChangeShapes Go.WideShapes Go.ChangeAt Go.RowKit Go.Vm Go.Rt
open Go.Proofs (Tryz.prog)
theorem b5n(os:Os)(started:os.Started)(H:Type)(enc:TypeId×Value->H):
 ReturnsInHanded {} Tryz.checked os 9 .any (Rows.phenomRungsSpec.pre6 enc Tryz.prog Tryz.f9 Rows.phenomRungsRow.domain false) (Rows.phenomRungsSpec.post enc Tryz.prog Tryz.f9 false true false false):=by
 refine returnsInHanded_of_change (C:=Tryz.checked) own started (by kernel_rfl) Tryz.func9
  (ChangeSpec.witness6 (enc:=enc) (C:=Tryz.checked) false ⟨#[], #[.agg #[.slice none 0 0, .slice none 0 0, .slice none 0 0]],[]⟩ 8 (by kernel_rfl) (by kernel_rfl) (by kernel_rfl) (by kernel_rfl)) ?_
 intro W base args ds gs before hval hW hcnd _;refine d9w (C:=Tryz.checked) (S:=NH) e2b e1b (fn:=Tryz.f9) (ts:=[26]) (tb:=4) (spec:=Rows.phenomRungsSpec) rfl (by rw[Tryz.params9]) (by decide) (fun t ht=>e3b t (by revert ht;simp only[List.mem_cons,List.not_mem_nil,or_false];grind)) rfl (by kernel_rfl) ?_ ?_ hval hW
 ·intro H ds hl
  match ds,hl with
  | [d1],_=>exact⟨rfl,rfl,rfl⟩
 ·intro WU Sc;obtain⟨h,ZY,Xp,e2⟩:=e5b Sc
  show ZU Tryz.prog true 9 (Q8 Tryz.prog [26] WU) [] _ []
  rw[e2];exact a4y ZY Xp
theorem phenomRungs:Rows.PhenomRungsSaid:=
 OpenClaim.holds_of_wide 9 Tryz.f9 rfl rfl rfl rfl rfl rfl rfl ⟨rfl,rfl,rfl,rfl,rfl⟩ rfl rfl rfl rfl rfl b7H Tryz.func9 b0I
  b8H b9H
  (fun os started H enc _=>b5n os started H enc)
#print axioms phenomRungs
end Go.Proofs.YthkdpdpgmhmgoaaGreat
end
