/- MixingLowers is so of every input: the given statement. Conditions: none beyond the statement itself. -/
import Derived.Test.YthkdpdpgmhmgoaaGreatSpMQe
import Derived.Test.YthkdpdpgmhmgoaaGreatSpMWe0

set_option linter.unusedVariables false
set_option linter.unusedSimpArgs false
set_option maxHeartbeats 64000000
set_option maxRecDepth 100000

section
namespace Go.Proofs.YthkdpdpgmhmgoaaGreat
open Go.ChangeShapes Go.WideShapes Go.ChangeAt Go.RowKit Go.Vm Go.Rt
open Go.Proofs (Tryz.prog)
theorem b9C(os:Os)(started:os.Started)(H:Type)(enc:TypeId×Value->H):
 ReturnsInHanded {} Tryz.checked os 15 .any (Rows.mixingLowersSpec.pre6 enc Tryz.prog Tryz.f15 Rows.mixingLowersRow.domain false) (Rows.mixingLowersSpec.post enc Tryz.prog Tryz.f15 false true false false):=by
 refine returnsInHanded_of_change (C:=Tryz.checked) own started (by kernel_rfl) Tryz.func15
  (ChangeSpec.witness6 (enc:=enc) (C:=Tryz.checked) false ⟨#[], #[.agg #[.slice none 0 0, .slice none 0 0, .slice none 0 0], .int .i64 0, .int .i64 0],[]⟩ 8 (by kernel_rfl) (by kernel_rfl) (by kernel_rfl) (by kernel_rfl)) ?_
 intro W base args ds gs before hval hW hcnd _;refine d0v (C:=Tryz.checked) (S:=IW) e4f e3f (fn:=Tryz.f15) (ts:=[26,3,3]) (tb:=4) (spec:=Rows.mixingLowersSpec) rfl (by rw[Tryz.params15]) (by decide) (fun t ht=>e5f t (by revert ht;simp only[List.mem_cons,List.not_mem_nil,or_false];grind)) rfl (by kernel_rfl) ?_ ?_ hval hW
 ·intro H ds hl
  match ds,hl with
  | [d1,d2,d3],_=>exact⟨rfl,rfl,rfl⟩
 ·intro Wt PJ;obtain⟨h,n,m,ZY,Xs,_,_,e2⟩:=e8f PJ
  show ZX Tryz.prog true 15 (Qq Tryz.prog [26,3,3] Wt) [] _ []
  rw[e2];exact d4R ZY Xs n m
theorem mixingLowers:Rows.MixingLowersSaid:=
 OpenClaim.holds_of_wide 15 Tryz.f15 rfl rfl rfl rfl rfl rfl rfl ⟨rfl,rfl,rfl,rfl,rfl⟩ rfl rfl rfl rfl rfl b8W Tryz.func15 b1X
  b9W b0X
  (fun os started H enc _=>b9C os started H enc)
#print axioms mixingLowers
end Go.Proofs.YthkdpdpgmhmgoaaGreat
end
