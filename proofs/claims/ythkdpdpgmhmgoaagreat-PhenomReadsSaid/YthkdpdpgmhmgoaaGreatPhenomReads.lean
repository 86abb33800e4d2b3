/- PhenomReads is so of every input: the given statement. Conditions: none beyond the statement itself. -/
import Derived.Test.YthkdpdpgmhmgoaaGreatSpUQd
import Derived.Test.YthkdpdpgmhmgoaaGreatSpUWc0

set_option linter.unusedVariables false
set_option linter.unusedSimpArgs false
set_option maxHeartbeats 64000000
set_option maxRecDepth 100000

section
namespace Go.Proofs.YthkdpdpgmhmgoaaGreat
open Go.ChangeShapes Go.WideShapes Go.ChangeAt Go.RowKit Go.Vm Go.Rt
open Go.Proofs (Tryz.prog)
theorem d0P(os:Os)(started:os.Started)(H:Type)(enc:TypeId×Value->H):
 ReturnsInHanded {} Tryz.checked os 11 .any (Rows.phenomReadsSpec.pre6 enc Tryz.prog Tryz.f11 Rows.phenomReadsRow.domain false) (Rows.phenomReadsSpec.post enc Tryz.prog Tryz.f11 false true false false):=by
 refine returnsInHanded_of_change (C:=Tryz.checked) own started (by kernel_rfl) Tryz.func11
  (ChangeSpec.witness6 (enc:=enc) (C:=Tryz.checked) false ⟨#[], #[.agg #[.slice none 0 0, .slice none 0 0, .slice none 0 0], .int .i64 0],[]⟩ 8 (by kernel_rfl) (by kernel_rfl) (by kernel_rfl) (by kernel_rfl)) ?_
 intro W base args ds gs before hval hW hcnd _;refine d9w (C:=Tryz.checked) (S:=NH) e2b e1b (fn:=Tryz.f11) (ts:=[26,3]) (tb:=4) (spec:=Rows.phenomReadsSpec) rfl (by rw[Tryz.params11]) (by decide) (fun t ht=>e3b t (by revert ht;simp only[List.mem_cons,List.not_mem_nil,or_false];grind)) rfl (by kernel_rfl) ?_ ?_ hval hW
 ·intro H ds hl
  match ds,hl with
  | [d1,d2],_=>exact⟨rfl,rfl,rfl⟩
 ·intro WU Sc;obtain⟨h,n,ZY,Xp,hn,e2⟩:=e6b Sc
  show ZU Tryz.prog true 11 (Q8 Tryz.prog [26,3] WU) [] _ []
  rw[e2];exact d9q ZY n
theorem phenomReads:Rows.PhenomReadsSaid:=
 OpenClaim.holds_of_wide 11 Tryz.f11 rfl rfl rfl rfl rfl rfl rfl ⟨rfl,rfl,rfl,rfl,rfl⟩ rfl rfl rfl rfl rfl b2E Tryz.func11 b5E
  b3E b4E
  (fun os started H enc _=>d0P os started H enc)
#print axioms phenomReads
end Go.Proofs.YthkdpdpgmhmgoaaGreat
end
