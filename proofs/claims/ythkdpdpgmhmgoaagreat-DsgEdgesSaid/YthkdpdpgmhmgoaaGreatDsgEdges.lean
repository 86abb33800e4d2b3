/- DsgEdges is so of every input: the given statement. Conditions: none beyond the statement itself. -/
import Derived.Test.YthkdpdpgmhmgoaaGreatPF
import Derived.Test.YthkdpdpgmhmgoaaGreatQA

set_option linter.unusedVariables false
set_option linter.unusedSimpArgs false

section
namespace Go.Proofs.YthkdpdpgmhmgoaaGreat
open Go.ChangeShapes Go.WideShapes Go.ChangeAt Go.RowKit Go.Vm Go.Rt
open Go.Proofs (Tryz.prog)
set_option maxRecDepth 100000 in
theorem b9H (os : Os) (started : os.Started) (H : Type) (enc : TypeId × Value → H) :
   ReturnsInHanded {} Tryz.checked os 3 .any (Rows.dsgEdgesSpec.pre6 enc Tryz.prog Tryz.f3 Rows.dsgEdgesRow.domain false) (Rows.dsgEdgesSpec.post enc Tryz.prog Tryz.f3 false true false false) := by
 refine returnsInHanded_of_change (C := Tryz.checked) own started (by kernel_rfl) Tryz.func3
   (ChangeSpec.witness6 (enc := enc) (C := Tryz.checked) false ⟨#[], #[.agg #[.slice none 0 0, .slice none 0 0, .slice none 0 0]], []⟩ 8 (by kernel_rfl) (by kernel_rfl) (by kernel_rfl) (by kernel_rfl)) ?_
 intro W base args ds gs before hval hW hcnd _
 refine c6v (C := Tryz.checked) (S := tset) d2b d1b (fn := Tryz.f3) (ts := [26]) (tb := 4) (spec := Rows.dsgEdgesSpec) rfl (by rw [Tryz.params3]) (by decide) (fun t ht => d3b t (by revert ht; simp only [List.mem_cons, List.not_mem_nil, or_false]; grind)) rfl (by kernel_rfl) ?_ ?_ hval hW
 · intro H ds hl
   match ds, hl with
   | [d1], _ => exact ⟨rfl, rfl, rfl⟩
 · intro css hcss
   obtain ⟨h, hok, hrg, e2⟩ := d4b hcss
   show b1v Tryz.prog true 3 (c8u Tryz.prog [26] css) [] _ []
   rw [e2]
   exact c0l hok hrg
theorem dsgEdges : Rows.DsgEdgesSaid :=
 OpenClaim.holds_of_wide 3 Tryz.f3 rfl rfl rfl rfl rfl rfl rfl ⟨rfl, rfl, rfl, rfl, rfl⟩ rfl rfl rfl rfl rfl b7k Tryz.func3 b0l
   b8k b9k
   (fun os started H enc _ => b9H os started H enc)
#print axioms dsgEdges
end Go.Proofs.YthkdpdpgmhmgoaaGreat
end
