/- DsgChains is so of every input: the given statement. Conditions: none beyond the statement itself. -/
import Derived.Test.YthkdpdpgmhmgoaaGreatBQa
import Derived.Test.YthkdpdpgmhmgoaaGreatBWa0

set_option linter.unusedVariables false
set_option linter.unusedSimpArgs false

section
namespace Go.Proofs.YthkdpdpgmhmgoaaGreat
open Go.ChangeShapes Go.WideShapes Go.ChangeAt Go.RowKit Go.Vm Go.Rt
open Go.Proofs (Tryz.prog)
set_option maxRecDepth 100000 in
theorem b0l (os : Os) (started : os.Started) (H : Type) (enc : TypeId × Value → H) :
   ReturnsInHanded {} Tryz.checked os 4 .any (Rows.dsgChainsSpec.pre6 enc Tryz.prog Tryz.f4 Rows.dsgChainsRow.domain false) (Rows.dsgChainsSpec.post enc Tryz.prog Tryz.f4 false true false false) := by
 refine returnsInHanded_of_change (C := Tryz.checked) own started (by kernel_rfl) Tryz.func4
   (ChangeSpec.witness6 (enc := enc) (C := Tryz.checked) false ⟨#[], #[.agg #[.slice none 0 0, .slice none 0 0, .slice none 0 0], .agg #[.bool false, .int .i64 0, .string ⟨#[]⟩]], []⟩ 8 (by kernel_rfl) (by kernel_rfl) (by kernel_rfl) (by kernel_rfl)) ?_
 intro W base args ds gs before hval hW hcnd _
 refine c1y (C := Tryz.checked) (S := tset) d7b d6b (fn := Tryz.f4) (ts := [26, 33]) (tb := 4) (spec := Rows.dsgChainsSpec) rfl (by rw [Tryz.params4]) (by decide) (fun t ht => d8b t (by revert ht; simp only [List.mem_cons, List.not_mem_nil, or_false]; grind)) rfl (by kernel_rfl) ?_ ?_ hval hW
 · intro H ds hl
   match ds, hl with
   | [d1, d2], _ => exact ⟨rfl, rfl, rfl⟩
 · intro css hcss
   obtain ⟨h, k, hok, hrg, hk, e2⟩ := d1c hcss
   show b4z Tryz.prog true 4 (c3x Tryz.prog [26, 33] css) [] _ []
   rw [e2]
   exact b6r hok hrg k
theorem dsgChains : Rows.DsgChainsSaid :=
 OpenClaim.holds_of_wide 4 Tryz.f4 rfl rfl rfl rfl rfl rfl rfl ⟨rfl, rfl, rfl, rfl, rfl⟩ rfl rfl rfl rfl rfl d8j Tryz.func4 d1k
   d9j d0k
   (fun os started H enc _ => b0l os started H enc)
#print axioms dsgChains
end Go.Proofs.YthkdpdpgmhmgoaaGreat
end
