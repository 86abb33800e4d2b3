/- DsgOthers is so of every input: the given statement. Conditions: none beyond the statement itself. -/
import Derived.Test.YthkdpdpgmhmgoaaGreatBQb
import Derived.Test.YthkdpdpgmhmgoaaGreatBWb0

set_option linter.unusedVariables false
set_option linter.unusedSimpArgs false

section
namespace Go.Proofs.YthkdpdpgmhmgoaaGreat
open Go.ChangeShapes Go.WideShapes Go.ChangeAt Go.RowKit Go.Vm Go.Rt
open Go.Proofs (Tryz.prog)
set_option maxRecDepth 100000 in
theorem c9n (os : Os) (started : os.Started) (H : Type) (enc : TypeId × Value → H) :
   ReturnsInHanded {} Tryz.checked os 6 .any (Rows.dsgOthersSpec.pre6 enc Tryz.prog Tryz.f6 Rows.dsgOthersRow.domain false) (Rows.dsgOthersSpec.post enc Tryz.prog Tryz.f6 false true false false) := by
 refine returnsInHanded_of_change (C := Tryz.checked) own started (by kernel_rfl) Tryz.func6
   (ChangeSpec.witness6 (enc := enc) (C := Tryz.checked) false ⟨#[], #[.agg #[.slice none 0 0, .slice none 0 0, .slice none 0 0]], []⟩ 8 (by kernel_rfl) (by kernel_rfl) (by kernel_rfl) (by kernel_rfl)) ?_
 intro W base args ds gs before hval hW hcnd _
 refine c1y (C := Tryz.checked) (S := tset) d7b d6b (fn := Tryz.f6) (ts := [26]) (tb := 4) (spec := Rows.dsgOthersSpec) rfl (by rw [Tryz.params6]) (by decide) (fun t ht => d8b t (by revert ht; simp only [List.mem_cons, List.not_mem_nil, or_false]; grind)) rfl (by kernel_rfl) ?_ ?_ hval hW
 · intro H ds hl
   match ds, hl with
   | [d1], _ => exact ⟨rfl, rfl, rfl⟩
 · intro css hcss
   obtain ⟨h, hok, hrg, e2⟩ := d0c hcss
   show b4z Tryz.prog true 6 (c3x Tryz.prog [26] css) [] _ []
   rw [e2]
   exact b7M hok hrg
theorem dsgOthers : Rows.DsgOthersSaid :=
 OpenClaim.holds_of_wide 6 Tryz.f6 rfl rfl rfl rfl rfl rfl rfl ⟨rfl, rfl, rfl, rfl, rfl⟩ rfl rfl rfl rfl rfl b3v Tryz.func6 b6v
   b4v b5v
   (fun os started H enc _ => c9n os started H enc)
#print axioms dsgOthers
end Go.Proofs.YthkdpdpgmhmgoaaGreat
end
