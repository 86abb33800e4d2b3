/- DsgSerial is so of every input: the given statement. Conditions: none beyond the statement itself. -/
import Derived.Test.YthkdpdpgmhmgoaaGreatBQc
import Derived.Test.YthkdpdpgmhmgoaaGreatBWc0

set_option linter.unusedVariables false
set_option linter.unusedSimpArgs false

section
namespace Go.Proofs.YthkdpdpgmhmgoaaGreat
open Go.ChangeShapes Go.WideShapes Go.ChangeAt Go.RowKit Go.Vm Go.Rt
open Go.Proofs (Tryz.prog)
set_option maxRecDepth 100000 in
theorem d7m (os : Os) (started : os.Started) (H : Type) (enc : TypeId × Value → H) :
   ReturnsInHanded {} Tryz.checked os 5 .any (Rows.dsgSerialSpec.pre6 enc Tryz.prog Tryz.f5 Rows.dsgSerialRow.domain false) (Rows.dsgSerialSpec.post enc Tryz.prog Tryz.f5 false true false false) := by
 refine returnsInHanded_of_change (C := Tryz.checked) own started (by kernel_rfl) Tryz.func5
   (ChangeSpec.witness6 (enc := enc) (C := Tryz.checked) false ⟨#[], #[.agg #[.slice none 0 0, .slice none 0 0, .slice none 0 0]], []⟩ 8 (by kernel_rfl) (by kernel_rfl) (by kernel_rfl) (by kernel_rfl)) ?_
 intro W base args ds gs before hval hW hcnd _
 refine c1y (C := Tryz.checked) (S := tset) d7b d6b (fn := Tryz.f5) (ts := [26]) (tb := 4) (spec := Rows.dsgSerialSpec) rfl (by rw [Tryz.params5]) (by decide) (fun t ht => d8b t (by revert ht; simp only [List.mem_cons, List.not_mem_nil, or_false]; grind)) rfl (by kernel_rfl) ?_ ?_ hval hW
 · intro H ds hl
   match ds, hl with
   | [d1], _ => exact ⟨rfl, rfl, rfl⟩
 · intro css hcss
   obtain ⟨h, hok, hrg, e2⟩ := d0c hcss
   show b4z Tryz.prog true 5 (c3x Tryz.prog [26] css) [] _ []
   rw [e2]
   exact c3n hok hrg
theorem dsgSerial : Rows.DsgSerialSaid :=
 OpenClaim.holds_of_wide 5 Tryz.f5 rfl rfl rfl rfl rfl rfl rfl ⟨rfl, rfl, rfl, rfl, rfl⟩ rfl rfl rfl rfl rfl a0R Tryz.func5 a3R
   a1R a2R
   (fun os started H enc _ => d7m os started H enc)
#print axioms dsgSerial
end Go.Proofs.YthkdpdpgmhmgoaaGreat
end
