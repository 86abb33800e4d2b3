/- DsgEnds is so of every input: the given statement. Conditions: none beyond the statement itself. -/
import Derived.Test.YthkdpdpgmhmgoaaBQb
import Derived.Test.YthkdpdpgmhmgoaaBF

set_option linter.unusedVariables false
set_option linter.unusedSimpArgs false

section
namespace Go.Proofs.Ythkdpdpgmhmgoaa
open Go.ChangeShapes Go.WideShapes Go.ChangeAt Go.RowKit Go.Vm Go.Rt
open Go.Proofs (Try.prog)
set_option maxRecDepth 100000 in
theorem b6V (os : Os) (started : os.Started) (H : Type) (enc : TypeId × Value → H) :
   ReturnsInHanded {} Try.checked os 4 .any (Rows.dsgEndsSpec.pre6 enc Try.prog Try.f4 Rows.dsgEndsRow.domain false) (Rows.dsgEndsSpec.post enc Try.prog Try.f4 false true false false) := by
 refine returnsInHanded_of_change (C := Try.checked) own started (by kernel_rfl) Try.func4
   (ChangeSpec.witness6 (enc := enc) (C := Try.checked) false ⟨#[], #[.agg #[.slice none 0 0, .slice none 0 0, .slice none 0 0]], []⟩ 8 (by kernel_rfl) (by kernel_rfl) (by kernel_rfl) (by kernel_rfl)) ?_
 intro W base args ds gs before hval hW hcnd _
 refine c0c (C := Try.checked) (S := tset) b8n b7n (fn := Try.f4) (ts := [32]) (tb := 4) (spec := Rows.dsgEndsSpec) rfl (by rw [Try.params4]) (by decide) (fun t ht => b9n t (by revert ht; simp only [List.mem_cons, List.not_mem_nil, or_false]; grind)) rfl (by kernel_rfl) ?_ ?_ hval hW
 · intro H ds hl
   match ds, hl with
   | [d1], _ => exact ⟨rfl, rfl, rfl⟩
 · intro css hcss
   obtain ⟨h, hok, hrg, e2⟩ := b0o hcss
   show b9l Try.prog true 4 (c2b Try.prog [32] css) [] _ []
   rw [e2]
   exact c8f hok hrg
theorem dsgEnds : Rows.DsgEndsSaid :=
 OpenClaim.holds_of_wide 4 Try.f4 rfl rfl rfl rfl rfl rfl rfl ⟨rfl, rfl, rfl, rfl, rfl⟩ rfl rfl rfl rfl rfl (by kernel_rfl) Try.func4 (by kernel_rfl)
   (of_decide_eq_true (by kernel_rfl)) (by unfold Func.isWrapper; first | (rw [if_pos (by decide +kernel)]; kernel_rfl) | (rw [if_neg (by decide +kernel)]; exact ⟨rfl, rfl⟩))
   (fun os started H enc _ => b6V os started H enc)
#print axioms dsgEnds
end Go.Proofs.Ythkdpdpgmhmgoaa
end
