/- DsgLess is so of every input: the given statement. Conditions: none beyond the statement itself. -/
import Derived.Test.YthkdpdpgmhmgoaaBQa
import Derived.Test.YthkdpdpgmhmgoaaBF

set_option linter.unusedVariables false
set_option linter.unusedSimpArgs false

section
namespace Go.Proofs.Ythkdpdpgmhmgoaa
open Go.ChangeShapes Go.WideShapes Go.ChangeAt Go.RowKit Go.Vm Go.Rt
open Go.Proofs (Try.prog)
set_option maxRecDepth 100000 in
theorem c0M (os : Os) (started : os.Started) (H : Type) (enc : TypeId × Value → H) :
   ReturnsInHanded {} Try.checked os 3 .any (Rows.dsgLessSpec.pre6 enc Try.prog Try.f3 Rows.dsgLessRow.domain false) (Rows.dsgLessSpec.post enc Try.prog Try.f3 false true false false) := by
 refine returnsInHanded_of_change (C := Try.checked) own started (by kernel_rfl) Try.func3
   (ChangeSpec.witness6 (enc := enc) (C := Try.checked) false ⟨#[], #[.agg #[.int .i64 0, .int .i64 0, .int .i64 0, .int .i64 0, .bool false, .int .i64 0, .string ⟨#[]⟩, .bool false], .agg #[.int .i64 0, .int .i64 0, .int .i64 0, .int .i64 0, .bool false, .int .i64 0, .string ⟨#[]⟩, .bool false]], []⟩ 8 (by kernel_rfl) (by kernel_rfl) (by kernel_rfl) (by kernel_rfl)) ?_
 intro W base args ds gs before hval hW hcnd _
 refine c0c (C := Try.checked) (S := tset) b8n b7n (fn := Try.f3) (ts := [25, 25]) (tb := 4) (spec := Rows.dsgLessSpec) rfl (by rw [Try.params3]) (by decide) (fun t ht => b9n t (by revert ht; simp only [List.mem_cons, List.not_mem_nil, or_false]; grind)) rfl (by kernel_rfl) ?_ ?_ hval hW
 · intro H ds hl
   match ds, hl with
   | [d1, d2], _ => exact ⟨rfl, rfl, rfl⟩
 · intro css hcss
   obtain ⟨a, b, ha, hb, e2⟩ := b1o hcss
   show b9l Try.prog true 3 (c2b Try.prog [25, 25] css) [] _ []
   rw [e2]
   exact b0g a b ha hb
theorem dsgLess : Rows.DsgLessSaid :=
 OpenClaim.holds_of_wide 3 Try.f3 rfl rfl rfl rfl rfl rfl rfl ⟨rfl, rfl, rfl, rfl, rfl⟩ rfl rfl rfl rfl rfl (by kernel_rfl) Try.func3 (by kernel_rfl)
   (of_decide_eq_true (by kernel_rfl)) (by unfold Func.isWrapper; first | (rw [if_pos (by decide +kernel)]; kernel_rfl) | (rw [if_neg (by decide +kernel)]; exact ⟨rfl, rfl⟩))
   (fun os started H enc _ => c0M os started H enc)
#print axioms dsgLess
end Go.Proofs.Ythkdpdpgmhmgoaa
end
