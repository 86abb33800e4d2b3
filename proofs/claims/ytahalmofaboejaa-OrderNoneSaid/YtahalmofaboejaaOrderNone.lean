/- OrderNone is so of every input: the given statement. Conditions: none beyond the statement itself. -/
import Derived.Test.YtahalmofaboejaaPF

set_option linter.unusedVariables false
set_option linter.unusedSimpArgs false

/- OrderNone is so of every input: the given statement. Conditions: none beyond the statement itself. -/
section
namespace Go.Proofs.Ytahalmofaboejaa
open Go.ChangeShapes Go.WideShapes Go.ChangeAt Go.RowKit Go.Vm Go.Rt
open Go.Proofs (Try.prog)

set_option maxRecDepth 100000 in
theorem orderNone_lifted (os : Os) (started : os.Started) (H : Type) (enc : TypeId × Value → H) :
    ReturnsInHanded {} Try.checked os 6 .any (Rows.orderNoneSpec.pre6 enc Try.prog Try.f6 Rows.orderNoneRow.domain false) (Rows.orderNoneSpec.post enc Try.prog Try.f6 false true false false) := by
  refine returnsInHanded_of_change (C := Try.checked) own started (by kernel_rfl) Try.func6
    (ChangeSpec.witness6 (enc := enc) (C := Try.checked) false ⟨#[], #[.agg #[.int .i64 0, .int .i64 0, .bool false, .int .i64 0, .string ⟨#[]⟩, .int .i64 0, .int .i64 0, .int .i64 0, .int .i64 0, .int .i64 0, .bool false, .int .i64 0, .string ⟨#[]⟩, .bool false, .int .i64 0, .string ⟨#[]⟩, .slice none 0 0]], []⟩ 8 (by kernel_rfl) (by kernel_rfl) (by kernel_rfl) (by kernel_rfl)) ?_
  intro W base args ds gs before hval hW hcnd _
  refine law_contract (C := Try.checked) (S := tset) tset_ok laidOut (fn := Try.f6) (ts := [59]) (tb := 4) (spec := Rows.orderNoneSpec) rfl (by rw [Try.params6]) (by decide) (fun t ht => readable t (by revert ht; simp only [List.mem_cons, List.not_mem_nil, or_false]; grind)) rfl (by kernel_rfl) ?_ ?_ hval hW
  · intro H ds hl
    match ds, hl with
    | [d1], _ => exact ⟨rfl, rfl, rfl⟩
  · intro css hcss
    obtain ⟨a, e2⟩ := args_a hcss
    show GSpec Try.prog true 6 (argsT Try.prog [59] css) [] _ []
    rw [e2]
    exact OrderNone_spec a

theorem orderNone : Rows.OrderNoneSaid :=
  OpenClaim.holds_of_wide 6 Try.f6 rfl rfl rfl rfl rfl rfl rfl ⟨rfl, rfl, rfl, rfl, rfl⟩ rfl rfl rfl rfl rfl (by kernel_rfl) Try.func6 (by kernel_rfl)
    (of_decide_eq_true (by kernel_rfl)) (by unfold Func.isWrapper; first | (rw [if_pos (by decide +kernel)]; kernel_rfl) | (rw [if_neg (by decide +kernel)]; exact ⟨rfl, rfl⟩))
    (fun os started H enc _ => orderNone_lifted os started H enc)
#print axioms orderNone
end Go.Proofs.Ytahalmofaboejaa
end
