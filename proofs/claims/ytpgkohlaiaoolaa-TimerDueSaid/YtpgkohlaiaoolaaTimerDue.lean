/- TimerDue is so of every input: the given statement. Conditions: none beyond the statement itself. -/
import Derived.Test.YtpgkohlaiaoolaaPD

set_option linter.unusedVariables false
set_option linter.unusedSimpArgs false

/- TimerDue is so of every input: the given statement. Conditions: none beyond the statement itself. -/
section
namespace Go.Proofs.Ytpgkohlaiaoolaa
open Go.ChangeShapes Go.WideShapes Go.ChangeAt Go.RowKit Go.Vm Go.Rt
open Go.Proofs (Try.prog)

set_option maxRecDepth 100000 in
theorem timerDue_lifted (os : Os) (started : os.Started) (H : Type) (enc : TypeId × Value → H) :
    ReturnsInHanded {} Try.checked os 4 .any (Rows.timerDueSpec.pre6 enc Try.prog Try.f4 Rows.timerDueRow.domain false) (Rows.timerDueSpec.post enc Try.prog Try.f4 false true false false) := by
  refine returnsInHanded_of_change (C := Try.checked) own started (by kernel_rfl) Try.func4
    (ChangeSpec.witness6 (enc := enc) (C := Try.checked) false ⟨#[], #[.int .i64 0, .int .i64 0, .slice none 0 0], []⟩ 8 (by kernel_rfl) (by kernel_rfl) (by kernel_rfl) (by kernel_rfl)) ?_
  intro W base args ds gs before hval hW hcnd _
  refine law_contract (C := Try.checked) (S := tset) tset_ok laidOut (fn := Try.f4) (ts := [3, 3, 37]) (tb := 4) (spec := Rows.timerDueSpec) rfl (by rw [Try.params4]) (by decide) (fun t ht => readable t (by revert ht; simp only [List.mem_cons, List.not_mem_nil, or_false]; grind)) rfl (by kernel_rfl) ?_ ?_ hval hW
  · intro H ds hl
    match ds, hl with
    | [d1, d2, d3], _ => exact ⟨rfl, rfl, rfl⟩
  · intro css hcss
    obtain ⟨i, j, l, e2⟩ := args_iil hcss
    show GSpec Try.prog true 4 (argsT Try.prog [3, 3, 37] css) [] _ []
    rw [e2]
    exact TimerDue_spec i j l

theorem timerDue : Rows.TimerDueSaid :=
  OpenClaim.holds_of_wide 4 Try.f4 rfl rfl rfl rfl rfl rfl rfl ⟨rfl, rfl, rfl, rfl, rfl⟩ rfl rfl rfl rfl rfl (by kernel_rfl) Try.func4 (by kernel_rfl)
    (of_decide_eq_true (by kernel_rfl)) (by unfold Func.isWrapper; first | (rw [if_pos (by decide +kernel)]; kernel_rfl) | (rw [if_neg (by decide +kernel)]; exact ⟨rfl, rfl⟩))
    (fun os started H enc _ => timerDue_lifted os started H enc)
#print axioms timerDue
end Go.Proofs.Ytpgkohlaiaoolaa
end
