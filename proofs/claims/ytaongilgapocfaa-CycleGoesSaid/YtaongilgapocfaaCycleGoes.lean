/- CycleGoes is so of every input: the given statement. Conditions: none beyond the statement itself. -/
import Derived.Test.YtaongilgapocfaaPD

set_option linter.unusedVariables false
set_option linter.unusedSimpArgs false

/- CycleGoes is so of every input: the given statement. Conditions: none beyond the statement itself. -/
section
namespace Go.Proofs.Ytaongilgapocfaa
open Go.ChangeShapes Go.WideShapes Go.ChangeAt Go.RowKit Go.Vm Go.Rt
open Go.Proofs (Try.prog)

set_option maxRecDepth 100000 in
theorem cycleGoes_lifted (os : Os) (started : os.Started) (H : Type) (enc : TypeId × Value → H) :
    ReturnsInHanded {} Try.checked os 5 .any (Rows.cycleGoesSpec.pre6 enc Try.prog Try.f5 Rows.cycleGoesRow.domain false) (Rows.cycleGoesSpec.post enc Try.prog Try.f5 false true false false) := by
  refine returnsInHanded_of_change (C := Try.checked) own started (by kernel_rfl) Try.func5
    (ChangeSpec.witness6 (enc := enc) (C := Try.checked) false ⟨#[], #[.slice none 0 0], []⟩ 8 (by kernel_rfl) (by kernel_rfl) (by kernel_rfl) (by kernel_rfl)) ?_
  intro W base args ds gs before hval hW hcnd _
  refine law_contract (C := Try.checked) (S := tset) tset_ok laidOut (fn := Try.f5) (ts := [22]) (tb := 4) (spec := Rows.cycleGoesSpec) rfl (by rw [Try.params5]) (by decide) (fun t ht => readable t (by revert ht; simp only [List.mem_cons, List.not_mem_nil, or_false]; grind)) rfl (by kernel_rfl) ?_ ?_ hval hW
  · intro H ds hl
    match ds, hl with
    | [d1], _ => exact ⟨rfl, rfl, rfl⟩
  · intro css hcss
    obtain ⟨l, e2, hl⟩ := args_e hcss
    show GSpec Try.prog true 5 (argsT Try.prog [22] css) [] _ []
    rw [e2]
    exact CycleGoes_spec l hl

theorem cycleGoes : Rows.CycleGoesSaid :=
  OpenClaim.holds_of_wide 5 Try.f5 rfl rfl rfl rfl rfl rfl rfl ⟨rfl, rfl, rfl, rfl, rfl⟩ rfl rfl rfl rfl rfl (by kernel_rfl) Try.func5 (by kernel_rfl)
    (of_decide_eq_true (by kernel_rfl)) (by unfold Func.isWrapper; first | (rw [if_pos (by decide +kernel)]; kernel_rfl) | (rw [if_neg (by decide +kernel)]; exact ⟨rfl, rfl⟩))
    (fun os started H enc _ => cycleGoes_lifted os started H enc)
#print axioms cycleGoes
end Go.Proofs.Ytaongilgapocfaa
end
