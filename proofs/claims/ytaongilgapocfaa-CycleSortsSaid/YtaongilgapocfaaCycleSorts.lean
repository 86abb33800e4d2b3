/- CycleSorts is so of every input: the given statement. Conditions: none beyond the statement itself. -/
import Derived.Test.YtaongilgapocfaaPE
import Derived.Test.YtaongilgapocfaaPD

set_option linter.unusedVariables false
set_option linter.unusedSimpArgs false

/- CycleSorts is so of every input: the given statement. Conditions: none beyond the statement itself. -/
section
namespace Go.Proofs.Ytaongilgapocfaa
open Go.ChangeShapes Go.WideShapes Go.ChangeAt Go.RowKit Go.Vm Go.Rt
open Go.Proofs (Try.prog)

set_option maxRecDepth 100000 in
theorem cycleSorts_lifted (os : Os) (started : os.Started) (H : Type) (enc : TypeId × Value → H) :
    ReturnsInHanded {} Try.checked os 6 .any (Rows.cycleSortsSpec.pre6 enc Try.prog Try.f6 Rows.cycleSortsRow.domain false) (Rows.cycleSortsSpec.post enc Try.prog Try.f6 false true false false) := by
  refine returnsInHanded_of_change (C := Try.checked) own started (by kernel_rfl) Try.func6
    (ChangeSpec.witness6 (enc := enc) (C := Try.checked) false ⟨#[], #[.slice none 0 0, .slice none 0 0], []⟩ 8 (by kernel_rfl) (by kernel_rfl) (by kernel_rfl) (by kernel_rfl)) ?_
  intro W base args ds gs before hval hW hcnd _
  refine law_contract (C := Try.checked) (S := tset) tset_ok laidOut (fn := Try.f6) (ts := [22, 32]) (tb := 4) (spec := Rows.cycleSortsSpec) rfl (by rw [Try.params6]) (by decide) (fun t ht => readable t (by revert ht; simp only [List.mem_cons, List.not_mem_nil, or_false]; grind)) rfl (by kernel_rfl) ?_ ?_ hval hW
  · intro H ds hl
    match ds, hl with
    | [d1, d2], _ => exact ⟨rfl, rfl, rfl⟩
  · intro css hcss
    obtain ⟨l, r, e2, hl, hr⟩ := args_el hcss
    show GSpec Try.prog true 6 (argsT Try.prog [22, 32] css) [] _ []
    rw [e2]
    exact CycleSorts_spec l hl r hr

theorem cycleSorts : Rows.CycleSortsSaid :=
  OpenClaim.holds_of_wide 6 Try.f6 rfl rfl rfl rfl rfl rfl rfl ⟨rfl, rfl, rfl, rfl, rfl⟩ rfl rfl rfl rfl rfl (by kernel_rfl) Try.func6 (by kernel_rfl)
    (of_decide_eq_true (by kernel_rfl)) (by unfold Func.isWrapper; first | (rw [if_pos (by decide +kernel)]; kernel_rfl) | (rw [if_neg (by decide +kernel)]; exact ⟨rfl, rfl⟩))
    (fun os started H enc _ => cycleSorts_lifted os started H enc)
#print axioms cycleSorts
end Go.Proofs.Ytaongilgapocfaa
end
