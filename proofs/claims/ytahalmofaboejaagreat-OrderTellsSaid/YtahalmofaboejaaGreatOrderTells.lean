/- OrderTells is so of every input: the given statement. Conditions: none beyond the statement itself. -/
import Derived.Test.YtahalmofaboejaaGreatPH

set_option linter.unusedVariables false
set_option linter.unusedSimpArgs false

/- OrderTells is so of every input: the given statement. Conditions: none beyond the statement itself. -/
section
namespace Go.Proofs.YtahalmofaboejaaGreat
open Go.ChangeShapes Go.WideShapes Go.ChangeAt Go.RowKit Go.Vm Go.Rt
open Go.Proofs (Tryz.prog)
set_option maxRecDepth 100000 in
theorem orderTells_lifted (os : Os) (started : os.Started) (H : Type) (enc : TypeId × Value → H) :
    ReturnsInHanded {} Tryz.checked os 3 .any (Rows.orderTellsSpec.pre6 enc Tryz.prog Tryz.f3 Rows.orderTellsRow.domain false) (Rows.orderTellsSpec.post enc Tryz.prog Tryz.f3 false true false false) := by
  refine returnsInHanded_of_change (C := Tryz.checked) own started (by kernel_rfl) Tryz.func3
    (ChangeSpec.witness6 (enc := enc) (C := Tryz.checked) false ⟨#[], #[.agg #[.slice none 0 0, .slice none 0 0, .slice none 0 0], .slice none 0 0], []⟩ 8 (by kernel_rfl) (by kernel_rfl) (by kernel_rfl) (by kernel_rfl)) ?_
  intro W base args ds gs before hval hW hcnd _
  refine law_contract (C := Tryz.checked) (S := tset) tset_ok laidOut (fn := Tryz.f3) (ts := [26, 27]) (tb := 4) (spec := Rows.orderTellsSpec) rfl (by rw [Tryz.params3]) (by decide) (fun t ht => readable t (by revert ht; simp only [List.mem_cons, List.not_mem_nil, or_false]; grind)) rfl (by kernel_rfl) ?_ ?_ hval hW
  · intro H ds hl
    match ds, hl with
    | [d1, d2], _ => exact ⟨rfl, rfl, rfl⟩
  · intro css hcss
    obtain ⟨h, l, hok, hl, hp, e2⟩ := args_ha hcss
    show GSpec Tryz.prog true 3 (argsT Tryz.prog [26, 27] css) [] _ []
    rw [e2]
    exact OrderTells_spec hok l hl hp
theorem orderTells : Rows.OrderTellsSaid :=
  OpenClaim.holds_of_wide 3 Tryz.f3 rfl rfl rfl rfl rfl rfl rfl ⟨rfl, rfl, rfl, rfl, rfl⟩ rfl rfl rfl rfl rfl (by kernel_rfl) Tryz.func3 (by kernel_rfl)
    (of_decide_eq_true (by kernel_rfl)) (by unfold Func.isWrapper; first | (rw [if_pos (by decide +kernel)]; kernel_rfl) | (rw [if_neg (by decide +kernel)]; exact ⟨rfl, rfl⟩))
    (fun os started H enc _ => orderTells_lifted os started H enc)
#print axioms orderTells
end Go.Proofs.YtahalmofaboejaaGreat
end
