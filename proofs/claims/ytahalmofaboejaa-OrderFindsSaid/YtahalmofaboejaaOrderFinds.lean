/- OrderFinds is so of every input: the given statement. Conditions: none beyond the statement itself. -/
import Derived.Test.YtahalmofaboejaaPG
import Derived.Test.YtahalmofaboejaaPF

set_option linter.unusedVariables false
set_option linter.unusedSimpArgs false

/- OrderFinds is so of every input: the given statement. Conditions: none beyond the statement itself. -/
section
namespace Go.Proofs.Ytahalmofaboejaa
open Go.ChangeShapes Go.WideShapes Go.ChangeAt Go.RowKit Go.Vm Go.Rt
open Go.Proofs (Try.prog)

set_option maxRecDepth 100000 in
theorem orderFinds_lifted (os : Os) (started : os.Started) (H : Type) (enc : TypeId × Value → H) :
    ReturnsInHanded {} Try.checked os 4 .any (Rows.orderFindsSpec.pre6 enc Try.prog Try.f4 Rows.orderFindsRow.domain false) (Rows.orderFindsSpec.post enc Try.prog Try.f4 false true false false) := by
  refine returnsInHanded_of_change_sized (C := Try.checked) own started (by kernel_rfl) Try.func4
    (ChangeSpec.witness6 (enc := enc) (C := Try.checked) false ⟨#[], #[.agg #[.slice none 0 0, .slice none 0 0, .slice none 0 0]], []⟩ 8 (by kernel_rfl) (by kernel_rfl) (by kernel_rfl) (by kernel_rfl)) ?_
  intro W base args ds gs before hval hW hcnd hwt _
  refine law_contract_sized (C := Try.checked) (S := tset) tset_ok laidOut (fn := Try.f4) (ts := [26]) (tb := 4) (spec := Rows.orderFindsSpec) rfl (by rw [Try.params4]) (by decide) (fun t ht => readable t (by revert ht; simp only [List.mem_cons, List.not_mem_nil, or_false]; grind)) rfl (by kernel_rfl) ?_ ?_ hval hW (sz_all (by rw [Try.params4]) hwt)
  · intro H ds hl
    match ds, hl with
    | [d1], _ => exact ⟨rfl, rfl, rfl⟩
  · intro css hcss hsz
    obtain ⟨h, hok, hev, e2⟩ := args_h hcss hsz
    show GSpec Try.prog true 4 (argsT Try.prog [26] css) [] _ []
    rw [e2]
    exact OrderFinds_spec hok hev

theorem orderFinds : Rows.OrderFindsSaid :=
  OpenClaim.holds_of_wide 4 Try.f4 rfl rfl rfl rfl rfl rfl rfl ⟨rfl, rfl, rfl, rfl, rfl⟩ rfl rfl rfl rfl rfl (by kernel_rfl) Try.func4 (by kernel_rfl)
    (of_decide_eq_true (by kernel_rfl)) (by unfold Func.isWrapper; first | (rw [if_pos (by decide +kernel)]; kernel_rfl) | (rw [if_neg (by decide +kernel)]; exact ⟨rfl, rfl⟩))
    (fun os started H enc _ => orderFinds_lifted os started H enc)
#print axioms orderFinds
end Go.Proofs.Ytahalmofaboejaa
end
