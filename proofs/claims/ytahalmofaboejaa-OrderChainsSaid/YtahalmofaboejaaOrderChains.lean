/- OrderChains is so of every input: the given statement. Conditions: none beyond the statement itself. -/
import Derived.Test.YtahalmofaboejaaPH
import Derived.Test.YtahalmofaboejaaPF

set_option linter.unusedVariables false
set_option linter.unusedSimpArgs false

/- OrderChains is so of every input: the given statement. Conditions: none beyond the statement itself. -/
section
namespace Go.Proofs.Ytahalmofaboejaa
open Go.ChangeShapes Go.WideShapes Go.ChangeAt Go.RowKit Go.Vm Go.Rt
open Go.Proofs (Try.prog)

set_option maxRecDepth 100000 in
theorem orderChains_lifted (os : Os) (started : os.Started) (H : Type) (enc : TypeId × Value → H) :
    ReturnsInHanded {} Try.checked os 5 .any (Rows.orderChainsSpec.pre6 enc Try.prog Try.f5 Rows.orderChainsRow.domain false) (Rows.orderChainsSpec.post enc Try.prog Try.f5 false true false false) := by
  refine returnsInHanded_of_change_sized (C := Try.checked) own started (by kernel_rfl) Try.func5
    (ChangeSpec.witness6 (enc := enc) (C := Try.checked) false ⟨#[], #[.agg #[.slice none 0 0, .slice none 0 0, .slice none 0 0], .agg #[.bool false, .int .i64 0, .string ⟨#[]⟩]], []⟩ 8 (by kernel_rfl) (by kernel_rfl) (by kernel_rfl) (by kernel_rfl)) ?_
  intro W base args ds gs before hval hW hcnd hwt _
  refine law_contract_sized (C := Try.checked) (S := tset) tset_ok laidOut (fn := Try.f5) (ts := [26, 28]) (tb := 4) (spec := Rows.orderChainsSpec) rfl (by rw [Try.params5]) (by decide) (fun t ht => readable t (by revert ht; simp only [List.mem_cons, List.not_mem_nil, or_false]; grind)) rfl (by kernel_rfl) ?_ ?_ hval hW (sz_all (by rw [Try.params5]) hwt)
  · intro H ds hl
    match ds, hl with
    | [d1, d2], _ => exact ⟨rfl, rfl, rfl⟩
  · intro css hcss hsz
    obtain ⟨h, k, hok, hev, e2⟩ := args_hk hcss hsz
    show GSpec Try.prog true 5 (argsT Try.prog [26, 28] css) [] _ []
    rw [e2]
    exact OrderChains_spec hok hev k

theorem orderChains : Rows.OrderChainsSaid :=
  OpenClaim.holds_of_wide 5 Try.f5 rfl rfl rfl rfl rfl rfl rfl ⟨rfl, rfl, rfl, rfl, rfl⟩ rfl rfl rfl rfl rfl (by kernel_rfl) Try.func5 (by kernel_rfl)
    (of_decide_eq_true (by kernel_rfl)) (by unfold Func.isWrapper; first | (rw [if_pos (by decide +kernel)]; kernel_rfl) | (rw [if_neg (by decide +kernel)]; exact ⟨rfl, rfl⟩))
    (fun os started H enc _ => orderChains_lifted os started H enc)
#print axioms orderChains
end Go.Proofs.Ytahalmofaboejaa
end
