/- HistCompletes is so of every input: the given statement. Conditions: none beyond the statement itself. -/
import Derived.Test.YtiabgaimhgifeaaPJ

set_option linter.unusedVariables false
set_option linter.unusedSimpArgs false

/- HistCompletes is so of every input: the given statement. Conditions: none beyond the statement itself. -/
section
namespace Go.Proofs.Ytiabgaimhgifeaa
open Go.ChangeShapes Go.WideShapes Go.ChangeAt Go.RowKit Go.Vm Go.Rt
open Go.Proofs (Try.prog)

set_option maxRecDepth 100000 in
theorem histCompletes_lifted (os : Os) (started : os.Started) (H : Type) (enc : TypeId × Value → H) :
    ReturnsInHanded {} Try.checked os 8 .any (Rows.histCompletesSpec.pre6 enc Try.prog Try.f8 Rows.histCompletesRow.domain false) (Rows.histCompletesSpec.post enc Try.prog Try.f8 false true false false) := by
  refine returnsInHanded_of_change_sized (C := Try.checked) own started (by kernel_rfl) Try.func8
    (ChangeSpec.witness6 (enc := enc) (C := Try.checked) false ⟨#[], #[.agg #[.slice none 0 0, .slice none 0 0, .slice none 0 0], .int .i64 0], []⟩ 8 (by kernel_rfl) (by kernel_rfl) (by kernel_rfl) (by kernel_rfl)) ?_
  intro W base args ds gs before hval hW hcnd hwt _
  refine law_contract_sized (C := Try.checked) (S := tset) tset_ok laidOut (fn := Try.f8) (ts := [26, 3]) (tb := 4) (spec := Rows.histCompletesSpec) rfl (by rw [Try.params8]) (by decide) (fun t ht => readable t (by revert ht; simp only [List.mem_cons, List.not_mem_nil, or_false]; grind)) rfl (by kernel_rfl) ?_ ?_ hval hW (sz_all (by rw [Try.params8]) hwt)
  · intro H ds hl
    match ds, hl with
    | [d1, d2], _ => exact ⟨rfl, rfl, rfl⟩
  · intro css hcss hsz
    obtain ⟨h, i, hok, hcols, e2⟩ := args_hs_int_sz hcss hsz
    show GSpec Try.prog true 8 (argsT Try.prog [26, 3] css) [] _ []
    rw [e2]
    exact HistCompletes_spec hok hcols i

theorem histCompletes : Rows.HistCompletesSaid :=
  OpenClaim.holds_of_wide 8 Try.f8 rfl rfl rfl rfl rfl rfl rfl ⟨rfl, rfl, rfl, rfl, rfl⟩ rfl rfl rfl rfl rfl (by kernel_rfl) Try.func8 (by kernel_rfl)
    (of_decide_eq_true (by kernel_rfl)) (by unfold Func.isWrapper; first | (rw [if_pos (by decide +kernel)]; kernel_rfl) | (rw [if_neg (by decide +kernel)]; exact ⟨rfl, rfl⟩))
    (fun os started H enc _ => histCompletes_lifted os started H enc)
#print axioms histCompletes
end Go.Proofs.Ytiabgaimhgifeaa
end
