/- WaitsVictims is so of every input: the given statement. Conditions: none beyond the statement itself. -/
import Derived.Test.YtoiegcefpofheaaPD
import Derived.Test.YtoiegcefpofheaaPE

set_option linter.unusedVariables false
set_option linter.unusedSimpArgs false

/- Contract: the statement about victims. -/
section
namespace Go.Rt
open Go.Vm

theorem WaitsVictims_spec (cycle ages : List Int) (h1 : cycle.length < 2 ^ 63) (h2 : ages.length < 2 ^ 63) : GSpec prog true n_ratlinelaw12_WaitsVictims [.iv (intsIV cycle), .iv (intsIV ages)] [] (vb true) [] := by
  refine gspec1 ratlinelaw12_WaitsVictims_is (by simp) (by decide) rfl ?_
  simp -dsimp [ratlinelaw12_WaitsVictims, intsIV]
  refine call_pure awake_spec (by simp) (by simp) ?_
  simp -dsimp
  intro _ _
  refine call_pure (Victim_spec cycle ages h1) (by simp [intsIV]) (by simp) ?_
  simp -dsimp
  refine call_pure (ref12_Victim_spec cycle ages h1) (by simp [intsIV]) (by simp) ?_
  simp -dsimp
end Go.Rt
end

/- WaitsVictims is so of every input: the given statement. Conditions: none beyond the statement itself. -/
section
namespace Go.Proofs.Ytoiegcefpofheaa
open Go.ChangeShapes Go.WideShapes Go.ChangeAt Go.RowKit Go.Vm Go.Rt
open Go.Proofs (Try.prog)

set_option maxRecDepth 100000 in
theorem waitsVictims_lifted (os : Os) (started : os.Started) (H : Type) (enc : TypeId × Value → H) :
    ReturnsInHanded {} Try.checked os 5 .any (Rows.waitsVictimsSpec.pre6 enc Try.prog Try.f5 Rows.waitsVictimsRow.domain false) (Rows.waitsVictimsSpec.post enc Try.prog Try.f5 false true false false) := by
  refine returnsInHanded_of_change (C := Try.checked) own started (by kernel_rfl) Try.func5
    (ChangeSpec.witness6 (enc := enc) (C := Try.checked) false ⟨#[], #[.slice none 0 0, .slice none 0 0], []⟩ 8 (by kernel_rfl) (by kernel_rfl) (by kernel_rfl) (by kernel_rfl)) ?_
  intro W base args ds gs before hval hW hcnd _
  refine law_contract (C := Try.checked) (S := tset) tset_ok laidOut (fn := Try.f5) (ts := [26, 26]) (tb := 4) (spec := Rows.waitsVictimsSpec) rfl (by rw [Try.params5]) (by decide) (fun t ht => readable t (by revert ht; simp only [List.mem_cons, List.not_mem_nil, or_false]; grind)) rfl (by kernel_rfl) ?_ ?_ hval hW
  · intro H ds hl
    match ds, hl with
    | [d1, d2], _ => exact ⟨rfl, rfl, rfl⟩
  · intro css hcss
    obtain ⟨a, b, ha, hb, e2⟩ := args_ll hcss
    show GSpec Try.prog true 5 (argsT Try.prog [26, 26] css) [] _ []
    rw [e2]
    exact WaitsVictims_spec a b ha hb

theorem waitsVictims : Rows.WaitsVictimsSaid :=
  OpenClaim.holds_of_wide 5 Try.f5 rfl rfl rfl rfl rfl rfl rfl ⟨rfl, rfl, rfl, rfl, rfl⟩ rfl rfl rfl rfl rfl (by kernel_rfl) Try.func5 (by kernel_rfl)
    (of_decide_eq_true (by kernel_rfl)) (by unfold Func.isWrapper; first | (rw [if_pos (by decide +kernel)]; kernel_rfl) | (rw [if_neg (by decide +kernel)]; exact ⟨rfl, rfl⟩))
    (fun os started H enc _ => waitsVictims_lifted os started H enc)
#print axioms waitsVictims
end Go.Proofs.Ytoiegcefpofheaa
end
