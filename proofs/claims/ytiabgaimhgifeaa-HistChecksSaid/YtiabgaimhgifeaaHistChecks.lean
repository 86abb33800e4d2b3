/- HistChecks is so of every input: the given statement. Conditions: none beyond the statement itself. -/
import Derived.Test.YtiabgaimhgifeaaPE
import Derived.Test.YtiabgaimhgifeaaRows

set_option linter.unusedVariables false
set_option linter.unusedSimpArgs false

/- HistChecks: the given statement. -/
section
namespace Go.Proofs.Ytiabgaimhgifeaa
open Go.ChangeShapes Go.WideShapes Go.ChangeAt Go.RowKit Go.Vm Go.Rt
open Go.Proofs (Try.prog)

theorem own : ownKnob Try.prog.godebug = none := by kernel_rfl
theorem laidOut : laidOutB Try.prog = true := by kernel_rfl
def tset : List TypeId := [26, 22, 23, 24, 53, 51, 4, 42, 3, 32, 2, 9, 34, 36, 39, 37, 40, 70, 47, 45]
theorem tset_ok : plainSet Try.prog tset = true := by kernel_rfl

theorem args_hs {css : List (List IV)} (h : WfArgs Try.prog [26] css) : ∃ h : Hs, h.Ok ∧ argsT Try.prog [26] css = [h.av] := by
  match css, h with
  | [cs], ⟨⟨f, h1⟩, _⟩ =>
    obtain ⟨h, rfl, hok⟩ := wf_hs h1
    exact ⟨h, hok, by simp only [argsT, show isAggT Try.prog 26 = true from by kernel_rfl]; rfl⟩

set_option maxRecDepth 100000 in
theorem histChecks_lifted (os : Os) (started : os.Started) (H : Type) (enc : TypeId × Value → H) :
    ReturnsInHanded {} Try.checked os 3 .any (Rows.histChecksSpec.pre6 enc Try.prog Try.f3 Rows.histChecksRow.domain false) (Rows.histChecksSpec.post enc Try.prog Try.f3 false true false false) := by
  refine returnsInHanded_of_change (C := Try.checked) own started (by kernel_rfl) Try.func3
    (ChangeSpec.witness6 (enc := enc) (C := Try.checked) false ⟨#[], #[.agg #[.slice none 0 0, .slice none 0 0, .slice none 0 0]], []⟩ 8 (by kernel_rfl) (by kernel_rfl) (by kernel_rfl) (by kernel_rfl)) ?_
  intro W base args ds gs before hval hW hcnd _
  refine law_contract (C := Try.checked) (S := tset) tset_ok laidOut (fn := Try.f3) (ts := [26]) (tb := 4) (spec := Rows.histChecksSpec) rfl (by rw [Try.params3]) (by decide) (fun t ht => ?_) rfl (by kernel_rfl) ?_ ?_ hval hW
  · simp only [List.mem_singleton] at ht; subst ht; exact ⟨by kernel_rfl, of_decide_eq_true (by kernel_rfl)⟩
  · intro H ds hl
    match ds, hl with
    | [d], _ => exact ⟨rfl, rfl, rfl⟩
  · intro css hcss
    obtain ⟨h, hok, e⟩ := args_hs hcss
    show GSpec Try.prog true 3 (argsT Try.prog [26] css) [] _ []
    rw [e]
    exact HistChecks_spec hok

theorem histChecks : Rows.HistChecksSaid :=
  OpenClaim.holds_of_wide 3 Try.f3 rfl rfl rfl rfl rfl rfl rfl ⟨rfl, rfl, rfl, rfl, rfl⟩ rfl rfl rfl rfl rfl (by kernel_rfl) Try.func3 (by kernel_rfl)
    (of_decide_eq_true (by kernel_rfl)) (by unfold Func.isWrapper; first | (rw [if_pos (by decide +kernel)]; kernel_rfl) | (rw [if_neg (by decide +kernel)]; exact ⟨rfl, rfl⟩))
    (fun os started H enc _ => histChecks_lifted os started H enc)
#print axioms histChecks
end Go.Proofs.Ytiabgaimhgifeaa
end
