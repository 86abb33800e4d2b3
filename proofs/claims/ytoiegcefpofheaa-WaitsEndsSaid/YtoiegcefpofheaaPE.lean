/- Contracts of functions of the program, and what they lean on. Conditions: those of each theorem. -/
import Derived.Test.YtoiegcefpofheaaPA
import Derived.Test.YtoiegcefpofheaaPC
import Derived.Test.YtoiegcefpofheaaMD
import Derived.Test.YtoiegcefpofheaaRows

set_option linter.unusedVariables false
set_option linter.unusedSimpArgs false

/- What comes in: numbers, rows of numbers, rows of those. -/
section
namespace Go.Rt
open Go.Vm

theorem wf_int {P : Program} {f : Nat} {t : TypeId} {cs : List IV} {k : IntKind} (hu : P.underlying t = some (.int k)) (h : WfT P f t cs) : ∃ n, cs = [.v (.int k n)] ∧ (Lit.int k n).wf = true := by
  cases f with
  | zero => exact h.elim
  | succ f => simpa only [WfT, hu] using h
theorem wf_slice {P : Program} {f : Nat} {t e n : Nat} {cs : List IV} (hu : P.underlying t = some (.slice e)) (hn : P.cellsOf e = n) (h : WfT P f t cs) : ∃ f', f = f' + 1 ∧ ∃ xs, cs = [.lst n xs] ∧ xs.length < 2 ^ 63 ∧ ∀ x ∈ xs, WfT P f' e x := by
  cases f with
  | zero => exact h.elim
  | succ f =>
    simp only [WfT, hu, hn] at h
    obtain ⟨xs, h1, h2, h3⟩ := h
    exact ⟨f, rfl, xs, h1, Nat.lt_of_le_of_lt h2 (by decide), h3⟩
theorem list_choose {α β : Type} {f : α → β} {Q : α → Prop} : ∀ {xs : List β}, (∀ x, x ∈ xs → ∃ p, Q p ∧ x = f p) → ∃ ps : List α, xs = ps.map f ∧ ∀ p, p ∈ ps → Q p
  | [], _ => ⟨[], rfl, fun _ h => by cases h⟩
  | x :: r, h => by
    obtain ⟨p, h1, rfl⟩ := h x List.mem_cons_self
    obtain ⟨ps, rfl, h3⟩ := list_choose (xs := r) fun y hy => h y (List.mem_cons_of_mem _ hy)
    exact ⟨p :: ps, rfl, fun q hq => by
      rcases List.mem_cons.1 hq with rfl | hq
      · exact h1
      · exact h3 q hq⟩

theorem u3 : prog.underlying 3 = some (.int .i64) := by kernel_rfl
theorem wf_ints {f : Nat} {cs : List IV} (h : WfT prog f 26 cs) : ∃ l : List Int, cs = [intsIV l] ∧ l.length < 2 ^ 63 := by
  obtain ⟨f, rfl, xs, rfl, hl, hx⟩ := wf_slice (P := prog) (t := 26) (e := 3) (n := 1) (by kernel_rfl) (by kernel_rfl) h
  obtain ⟨l, rfl, _⟩ := list_choose (f := fun i : Int => [ci i]) (Q := fun _ => True) (xs := xs) fun x hm => by
    obtain ⟨n, h1, _⟩ := wf_int u3 (hx x hm); exact ⟨n, trivial, h1⟩
  exact ⟨l, rfl, by simpa using hl⟩
theorem wf_rows {f : Nat} {cs : List IV} (h : WfT prog f 22 cs) : ∃ e : List (List Int), cs = [rowsIV e] ∧ e.length < 2 ^ 63 ∧ ∀ l, l ∈ e → l.length < 2 ^ 63 := by
  obtain ⟨f, rfl, xs, rfl, hl, hx⟩ := wf_slice (P := prog) (t := 22) (e := 26) (n := 1) (by kernel_rfl) (by kernel_rfl) h
  obtain ⟨l, rfl, h3⟩ := list_choose (f := fun l : List Int => [intsIV l]) (Q := fun l => l.length < 2 ^ 63) (xs := xs) fun x hm => by
    obtain ⟨n, h1, h2⟩ := wf_ints (hx x hm); exact ⟨n, h2, h1⟩
  exact ⟨l, rfl, by simpa using hl, h3⟩
end Go.Rt
end

/- What the rows of this chapter share. -/
section
namespace Go.Proofs.Ytoiegcefpofheaa
open Go.ChangeShapes Go.WideShapes Go.ChangeAt Go.RowKit Go.Vm Go.Rt
open Go.Proofs (Try.prog)

theorem own : ownKnob Try.prog.godebug = none := by kernel_rfl
theorem laidOut : laidOutB Try.prog = true := by kernel_rfl
def tset : List TypeId := [22, 26, 3, 4]
theorem tset_ok : plainSet Try.prog tset = true := by kernel_rfl
theorem readable : ∀ t ∈ [22, 26, 3], Try.prog.readableRec t = true ∧ t < Try.prog.types.size := by
  intro t ht
  simp only [List.mem_cons, List.not_mem_nil, or_false] at ht
  rcases ht with rfl | rfl | rfl
  · exact ⟨by kernel_rfl, of_decide_eq_true (by kernel_rfl)⟩
  · exact ⟨by kernel_rfl, of_decide_eq_true (by kernel_rfl)⟩
  · exact ⟨by kernel_rfl, of_decide_eq_true (by kernel_rfl)⟩
theorem agg22 : isAggT Try.prog 22 = false := by kernel_rfl
theorem agg26 : isAggT Try.prog 26 = false := by kernel_rfl
theorem agg3 : isAggT Try.prog 3 = false := by kernel_rfl

theorem args_ll {css : List (List IV)} (h : WfArgs Try.prog [26, 26] css) : ∃ (a b : List Int), a.length < 2 ^ 63 ∧ b.length < 2 ^ 63 ∧ argsT Try.prog [26, 26] css = [.iv (intsIV a), .iv (intsIV b)] := by
  match css, h with
  | [cs, ds], ⟨⟨f, h1⟩, ⟨g, h2⟩, _⟩ =>
    obtain ⟨a, rfl, ha⟩ := wf_ints h1
    obtain ⟨b, rfl, hb⟩ := wf_ints h2
    exact ⟨a, b, ha, hb, by simp only [argsT, agg26]; rfl⟩
theorem args_ri {css : List (List IV)} (h : WfArgs Try.prog [22, 3] css) : ∃ (e : List (List Int)) (i : Int), e.length < 2 ^ 63 ∧ argsT Try.prog [22, 3] css = [.iv (rowsIV e), vi i] := by
  match css, h with
  | [cs, ds], ⟨⟨f, h1⟩, ⟨g, h2⟩, _⟩ =>
    obtain ⟨a, rfl, ha, _⟩ := wf_rows h1
    obtain ⟨b, rfl, hb⟩ := wf_int u3 h2
    exact ⟨a, b, ha, by simp only [argsT, agg22, agg3]; rfl⟩
theorem args_r {css : List (List IV)} (h : WfArgs Try.prog [22] css) : ∃ (e : List (List Int)), e.length < 2 ^ 63 ∧ argsT Try.prog [22] css = [.iv (rowsIV e)] := by
  match css, h with
  | [cs], ⟨⟨f, h1⟩, _⟩ =>
    obtain ⟨a, rfl, ha, _⟩ := wf_rows h1
    exact ⟨a, ha, by simp only [argsT, agg22]; rfl⟩
theorem args_ril {css : List (List IV)} (h : WfArgs Try.prog [22, 3, 26] css) : ∃ (e : List (List Int)) (i : Int) (l : List Int), e.length < 2 ^ 63 ∧ l.length < 2 ^ 63 ∧ (Lit.int .i64 i).wf = true ∧ argsT Try.prog [22, 3, 26] css = [.iv (rowsIV e), vi i, .iv (intsIV l)] := by
  match css, h with
  | [cs, ds, es], ⟨⟨f, h1⟩, ⟨g, h2⟩, ⟨k, h3⟩, _⟩ =>
    obtain ⟨a, rfl, ha, _⟩ := wf_rows h1
    obtain ⟨b, rfl, hb⟩ := wf_int u3 h2
    obtain ⟨c, rfl, hc⟩ := wf_ints h3
    exact ⟨a, b, c, ha, hc, hb, by simp only [argsT, agg22, agg26, agg3]; rfl⟩
theorem args_rl {css : List (List IV)} (h : WfArgs Try.prog [22, 26] css) : ∃ (e : List (List Int)) (l : List Int), e.length < 2 ^ 63 ∧ l.length < 2 ^ 63 ∧ argsT Try.prog [22, 26] css = [.iv (rowsIV e), .iv (intsIV l)] := by
  match css, h with
  | [cs, es], ⟨⟨f, h1⟩, ⟨k, h3⟩, _⟩ =>
    obtain ⟨a, rfl, ha, _⟩ := wf_rows h1
    obtain ⟨c, rfl, hc⟩ := wf_ints h3
    exact ⟨a, c, ha, hc, by simp only [argsT, agg22, agg26]; rfl⟩
end Go.Proofs.Ytoiegcefpofheaa
end
