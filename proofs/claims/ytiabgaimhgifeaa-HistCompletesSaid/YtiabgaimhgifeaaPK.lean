/- Contracts of functions of the program, and what they lean on. Conditions: those of each theorem. -/
import Derived.Test.YtiabgaimhgifeaaMD

set_option linter.unusedVariables false
set_option linter.unusedSimpArgs false

/- A slice that is nil is one of any make. -/
section
namespace Go.Vm

@[simp] theorem ev_nilc {s : St} : s.ev (.const (.slice none 0 0)) = .nil 0 := rfl

def nilLe : List AV → List AV → Prop
  | [], [] => True
  | x :: r, y :: q => (x = y ∨ ∃ a b, x = .nil a ∧ y = .nil b) ∧ nilLe r q
  | _, _ => False
@[simp] theorem nilLe_nil : nilLe [] [] ↔ True := ⟨fun h => h, fun h => h⟩
@[simp] theorem nilLe_cons {x y : AV} {r q : List AV} : nilLe (x :: r) (y :: q) ↔ (x = y ∨ ∃ a b, x = .nil a ∧ y = .nil b) ∧ nilLe r q := ⟨fun h => h, fun h => h⟩
theorem nilLe_at : ∀ {cs ds : List AV}, nilLe cs ds → ds.length = cs.length ∧ ∀ (i : Nat) y, ds[i]? = some y → cs[i]? = some y ∨ ∃ a b, cs[i]? = some (.nil a) ∧ y = .nil b
  | [], [], _ => ⟨rfl, fun i y h => by simp at h⟩
  | x :: r, y :: q, h => by
    obtain ⟨g1, g2⟩ := nilLe_at h.2
    refine ⟨by simp [g1], fun i z hz => ?_⟩
    cases i with
    | zero =>
      simp only [List.getElem?_cons_zero, Option.some.injEq] at hz ⊢
      subst hz
      exact h.1
    | succ i => simpa using g2 i z (by simpa using hz)
  | [], _ :: _, h => h.elim
  | _ :: _, [], h => h.elim

theorem le_nils (s : St) {id : Nat} {cs ds : List AV} (ho : look s.hp id = some (.box cs)) (h : nilLe cs ds) : Le s (s.add id (.box ds)) := by
  obtain ⟨h1, h2⟩ := nilLe_at h
  rintro E n a w ⟨ψ, hs⟩
  obtain ⟨b, c, e, q1, q2, q3, q4⟩ := hs.obs id _ ho
  refine ⟨ψ, hs.chg (o' := .box ds) (k := (0, c.size)) ho (Ob.le_none rfl) rfl (by simp [Ob.multi]) q1 (fun _ _ => rfl) rfl ⟨rfl, rfl, rfl⟩
    (fun hm _ => ⟨b, c, e, q1, q2, by rw [q3, h1], fun i x hx => ?_⟩)⟩
  rcases h2 i x hx with g | ⟨a', b', g, rfl⟩
  · exact hm _ _ (q4 i x g)
  · have := hm _ _ (q4 i _ g)
    generalize c.getD i undef = v at this
    cases this
    exact .nil b'

theorem loop_le {P : Program} {c : VCode} {s s' : St} {O : Outs} (h : Le s s') (k : loopW P c s' O) : loopW P c s O := by
  obtain ⟨I, ⟨k, s2, h2, h3⟩, h4⟩ := k
  exact ⟨I, ⟨k, s2, h.trans h2, h3⟩, h4⟩
end Go.Vm
end
