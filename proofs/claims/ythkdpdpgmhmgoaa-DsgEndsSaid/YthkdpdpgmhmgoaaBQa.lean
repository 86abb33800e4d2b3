/- Contracts of functions of the program, and what they lean on. Conditions: those of each theorem. -/
import Derived.Test.YthkdpdpgmhmgoaaBF

set_option linter.unusedVariables false
set_option linter.unusedSimpArgs false

section
namespace Go.Rt
open Go.Vm
theorem b9f (a b : Eg) (ha : a.key.s.size < 2 ^ 63) : b9l prog true n_a7f [a.av, b.av] [] (vb (a.lss b)) [] := by
 refine a9D a7f_is (by simp [Eg.av]) (by decide) rfl ?_
 unfold Eg.lss
 have hs := b3G a.key b.key
 generalize a.key.cmp b.key = c at *
 by_cases h1 : a.frm = b.frm
 · by_cases h2 : a.to = b.to
   · by_cases h3 : a.kind = b.kind
     · by_cases h4 : a.table = b.table
       · simp -dsimp [a7f, Eg.av, Eg.cells, h1, h2, h3, h4]
         refine a5C hs (by simp) (by simp) ?_
         by_cases h5 : c = 0
         · cases hca : a.cursor <;> simp -dsimp [h5]
         · simp -dsimp [h5]
       · simp -dsimp [a7f, Eg.av, Eg.cells, h1, h2, h3, h4]
     · simp -dsimp [a7f, Eg.av, Eg.cells, h1, h2, h3]
   · simp -dsimp [a7f, Eg.av, Eg.cells, h1, h2]
 · simp -dsimp [a7f, Eg.av, Eg.cells, h1]
set_option maxHeartbeats 8000000 in
set_option maxRecDepth 20000 in
theorem b0g (a b : Eg) (ha : a.key.s.size < 2 ^ 63) (hb : b.key.s.size < 2 ^ 63) : b9l prog true n_a4f [a.av, b.av] [] (vb true) [] := by
 refine a9D a4f_is (by simp [Eg.av]) (by decide) rfl ?_
 have l1 := b9f a b ha
 have l2 := b9f b a hb
 have r1 := b2x a b ha
 have r2 := b2x b a hb
 have has := b0j (a := a) (b := b)
 have heq : a = b → a.lss b = false := fun g => by rw [g]; exact b1j b
 have hne : ¬a = b → ¬(a.frm = b.frm ∧ a.to = b.to ∧ a.kind = b.kind ∧ a.table = b.table ∧ a.key.text = b.key.text ∧ a.key.n = b.key.n ∧ a.key.s = b.key.s ∧ a.cursor = b.cursor) := fun h g =>
   h (Eg.eq_iff.2 ⟨g.1, g.2.1, g.2.2.1, g.2.2.2.1, Vl.eq_iff.2 ⟨g.2.2.2.2.1, g.2.2.2.2.2.1, g.2.2.2.2.2.2.1⟩, g.2.2.2.2.2.2.2⟩)
 generalize a.lss b = x at *
 generalize b.lss a = y at *
 simp -dsimp [a4f, Eg.av, Eg.cells]
 refine a5C b6n (by simp) (by simp) ?_
 simp -dsimp
 refine a5C l1 (by simp [Eg.av, Eg.cells]) (by simp [Eg.av]) ?_
 simp -dsimp
 refine a5C l2 (by simp [Eg.av, Eg.cells]) (by simp [Eg.av]) ?_
 simp -dsimp
 refine a5C r1 (by simp [Eg.av, Eg.cells]) (by simp [Eg.av]) ?_
 simp -dsimp
 refine a5C r2 (by simp [Eg.av, Eg.cells]) (by simp [Eg.av]) ?_
 cases x
 · cases y <;> simp -dsimp [Eg.cells]
 · have hy := has rfl
   subst hy
   have hab : ¬a = b := fun g => by have := heq g; cases this
   have := hne hab
   simp -dsimp [Eg.cells]
   exact fun g1 g2 g3 g4 g5 g6 g7 g8 => this ⟨g1, g2, g3, g4, g5, g6, g7, g8⟩
end Go.Rt
end
