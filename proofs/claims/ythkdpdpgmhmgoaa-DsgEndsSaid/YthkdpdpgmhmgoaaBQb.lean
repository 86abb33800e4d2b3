/- Contracts of functions of the program, and what they lean on. Conditions: those of each theorem. -/
import Derived.Test.YthkdpdpgmhmgoaaBQa

set_option linter.unusedVariables false
set_option linter.unusedSimpArgs false

section
namespace Go.Rt
open Go.Vm
set_option maxHeartbeats 16000000 in
set_option maxRecDepth 20000 in
theorem c8f {h : Hs} (hok : h.Ok) (hrg : h.Rg) : b9l prog true n_a5f [h.av] [] (vb true) [] := by
 refine a9D a5f_is (by simp [Hs.av]) (by decide) rfl ?_
 simp -dsimp [a5f, Hs.av]
 refine a5C b6n (by simp) (by simp) ?_
 simp -dsimp
 refine a5C (c7t hok) (by simp [Hs.av]) (by simp [Hs.av]) ?_
 by_cases hs : SmallP h
 · have hst : ofP (SmallP h) = true := c1z.2 hs
   have hm := c0C hs
   have hE := c7a hok hrg hm 17
   have hel := a4q hm
   have hrise := a1q h
   have hof : ∀ m, m ∈ b2l h → b8r h.events m.frm = 5 ∧ b8r h.events m.to = 5 ∧ m.frm ≠ m.to ∧ (1 ≤ m.kind ∧ m.kind ≤ 5) ∧ m.key.s.size < 2 ^ 63 ∧ (m.cursor = true → m.kind = 2 ∨ m.kind = 4) := by
     intro m hm
     by_cases hw : b1v h
     · obtain ⟨h1, h2⟩ := (b3l hw).1 hm
       obtain ⟨g1, g2, g3, g4, g5⟩ := a8p hw h1
       exact ⟨b4x hw g1, b4x hw g2, h2, g3, b7h (b6l g4), g5⟩
     · rw [b4l hw] at hm; cases hm
   generalize b2l h = es at *
   simp -dsimp [hst]
   refine c8M hE (by decide) (by simp [Hs.av]) (by simp [Hs.av]) ?_
   simp -dsimp
   refine a2E [] [] es.length (fun i => ⟨[(6, vi i), (5, .sl 17 8 0 es.length), (1, .ptr 1 0)], [(17, .list 8 (egsC es)), (1, .box (h.cells.map .iv))]⟩) (fun _ => True) ?_ trivial ?_
   · simp [Hs.cells]
   · intro i hi _
     by_cases hil : i < es.length
     · obtain ⟨m, hx⟩ := c7z hil
       obtain ⟨e1, e2, e3, ⟨e4, e5⟩, e6, e7⟩ := hof m (List.mem_of_getElem? hx)
       have hwi := c8z (n := (i : Int) + 1) (by omega)
       have hd : decide (i < es.length) = true := by simpa using hil
       have c1 := b7u hok m.frm
       have c2 := b7u hok m.to
       rw [e1] at c1
       rw [e2] at c2
       have n4 : ¬m.kind < 1 := by omega
       have n5 : ¬5 < m.kind := by omega
       simp -dsimp [a5f_l19, hx, Eg.cells, b0Q, hd, Hs.cells]
       refine ⟨hil, ?_⟩
       refine a5C c1 (by simp [Hs.av]) (by simp [Hs.av]) ?_
       simp -dsimp [hx, Eg.cells, b0Q, hd, Hs.cells]
       refine ⟨hil, ?_⟩
       refine a5C c2 (by simp [Hs.av]) (by simp [Hs.av]) ?_
       rcases Nat.eq_zero_or_pos i with h0 | h0
       · subst h0
         have w1 : IntKind.i64.wrap 1 = 1 := c8z (by omega)
         simp -dsimp [hx, Eg.cells, b0Q, hd, Hs.cells, e3, n4, n5, w1]
         refine ⟨hil, fun hc => ⟨hil, fun k2 => ⟨hil, ?_, fun _ => hil⟩, fun _ => hil⟩, fun _ => hil⟩
         exact (e7 hc).resolve_left k2
       · obtain ⟨j, rfl⟩ : ∃ j, i = j + 1 := ⟨i - 1, by omega⟩
         obtain ⟨u, hu⟩ : ∃ u, es[j]? = some u := c7z (by omega)
         have hlt : u.lss m = true := by
           obtain ⟨h1, g1⟩ := List.getElem?_eq_some_iff.1 hu
           obtain ⟨h2, g2⟩ := List.getElem?_eq_some_iff.1 hx
           have := List.pairwise_iff_getElem.1 hrise j (j + 1) h1 h2 (by omega)
           rwa [g1, g2] at this
         have hl := b9f u m (hof u (List.mem_of_getElem? hu)).2.2.2.2.1
         rw [hlt] at hl
         have w1 : IntKind.i64.wrap (j : Int) = j := c8z (by omega)
         have w2 : IntKind.i64.wrap ((j : Int) + 1 + 1) = (j : Int) + 1 + 1 := c8z (by omega)
         have hd0 : decide (j < es.length) = true := by simp; omega
         have hlti : (j : Int) + 1 < es.length := by omega
         have t1 : ((j : Int) + 1).toNat = j + 1 := by omega
         have p1 : (0 : Int) ≤ (j : Int) + 1 := by omega
         simp -dsimp [hx, hu, Eg.cells, b0Q, hd, hd0, hlti, t1, p1, w1, Hs.cells, e3, n4, n5]
         refine ⟨by omega, ?_⟩
         refine a5C hl (by simp [Eg.av, Eg.cells]) (by simp [Eg.av]) ?_
         simp -dsimp [hx, Eg.cells, b0Q, hd, hlti, t1, p1, w2, Hs.cells]
         exact ⟨fun hc => ⟨fun k2 => ⟨(e7 hc).resolve_left k2, fun _ => hil⟩, fun _ => hil⟩, fun _ => hil⟩
     · have hie : i = es.length := by omega
       subst hie
       simp -dsimp [a5f_l19]
 · have hsf : ofP (SmallP h) = false := c2z.2 hs
   simp -dsimp [hsf]
end Go.Rt
end
