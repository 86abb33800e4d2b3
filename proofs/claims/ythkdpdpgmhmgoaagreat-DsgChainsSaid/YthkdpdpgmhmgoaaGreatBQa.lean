/- Contracts of functions of the program, and what they lean on. Conditions: those of each theorem. -/
import Derived.Test.YthkdpdpgmhmgoaaGreatBF

set_option linter.unusedVariables false
set_option linter.unusedSimpArgs false

section
namespace Go.Rt
open Go.Vm
def alB (c : List Vs) (a b : Int) (j : Nat) : Bool := decide (∃ q, q < j ∧ (∃ u, c[q + 1]? = some u ∧ u.txn = a) ∧ ∃ v, c[q + 2]? = some v ∧ v.txn = b)
theorem b4r {c : List Vs} {a b : Int} {j : Nat} {u v : Vs} (hu : c[j + 1]? = some u) (hv : c[j + 2]? = some v) : alB c a b (j + 1) = (alB c a b j || (decide (u.txn = a) && decide (v.txn = b))) := by
 unfold alB
 rw [← Bool.decide_and, ← Bool.decide_or]
 refine decide_eq_decide.2 ⟨?_, ?_⟩
 · rintro ⟨q, hq, g⟩
   rcases Nat.lt_or_ge q j with g' | g'
   · exact .inl ⟨q, g', g⟩
   · have : q = j := by omega
     subst this
     obtain ⟨⟨u', h1, h2⟩, v', h3, h4⟩ := g
     rw [hu] at h1; rw [hv] at h3; cases h1; cases h3
     exact .inr ⟨h2, h4⟩
 · rintro (⟨q, hq, g⟩ | ⟨h1, h2⟩)
   · exact ⟨q, by omega, g⟩
   · exact ⟨j, by omega, ⟨u, hu, h1⟩, v, hv, h2⟩
theorem b5r {α : Type} {p : α → Bool} {l : List α} {i : Nat} {x : α} (h : l[i]? = some x) : ((l.take (i + 1)).filter p).length = ((l.take i).filter p).length + (if p x = true then 1 else 0) := by
 rw [List.take_add_one, h, List.filter_append, List.length_append]
 by_cases hp : p x = true
 · rw [if_pos hp]; simp [hp]
 · rw [if_neg hp]; simp [hp]
set_option maxHeartbeats 16000000 in
theorem b6r {h : Hs} (hok : h.Ok) (hrg : h.Rg) (k : Vl) : b4z prog true n_a5i [h.av, k.av] [] (vb true) [] := by
 refine a5H a5i_is (by simp [Hs.av]) (by decide) rfl ?_
 simp -dsimp [a5i, Hs.av]
 refine a1G c7D (by simp) (by simp) ?_
 simp -dsimp
 refine a1G (c8t hok) (by simp [Hs.av]) (by simp [Hs.av]) ?_
 by_cases hs : SmallP h
 · have hst : ofP (SmallP h) = true := c7Y.2 hs
   have hm := c4n hs
   simp -dsimp [hst]
   refine a1G (b5O hok) (by simp [Hs.av]) (by simp [Hs.av]) ?_
   by_cases hw : b5x h
   · have hwt : ofP (b5x h) = true := c7Y.2 hw
     have h1 := b0r hok hrg hm 26
     have hel := c3A hm
     have hwl := b5L hw k
     have hwa := fun m hm => b6L hw (k := k) (m := m) hm
     have hcl := c4g hw 0 k
     have hev : h.events.length < 2 ^ 40 := by have := hm.1; omega
     have hcn : 1 ≤ (chaB h.events h.order 0 k).length := by rw [a2A hw]; simp
     simp -dsimp [hwt]
     refine d2q h1 (by decide) (by simp [Hs.av]) (by simp [Hs.av]) ?_
     simp -dsimp
     refine d8s (b1X hok hw hev 0 k) rfl (by simp [Hs.av]) (by simp [Hs.av]) (by simp) (by simp) ?_
     generalize a4L h = es at *
     generalize chaB h.events h.order 0 k = c at *
     have hflen : ∀ i, ((es.take i).filter (wwB k)).length ≤ i := fun i => by
       have h1 := List.length_filter_le (wwB k) (es.take i)
       rw [List.length_take] at h1; omega
     simp -dsimp
     refine a8H [2] [] es.length (fun i => ⟨[(10, vi i), (9, vi ((es.take i).filter (wwB k)).length), (8, .iv (.lst 2 (vsC c))), (7, .sl 26 8 0 es.length), (3, .ptr 3 0)],
       [(26, .list 8 (egsC es)), (3, .box (k.cells.map .iv))]⟩) (fun _ => True) ?_ trivial ?_
     · simp
     · intro i hi _
       by_cases hil : i < es.length
       · obtain ⟨m, hx⟩ := c3Z hil
         have hwi := c4Z (n := (i : Int) + 1) (by omega)
         have hc := b5r (p := wwB k) hx
         have hfi := hflen i
         generalize ((es.take i).filter (wwB k)).length = n at *
         have hd : decide (i < es.length) = true := by simpa using hil
         by_cases hb : wwB k m = true
         · rw [if_pos hb] at hc
           obtain ⟨k1, t0, hk⟩ := of_decide_eq_true hb
           obtain ⟨q, u, v, hu, hv, hqu, hqv⟩ := hwa m (List.mem_of_getElem? hx) hb
           have hk3 := Vl.eq_iff.1 hk
           simp -dsimp [a5i_l23, hx, Eg.cells, c2d, hd, k1, t0, hk3]
           have hwn := c4Z (n := (n : Int) + 1) (by omega)
           have hex : alB c m.frm m.to (c.length - 2) = true := by
             unfold alB
             refine decide_eq_true ⟨q, ?_, ⟨u, hu, hqu⟩, v, hv, hqv⟩
             have := (List.getElem?_eq_some_iff.1 hv).1
             omega
           clear hwl hflen hu hv hqu hqv
           refine ⟨hil, ?_⟩
           refine a8H [] [] (c.length - 2) (fun j => ⟨[(12, vi ((j + 2 : Nat) : Int)), (11, vb (alB c m.frm m.to j)), (10, vi i), (9, vi ((n : Int) + 1)), (8, .iv (.lst 2 (vsC c))), (7, .sl 26 8 0 es.length), (3, .ptr 3 0)],
             [(26, .list 8 (egsC es)), (3, .box (k.cells.map .iv))]⟩) (fun _ => True) ?_ trivial ?_
           · have h0 : alB c m.frm m.to 0 = false := by unfold alB; simp
             simp -dsimp [h0, hwn]
           · intro j hj _
             simp -dsimp [a5i_l19]
             refine ⟨fun hlt => ?_, fun hge => ?_⟩
             · obtain ⟨v', hv⟩ : ∃ v, c[j + 2]? = some v := c3Z (by omega)
               obtain ⟨u', hu⟩ : ∃ u, c[j + 1]? = some u := c3Z (by omega)
               have w1 : IntKind.i64.wrap ((j : Int) + 2 - 1) = ((j + 1 : Nat) : Int) := by rw [c4Z (by omega)]; omega
               have w2 : IntKind.i64.wrap ((j : Int) + 2 + 1) = (j : Int) + 1 + 2 := by rw [c4Z (by omega)]; omega
               have t1 : ((j : Int) + 2).toNat = j + 2 := by omega
               have p1 : (0 : Int) ≤ (j : Int) + 2 := by omega
               have hst := b4r (a := m.frm) (b := m.to) hu hv
               cases hA : alB c m.frm m.to j
               · rw [hst, hA]
                 by_cases e1 : u'.txn = m.frm
                 · simp -dsimp [w1, t1, p1, hv, hu, c2d, hx, Eg.cells, hd, e1, w2]
                   exact ⟨by omega, hil, by omega, rfl⟩
                 · simp -dsimp [w1, t1, p1, hv, hu, c2d, hx, Eg.cells, hd, e1, w2]
                   exact ⟨by omega, hil, by omega⟩
               · rw [hst, hA]
                 simp -dsimp [w2]
                 omega
             · have hje : j = c.length - 2 := by omega
               rw [hje, hex]
               simp -dsimp [hwi, hc]
               exact hil
         · rw [if_neg hb] at hc
           have hb3 : ¬(m.kind = 1 ∧ m.table = 0 ∧ m.key.text = k.text ∧ m.key.n = k.n ∧ m.key.s = k.s) := fun g => hb (decide_eq_true ⟨g.1, g.2.1, Vl.eq_iff.2 g.2.2⟩)
           by_cases k1 : m.kind = 1
           · by_cases t0 : m.table = 0
             · simp -dsimp [a5i_l23, hx, Eg.cells, c2d, hd, k1, t0, hwi, hc]
               exact ⟨hil, fun _ => hil, fun a b c => (hb3 ⟨k1, t0, a, b, c⟩).elim⟩
             · simp -dsimp [a5i_l23, hx, Eg.cells, c2d, hd, k1, t0, hwi, hc]
               exact hil
           · simp -dsimp [a5i_l23, hx, Eg.cells, c2d, hd, k1, hwi, hc]
             exact hil
       · have hie : i = es.length := by omega
         subst hie
         rw [List.take_length, hwl]
         simp -dsimp [a5i_l23]
         rw [c4Z (n := (c.length : Int) - 2) (by omega)]
         omega
   · have hwf : ofP (b5x h) = false := c8Y.2 hw
     simp -dsimp [hwf]
 · have hsf : ofP (SmallP h) = false := c8Y.2 hs
   simp -dsimp [hsf]
end Go.Rt
end
