/- Contracts of functions of the program, and what they lean on. Conditions: those of each theorem. -/
import Derived.Test.YthkdpdpgmhmgoaaGreatBF
import Derived.Test.YthkdpdpgmhmgoaaGreatBE

set_option linter.unusedVariables false
set_option linter.unusedSimpArgs false

section
namespace Go.Rt
open Go.Vm
theorem d8q {α : Type} {p : α → Bool} : ∀ {l : List α} {i : Nat} {e : α}, (l.filter p)[i]? = some e → ∃ j, l[j]? = some e ∧ p e = true ∧ (l.filter p).take i = (l.take j).filter p
 | [], i, e, h => by simp at h
 | x :: r, i, e, h => by
   by_cases hp : p x = true
   · rw [List.filter_cons_of_pos hp] at h ⊢
     cases i with
     | zero => simp only [List.getElem?_cons_zero, Option.some.injEq] at h; subst h; exact ⟨0, rfl, hp, rfl⟩
     | succ i =>
       rw [List.getElem?_cons_succ] at h
       obtain ⟨j, h1, h2, h3⟩ := d8q h
       exact ⟨j + 1, h1, h2, by rw [List.take_succ_cons, List.take_succ_cons, List.filter_cons_of_pos hp, h3]⟩
   · rw [List.filter_cons_of_neg hp] at h ⊢
     obtain ⟨j, h1, h2, h3⟩ := d8q h
     exact ⟨j + 1, h1, h2, by rw [List.take_succ_cons, List.filter_cons_of_neg hp, h3]⟩
theorem d9q {α : Type} {p q : α → Bool} {l : List α} (h : ∀ e, q e = true → p e = true) : c4p q (l.filter p) = c4p q l := by
 rw [c7p, c7p, ← List.filter_reverse, List.find?_filter]
 congr 1
 funext a
 cases hq : q a
 · simp
 · rw [h a hq]; simp
section
variable {p : Ev → Bool} {es : List Ev}
theorem d0r (h : ∀ e : Ev, e.kind = 3 → p e = true) (txn table : Int) (k : Vl) : c2S (es.filter p) txn table k = c2S es txn table k := by
 unfold c2S
 rw [List.filter_filter]
 congr 2
 funext a
 cases hq : a.isW txn table k
 · simp
 · rw [h a (b7F hq).1]; simp
theorem d1r (h : ∀ e : Ev, e.kind = 5 ∨ e.kind = 6 → p e = true) (txn : Int) : b4k (es.filter p) txn = b4k es txn := by
 induction es with
 | nil => rfl
 | cons x r ih =>
   by_cases hp : p x = true
   · rw [List.filter_cons_of_pos hp, b4k, b4k, ih]
   · rw [List.filter_cons_of_neg hp, ih, b4k, if_neg fun g => hp (h x g.2)]
end
def d2r (es : List Ev) (e : Ev) : Bool := decide (b4k es e.txn = 5) || (decide (e.kind ≠ 2) && decide (e.kind ≠ 4))
def Hs.cut (h : Hs) : Hs := ⟨h.tables, h.events.filter (d2r h.events), h.order⟩
theorem d3r {es : List Ev} {e : Ev} (h : e.kind ≠ 2 ∧ e.kind ≠ 4) : d2r es e = true := by unfold d2r; simp [h.1, h.2]
section
variable {h : Hs}
theorem d4r (hw : b5x h) {t : Int} : ∀ {j : Nat}, c8S (h.events.take j) t → ∃ x, x ∈ h.events.take j ∧ x.txn = t ∧ x.kind = 1
 | 0, hb => by simp at hb
 | j + 1, hb => by
   cases hj : h.events[j]? with
   | none =>
     have : h.events.take (j + 1) = h.events.take j := by rw [List.take_add_one, hj]; simp
     rw [this] at hb ⊢
     exact d4r hw hb
   | some e =>
     rw [c7S hj] at hb ⊢
     rcases c2T.1 hb with hb | rfl
     · obtain ⟨x, h1, h2⟩ := d4r hw hb
       exact ⟨x, List.mem_append_left _ h1, h2⟩
     · by_cases k1 : e.kind = 1
       · exact ⟨e, by simp, rfl, k1⟩
       · obtain ⟨x, h1, h2⟩ := d4r hw ((b4F hw hj).1.1.2.2.2.2.2 k1)
         exact ⟨x, List.mem_append_left _ h1, h2⟩
theorem d5r (es : List Ev) (txn table : Int) (k : Vl) : c2S (es.filter (d2r h.events)) txn table k = c2S es txn table k := d0r (fun e g => d3r (by omega)) txn table k
theorem d6r (es : List Ev) (txn : Int) : b4k (es.filter (d2r h.events)) txn = b4k es txn := d1r (fun e g => d3r (by omega)) txn
theorem d7r (hw : b5x h) : b5x h.cut := by
 refine ⟨hw.1, fun i hi e he => ?_, fun i hi o ho => ?_⟩
 · obtain ⟨j, hj, hp, ht⟩ := d8q (p := d2r h.events) he
   obtain ⟨⟨⟨f1, f2, f3, f4, f5, f6⟩, hR, hW, hP⟩, hI⟩ := b4F hw hj
   show b0x h.cut ((h.events.filter (d2r h.events)).take i) e ∧ b2x h.cut e
   rw [ht]
   have hsub : ∀ {x : Ev}, x ∈ (h.events.take j).filter (d2r h.events) → x ∈ h.events.take j := fun g => (List.mem_filter.1 g).1
   refine ⟨⟨⟨f1, f2, f3, fun x hx => f4 x (hsub hx), fun k1 => ⟨fun ⟨x, hx, g⟩ => (f5 k1).1 ⟨x, hsub hx, g⟩, (f5 k1).2⟩, fun k1 => ?_⟩, fun k2 => ?_, fun k3 => ?_, fun k4 => ?_⟩, fun k3 h5 => ?_⟩
   · obtain ⟨x, h1, h2, h3⟩ := d4r hw (f6 k1)
     exact ⟨x, List.mem_filter.2 ⟨h1, d3r (by omega)⟩, h2⟩
   · have := hR k2
     unfold c5w b9k at this ⊢
     simp only [d5r]
     exact this
   · have := hW k3
     unfold c4w at this ⊢
     simp only [d5r]
     exact this
   · obtain ⟨g1, g2, g3⟩ := hP k4
     refine ⟨g1, fun q hq r hr => ?_, fun x hx => ?_⟩
     · have := g2 q hq r hr
       unfold b9k at this ⊢
       simp only [d5r]
       exact this
     · have := g3 x (hsub hx)
       unfold c7w at this ⊢
       simp only [d5r]
       exact this
   · exact hI k3 (by have := h5; unfold Hs.cut at this; rwa [d6r] at this)
 · obtain ⟨g1, g2, g3⟩ := b5F hw (h := h) ho
   refine ⟨g1, fun q hq t ht => ?_, g3⟩
   have := g2 q hq t ht
   unfold Hs.cut
   rw [d6r, d5r]
   exact this
theorem d8r (table : Int) (k : Vl) (v : Vs) : rowB (h.events.filter (d2r h.events)) table k v = rowB h.events table k v := by
 unfold rowB
 rw [d9q fun e g => d3r (by have := b1p g; omega)]
theorem d9r (table : Int) (k : Vl) : chaB (h.events.filter (d2r h.events)) h.order table k = chaB h.events h.order table k := by
 unfold chaB chnI c1q
 cases c4p (Ins.isO table k) h.order with
 | none => rfl
 | some o =>
   simp only
   congr 2
   funext t
   rw [d9q fun e g => d3r (by have := (b7F g).1; omega)]
theorem d0s (table : Int) (k : Vl) (v : Vs) : plaB (h.events.filter (d2r h.events)) h.order table k v = plaB h.events h.order table k v := by
 unfold plaB; rw [d8r, d9r]
theorem d1s (table : Int) (k : Vl) (i : Int) (p : Pd) : chgB (h.events.filter (d2r h.events)) h.order table k i p = chgB h.events h.order table k i p := by
 unfold chgB hldB; simp only [d8r, d9r]
theorem d2s (e : Ev) : evE h.cut e = evE h e := by
 unfold evE a8K a2L a1L a0L a9K Hs.cut
 simp only [d6r, d0s, d9r, d1s]
theorem d3s {α β : Type} {p : α → Bool} {f : α → List β} (h0 : ∀ x, p x = false → f x = []) : ∀ {l : List α}, (l.filter p).flatMap f = l.flatMap f
 | [] => rfl
 | x :: r => by
   cases hp : p x
   · rw [List.filter_cons_of_neg (by rw [hp]; simp), d3s h0, List.flatMap_cons, h0 x hp, List.nil_append]
   · rw [List.filter_cons_of_pos hp, List.flatMap_cons, d3s h0, List.flatMap_cons]
theorem d4s (hw : b5x h) : a4L h.cut = a4L h := by
 unfold a4L
 rw [if_pos hw, if_pos (d7r hw)]
 congr 1
 unfold a3L
 rw [show evE h.cut = evE h from funext d2s]
 show h.order.flatMap wwE ++ (h.events.filter (d2r h.events)).flatMap (evE h) = _
 rw [d3s fun e he => ?_]
 unfold d2r at he
 unfold evE
 simp only [Bool.or_eq_false_iff, decide_eq_false_iff_not] at he
 rw [if_neg he.1]
theorem d5s (hok : h.Ok) : h.cut.Ok := ⟨hok.tables, Nat.lt_of_le_of_lt (List.length_filter_le _ _) hok.events, hok.order, fun e he => hok.ev e (List.mem_filter.1 he).1, hok.txns, hok.tb, hok.cols⟩
theorem d6s (hrg : h.Rg) : h.cut.Rg := fun e he => hrg e (List.mem_filter.1 he).1
theorem d7s (hm : h.Mid) : h.cut.Mid := ⟨Nat.le_trans (List.length_filter_le _ _) hm.1, hm.2⟩
end
end Go.Rt
end

section
namespace Go.Rt
open Go.Vm
def cBox (h : Hs) (es : List Ev) : Ob := .box [.iv (.lst 1 (tbsC h.tables)), if es = [] then .nil 22 else .sl 49 22 0 es.length, .iv (.lst 5 (insC h.order))]
def cEs (es : List Ev) : Hp := if es = [] then [] else [(49, .list 22 (evsC es))]
abbrev oBox (h : Hs) : Ob := .box [.iv (.lst 1 (tbsC h.tables)), .iv (.lst 22 (evsC h.events)), .iv (.lst 5 (insC h.order))]
theorem b3M (h : Hs) : cBox h [] = .box [.iv (.lst 1 (tbsC h.tables)), .nil 22, .iv (.lst 5 (insC h.order))] := rfl
theorem b4M {h : Hs} {es : List Ev} (he : es ≠ []) : cBox h es = .box [.iv (.lst 1 (tbsC h.tables)), .sl 49 22 0 es.length, .iv (.lst 5 (insC h.order))] := by unfold cBox; rw [if_neg he]
theorem b5M : cEs [] = [] := rfl
theorem b6M {es : List Ev} (he : es ≠ []) : cEs es = [(49, .list 22 (evsC es))] := if_neg he
set_option maxHeartbeats 16000000 in
theorem b7M {h : Hs} (hok : h.Ok) (hrg : h.Rg) : b4z prog true n_a7i [h.av] [] (vb true) [] := by
 refine a5H a7i_is (by simp [Hs.av]) (by decide) rfl ?_
 simp -dsimp [a7i, Hs.av]
 refine a1G c7D (by simp) (by simp) ?_
 simp -dsimp
 refine a1G (c8t hok) (by simp [Hs.av]) (by simp [Hs.av]) ?_
 by_cases hs : SmallP h
 · have hst : ofP (SmallP h) = true := c7Y.2 hs
   have hm := c4n hs
   have hel := hs.events
   simp -dsimp [hst]
   refine Vm.loop_le (b1s _ (id := 5) (cs := [.iv (.lst 1 (tbsC h.tables)), .nil 0, .iv (.lst 5 (insC h.order))]) (ds := [.iv (.lst 1 (tbsC h.tables)), .nil 22, .iv (.lst 5 (insC h.order))]) (by simp) (by simp)) ?_
   refine a8H [] [7, 48] h.events.length (fun i => ⟨[(6, vi i), (5, .ptr 5 0), (1, .ptr 1 0)],
     (5, cBox h ((h.events.take i).filter (d2r h.events))) :: cEs ((h.events.take i).filter (d2r h.events)) ++ [(1, oBox h)]⟩) (fun _ => True) ?_ trivial ?_
   · simp -dsimp [cBox, cEs]
   · intro i hi _
     have hesl : ((h.events.take i).filter (d2r h.events)).length ≤ 60 := by
       have := List.length_filter_le (d2r h.events) (h.events.take i)
       rw [List.length_take] at this; omega
     by_cases hlt : i < h.events.length
     · obtain ⟨e, he⟩ := c3Z hlt
       have hw := c4Z (n := (i : Int) + 1) (by omega)
       have hd : decide (i < h.events.length) = true := by simpa using hlt
       have hn : (h.events.take (i + 1)).filter (d2r h.events) = (h.events.take i).filter (d2r h.events) ++ if d2r h.events e = true then [e] else [] := by
         rw [c7S he, List.filter_append]
         by_cases hk : d2r h.events e = true
         · rw [if_pos hk, List.filter_cons_of_pos hk]; rfl
         · rw [if_neg hk, List.filter_cons_of_neg hk]; rfl
       rw [hn]
       generalize (h.events.take i).filter (d2r h.events) = es at *
       have hC := b1x hok e.txn
       unfold d2r
       by_cases h0 : es = []
       · subst h0
         rw [b3M, b5M, List.cons_append, List.nil_append]
         simp -dsimp [a7i_l16, he, hd]
         refine a1G hC (by simp [Hs.av]) (by simp [Hs.av]) ?_
         by_cases h5 : b4k h.events e.txn = 5
         · simp -dsimp [h5, hw, b4M (h := h) (es := [e]) (by simp), b6M (es := [e]) (by simp), evsC]
           exact hlt
         · by_cases k2 : e.kind = 2
           · simp -dsimp [h5, k2, hw, b3M, b5M]
             exact hlt
           · by_cases k4 : e.kind = 4
             · simp -dsimp [h5, k2, k4, hw, b3M, b5M]
               exact hlt
             · simp -dsimp [h5, k2, k4, hw, b4M (h := h) (es := [e]) (by simp), b6M (es := [e]) (by simp), evsC]
               exact hlt
       · rw [b4M h0, b6M h0]
         simp -dsimp [a7i_l16, he, hd]
         refine a1G hC (by simp [Hs.av]) (by simp [Hs.av]) ?_
         by_cases h5 : b4k h.events e.txn = 5
         · simp -dsimp [h5, hw, b4M (h := h) (es := es ++ [e]) (by simp), b6M (es := es ++ [e]) (by simp), evsC]
           exact ⟨by omega, by omega, hlt⟩
         · by_cases k2 : e.kind = 2
           · simp -dsimp [h5, k2, hw, b4M (h := h) h0, b6M h0]
             exact hlt
           · by_cases k4 : e.kind = 4
             · simp -dsimp [h5, k2, k4, hw, b4M (h := h) h0, b6M h0]
               exact hlt
             · simp -dsimp [h5, k2, k4, hw, b4M (h := h) (es := es ++ [e]) (by simp), b6M (es := es ++ [e]) (by simp), evsC]
               exact ⟨by omega, by omega, hlt⟩
     · have hie : i = h.events.length := by omega
       subst hie
       rw [List.take_length] at hesl ⊢
       have hcut : h.events.filter (d2r h.events) = h.cut.events := rfl
       have hlc : h.cut.events.length ≤ 60 := hesl
       have hE := c7C (a4L h) (a4L h) (by have := c3A (h := h) hm; omega)
       have hWl := b5O hok
       rw [hcut]
       have hA : h.cut.av = .agg [.iv (.lst 1 (tbsC h.tables)), .iv (.lst 22 (evsC h.cut.events)), .iv (.lst 5 (insC h.order))] := rfl
       have htE : List.take h.cut.events.length (evsC h.cut.events) = evsC h.cut.events := List.take_of_length_le (by simp)
       by_cases h0 : h.cut.events = []
       · rw [h0, b3M, b5M, List.cons_append, List.nil_append]
         simp -dsimp [a7i_l16]
         refine a1G hWl (by simp [Hs.av]) (by simp [Hs.av]) ?_
         by_cases hw : b5x h
         · have hwt : ofP (b5x h) = true := c7Y.2 hw
           have g2 := b0r (d5s hok) (d6s hrg) (d7s hm) 59
           rw [d4s hw] at g2
           have g1 := b0r hok hrg hm 61
           simp -dsimp [hwt]
           constructor
           all_goals refine d2q g2 (by decide) (by simp [hA, h0, evsC]) (by simp [hA, h0, evsC]) ?_
           all_goals simp -dsimp
           all_goals refine d2q g1 (by decide) (by simp [Hs.av]) (by simp [Hs.av]) ?_
           all_goals simp -dsimp
           all_goals refine a1G hE (by simp [b7v]) (by simp) ?_
           all_goals simp -dsimp
         · have hwf : ofP (b5x h) = false := c8Y.2 hw
           have g1 := b0r hok hrg hm 55
           rw [a6L hw] at g1
           simp -dsimp [hwf]
           refine d2q g1 (by decide) (by simp [Hs.av]) (by simp [Hs.av]) ?_
           simp -dsimp
       · rw [b4M h0, b6M h0]
         simp -dsimp [a7i_l16]
         refine a1G hWl (by simp [Hs.av]) (by simp [Hs.av]) ?_
         by_cases hw : b5x h
         · have hwt : ofP (b5x h) = true := c7Y.2 hw
           have g2 := b0r (d5s hok) (d6s hrg) (d7s hm) 59
           rw [d4s hw] at g2
           have g1 := b0r hok hrg hm 61
           simp -dsimp [hwt]
           constructor
           all_goals refine d2q g2 (by decide) (by simp [hA, htE]) (by simp [hA, htE]) ?_
           all_goals simp -dsimp
           all_goals refine d2q g1 (by decide) (by simp [Hs.av]) (by simp [Hs.av]) ?_
           all_goals simp -dsimp
           all_goals refine a1G hE (by simp [b7v]) (by simp) ?_
           all_goals simp -dsimp
         · have hwf : ofP (b5x h) = false := c8Y.2 hw
           have g1 := b0r hok hrg hm 55
           rw [a6L hw] at g1
           simp -dsimp [hwf]
           refine d2q g1 (by decide) (by simp [Hs.av]) (by simp [Hs.av]) ?_
           simp -dsimp
 · have hsf : ofP (SmallP h) = false := c8Y.2 hs
   simp -dsimp [hsf]
end Go.Rt
end
