/- Contracts of functions of the program, and what they lean on. Conditions: those of each theorem. -/
import Derived.Test.YthkdpdpgmhmgoaaGreatBF

set_option linter.unusedVariables false
set_option linter.unusedSimpArgs false

section
namespace Go.Rt
open Go.Vm
def nwB (es : List Ev) (own table : Int) (k : Vl) (e : Ev) : Bool := (decide (e.kind = 3) && decide (e.table = table) && decide (e.key = k)) && (decide (b4k es e.txn = 5) || decide (e.txn = own))
def newV (h : Hs) (i : Nat) (own table : Int) (k : Vl) : Vs := ((c4p (nwB h.events own table k) (h.events.take i)).map fun e => (⟨e.txn, e.n⟩ : Vs)).getD ⟨0, 0⟩
structure SerialP (h : Hs) : Prop where
 one : ∀ (i : Nat) (a b : Ev), h.events[i]? = some a → h.events[i + 1]? = some b → ¬b.txn < a.txn
 two : ∀ o, o ∈ h.order → ∀ (i : Nat) (a b : Int), o.txns[i]? = some a → o.txns[i + 1]? = some b → ¬b < a
 read : ∀ (i : Nat) (e : Ev), h.events[i]? = some e → e.kind = 2 → newV h i e.txn e.table e.key = e.frm
 pred : ∀ (i : Nat) (e : Ev), h.events[i]? = some e → e.kind = 4 → ∀ o, o ∈ h.order → o.table = e.table → newV h i e.txn e.table o.key = a7K e.refs o.key
theorem d6f {l : List Int} (h : ∀ (i : Nat) (a b : Int), l[i]? = some a → l[i + 1]? = some b → ¬b < a) : ∀ (d i : Nat) (a b : Int), l[i]? = some a → l[i + d]? = some b → a ≤ b
 | 0, i, a, b, ha, hb => by rw [Nat.add_zero, ha] at hb; cases hb; omega
 | d + 1, i, a, b, ha, hb => by
   obtain ⟨c, hc⟩ : ∃ c, l[i + d]? = some c := c3Z (by have := (List.getElem?_eq_some_iff.1 hb).1; omega)
   have h1 := d6f h d i a c ha hc
   have h2 := h (i + d) c b hc hb
   omega
section
variable {h : Hs}
theorem d7f (hs : SerialP h) {i j : Nat} (hij : i ≤ j) {a b : Ev} (ha : h.events[i]? = some a) (hb : h.events[j]? = some b) : a.txn ≤ b.txn := by
 refine d6f (l := h.events.map Ev.txn) (fun i a b ha hb => ?_) (j - i) i a.txn b.txn (by rw [List.getElem?_map, ha]; rfl) (by rw [List.getElem?_map, show i + (j - i) = j by omega, hb]; rfl)
 rw [List.getElem?_map, Option.map_eq_some_iff] at ha hb
 obtain ⟨x, hx, rfl⟩ := ha
 obtain ⟨y, hy, rfl⟩ := hb
 exact hs.one i x y hx hy
theorem d8f {p : Ev → Bool} : ∀ (r : List Ev) {q : Nat} {x : Ev}, r.reverse[q]? = some x → p x = true → ∃ j y, q ≤ j ∧ r.reverse[j]? = some y ∧ c4p p r.reverse = some y
 | [], q, x, hx, _ => by simp at hx
 | e :: r, q, x, hx, hp => by
   rw [List.reverse_cons] at hx ⊢
   have ih := fun {q x} => d8f (p := p) r (q := q) (x := x)
   generalize r.reverse = l at *
   rw [c5p]
   by_cases he : p e = true
   · rw [if_pos he]
     have hq := (List.getElem?_eq_some_iff.1 hx).1
     rw [List.length_append, List.length_singleton] at hq
     exact ⟨l.length, e, by omega, by simp, rfl⟩
   · rw [if_neg he]
     by_cases hq : q < l.length
     · rw [List.getElem?_append_left hq] at hx
       obtain ⟨j, y, h1, h2, h3⟩ := ih hx hp
       exact ⟨j, y, h1, by rw [List.getElem?_append_left (List.getElem?_eq_some_iff.1 h2).1]; exact h2, h3⟩
     · have hq2 := (List.getElem?_eq_some_iff.1 hx).1
       rw [List.length_append, List.length_singleton] at hq2
       have : q = l.length := by omega
       subst this
       rw [List.getElem?_concat_length] at hx
       cases hx
       exact (he hp).elim
theorem d9f {p : Ev → Bool} {l : List Ev} {q : Nat} {x : Ev} (hx : l[q]? = some x) (hp : p x = true) : ∃ j y, q ≤ j ∧ l[j]? = some y ∧ c4p p l = some y := by
 have := d8f (p := p) l.reverse (q := q) (x := x)
 rw [List.reverse_reverse] at this
 exact this hx hp
theorem d0g (hw : b5x h) (hs : SerialP h) {i : Nat} {e : Ev} (he : h.events[i]? = some e) {table : Int} {k : Vl} : (newV h i e.txn table k).txn ≤ e.txn := by
 unfold newV
 cases hl : c4p (nwB h.events e.txn table k) (h.events.take i) with
 | none => have := c1g hw (List.mem_of_getElem? he); simp; omega
 | some x =>
   obtain ⟨j, hj⟩ := List.getElem?_of_mem (c9p hl).1
   rw [List.getElem?_take] at hj
   split at hj
   · rename_i hji
     exact d7f hs (Nat.le_of_lt hji) hj he
   · cases hj
theorem d1g (hs : SerialP h) {i : Nat} {e : Ev} (he : h.events[i]? = some e) {table : Int} {k : Vl} {x : Ev} (hx : x ∈ h.events) (h3 : x.kind = 3) (ht : x.table = table) (hk : x.key = k)
   (hc : b4k h.events x.txn = 5) (hlt : x.txn < e.txn) : x.txn ≤ (newV h i e.txn table k).txn := by
 obtain ⟨q, hq⟩ := List.getElem?_of_mem hx
 have hqi : q < i := by
   rcases Nat.lt_or_ge q i with g | g
   · exact g
   · have := d7f hs g he hq; omega
 obtain ⟨j, y, h1, h2, h3⟩ := d9f (p := nwB h.events e.txn table k) (l := h.events.take i) (q := q) (x := x) (by rw [List.getElem?_take, if_pos hqi]; exact hq)
   (by unfold nwB; simp [h3, ht, hk, hc])
 unfold newV
 rw [h3]
 rw [List.getElem?_take] at h2
 split at h2
 · exact d7f hs h1 hq h2
 · cases h2
theorem d2g (hw : b5x h) (hs : SerialP h) {table : Int} {k : Vl} {i j : Nat} (hij : i ≤ j) {u v : Vs} (hu : (chaB h.events h.order table k)[i]? = some u) (hv : (chaB h.events h.order table k)[j]? = some v) : u.txn ≤ v.txn := by
 refine d6f (l := (chaB h.events h.order table k).map Vs.txn) (fun i a b ha hb => ?_) (j - i) i u.txn v.txn (by rw [List.getElem?_map, hu]; rfl) (by rw [List.getElem?_map, show i + (j - i) = j by omega, hv]; rfl)
 have hc := a2A hw (table := table) (k := k)
 rw [hc, List.map_cons, List.map_map] at ha hb
 have hid : (fun t => (⟨t, (c2S h.events t table k : Int)⟩ : Vs).txn) = id := rfl
 have hid2 : (Vs.txn ∘ fun t => (⟨t, (c2S h.events t table k : Int)⟩ : Vs)) = id := rfl
 rw [hid2, List.map_id] at ha hb
 rw [List.getElem?_cons_succ] at hb
 cases i with
 | zero =>
   simp only [List.getElem?_cons_zero, Option.some.injEq] at ha
   subst ha
   have := a5A hw (List.mem_of_getElem? hb)
   show ¬b < 0
   omega
 | succ i =>
   rw [List.getElem?_cons_succ] at ha
   unfold tsB at ha hb
   cases ho : c4p (Ins.isO table k) h.order with
   | none => rw [ho] at ha; simp at ha
   | some o =>
     rw [ho] at ha hb
     exact hs.two o (c9p ho).1 i a b ha hb
theorem d3g (hw : b5x h) (hs : SerialP h) {table : Int} {k : Vl} {i j : Nat} (hij : i < j) {u v : Vs} (hu : (chaB h.events h.order table k)[i]? = some u) (hv : (chaB h.events h.order table k)[j]? = some v) : u.txn < v.txn := by
 have h1 := d2g hw hs (Nat.le_of_lt hij) hu hv
 rcases Int.lt_or_eq_of_le h1 with g | g
 · exact g
 · exfalso
   have hc := a2A hw (table := table) (k := k)
   rw [hc] at hu hv
   obtain ⟨j, rfl⟩ : ∃ j', j = j' + 1 := ⟨j - 1, by omega⟩
   rw [List.getElem?_cons_succ, List.getElem?_map, Option.map_eq_some_iff] at hv
   obtain ⟨b, hb, rfl⟩ := hv
   cases i with
   | zero =>
     simp only [List.getElem?_cons_zero, Option.some.injEq] at hu
     subst hu
     have := a5A hw (List.mem_of_getElem? hb)
     simp only at g
     omega
   | succ i =>
     rw [List.getElem?_cons_succ, List.getElem?_map, Option.map_eq_some_iff] at hu
     obtain ⟨a, ha, rfl⟩ := hu
     simp only at g
     subst g
     obtain ⟨g1, e1⟩ := List.getElem?_eq_some_iff.1 ha
     obtain ⟨g2, e2⟩ := List.getElem?_eq_some_iff.1 hb
     have := (List.getElem_inj (a3A hw (table := table) (k := k))).1 (e1.trans e2.symm)
     omega
theorem d4g {table : Int} {k : Vl} {v : Vs} {p : Int} (hp : plaB h.events h.order table k v = p) (h0 : 0 ≤ p) : ∃ x, (chaB h.events h.order table k)[p.toNat]? = some x ∧ x.txn = v.txn := by
 unfold plaB at hp
 split at hp
 · omega
 · rcases b0M (fun x : Vs => decide (x.txn = v.txn)) (chaB h.events h.order table k) with ⟨i, x, g1, g2, g3, _⟩ | ⟨_, g⟩
   · rw [g3] at hp
     subst hp
     exact ⟨x, by simpa using g1, of_decide_eq_true g2⟩
   · omega
theorem d5g (hw : b5x h) (hs : SerialP h) {i : Nat} {e : Ev} (he : h.events[i]? = some e) {table : Int} {k : Vl} {v : Vs} (hv : newV h i e.txn table k = v) {p : Int} (hp : plaB h.events h.order table k v = p) (h0 : 0 ≤ p)
   {j : Nat} (hj : p < j) {u : Vs} (hu : (chaB h.events h.order table k)[j]? = some u) : e.txn ≤ u.txn := by
 rcases Int.lt_or_le u.txn e.txn with g | g
 · exfalso
   obtain ⟨x, hx, hxt⟩ := d4g hp h0
   have hlt := d3g hw hs (i := p.toNat) (j := j) (by omega) hx hu
   obtain ⟨hc, _, w, hwm, hw1, hw2, hw3, hw4⟩ := a0M hw hu (by omega)
   have h5 : b4k h.events w.txn = 5 := by rw [hw1]; exact a0A hw hc
   have := d1g hs he hwm hw2 hw3 hw4 h5 (by rw [hw1]; exact g)
   rw [hv, hw1] at this
   omega
 · exact g
theorem ahead (hw : b5x h) (hs : SerialP h) {i : Nat} {e : Ev} (he : h.events[i]? = some e) {table : Int} {k : Vl} {v : Vs} (hv : newV h i e.txn table k = v) : v.txn ≤ e.txn := by
 rw [← hv]; exact d0g hw hs he
theorem d6g (hw : b5x h) (hs : SerialP h) {m : Eg} (hm : m ∈ a4L h) : m.frm < m.to := by
 obtain ⟨hm, hne⟩ := (a5L hw).1 hm
 have key : m.frm ≤ m.to := by
   unfold a3L at hm
   rw [List.mem_append, List.mem_flatMap, List.mem_flatMap] at hm
   rcases hm with ⟨o, ho, hm⟩ | ⟨e, he, hm⟩
   · obtain ⟨i, a, b, ha, hb, rfl⟩ := a7L.1 hm
     have := hs.two o ho i a b ha hb
     show a ≤ b
     omega
   · obtain ⟨i, hi⟩ := List.getElem?_of_mem he
     unfold evE at hm
     split at hm
     · split at hm
       · rename_i k2
         have hr := hs.read i e hi k2
         unfold a8K at hm
         rw [List.mem_append] at hm
         rcases hm with hm | hm
         · unfold rd1 at hm
           split at hm
           · rw [List.mem_singleton] at hm
             subst hm
             exact ahead hw hs hi hr
           · cases hm
         · unfold rd2 at hm
           split at hm
           · rename_i hp
             rw [List.mem_singleton] at hm
             subst hm
             obtain ⟨u, hu⟩ : ∃ u, (chaB h.events h.order e.table e.key)[(plaB h.events h.order e.table e.key e.frm + 1).toNat]? = some u := c3Z (by omega)
             rw [hu]
             exact d5g hw hs hi hr rfl hp.1 (by omega) hu
           · cases hm
       · split at hm
         · rename_i k4
           unfold a2L at hm
           rw [List.mem_flatMap] at hm
           obtain ⟨o, ho, hm⟩ := hm
           unfold a1L at hm
           split at hm
           · rename_i ht
             have hr := hs.pred i e hi k4 o ho ht
             unfold a0L at hm
             split at hm
             · cases hm
             · rename_i hp
               rw [mem_range] at hm
               obtain ⟨j, hj, hm⟩ := hm
               unfold a9K at hm
               split at hm
               · obtain ⟨u, hu⟩ := c3Z hj
                 rw [List.mem_singleton, hu] at hm
                 split at hm
                 · rename_i hjp
                   subst hm
                   obtain ⟨x, hx, hxt⟩ := d4g (h := h) (table := e.table) (k := o.key) (v := a7K e.refs o.key) rfl (by omega)
                   have h1 := d2g hw hs (i := j) (by omega) hu hx
                   have h2 := ahead hw hs hi hr
                   show u.txn ≤ e.txn
                   omega
                 · rename_i hjp
                   subst hm
                   exact d5g hw hs hi hr rfl (by omega) (by omega) hu
               · cases hm
           · cases hm
         · cases hm
     · cases hm
 omega
end
end Go.Rt
end

section
namespace Go.Rt
open Go.Vm
theorem d6o {h : Hs} {i : Nat} {e : Ev} (he : h.events[i]? = some e) (own table : Int) (k : Vl) : newV h (i + 1) own table k = if nwB h.events own table k e = true then ⟨e.txn, e.n⟩ else newV h i own table k := by
 unfold newV
 rw [c7S he, c5p]
 by_cases hb : nwB h.events own table k e = true
 · rw [if_pos hb, if_pos hb]; rfl
 · rw [if_neg hb, if_neg hb]
set_option maxHeartbeats 16000000 in
set_option maxRecDepth 20000 in
theorem d7o {h : Hs} (hok : h.Ok) {a : Nat} {e0 : Ev} (ha : h.events[a]? = some e0) (table : Int) (k : Vl) : b4z prog false n_a2j [h.av, vi a, vi table, k.av] [] (.agg ((newV h a e0.txn table k).cells.map .iv)) [(8, .box ((newV h a e0.txn table k).cells.map .iv))] := by
 refine b3o [4, 7, 9] 8 (newV h a e0.txn table k).cells rfl a2j_is (by simp [Hs.av]) (by decide) ?_
 have hal := (List.getElem?_eq_some_iff.1 ha).1
 have hev := hok.events
 simp -dsimp [c8m, Hs.av]
 refine a8H [] [11] a (fun i => ⟨[(10, vi i), (9, .ptr 9 0), (8, .ptr 8 0), (7, .ptr 7 0), (4, .ptr 4 0), (1, vi a), (2, vi table)],
   [(9, .box ((newV h i e0.txn table k).cells.map .iv)), (8, .box [vi 0, vi 0]), (7, .box (k.cells.map .iv)), (4, .box (h.cells.map .iv))]⟩) (fun _ => True) ?_ trivial ?_
 · have h0 : newV h 0 e0.txn table k = ⟨0, 0⟩ := rfl
   rw [h0]
   simp [Vs.cells, Hs.cells]
 · intro i hi _
   by_cases hlt : i < a
   · obtain ⟨e, he⟩ : ∃ e, h.events[i]? = some e := c3Z (by omega)
     have hw := c4Z (n := (i : Int) + 1) (by omega)
     have hst := d6o he e0.txn table k
     have hC := b1x hok e.txn
     rw [hst]
     generalize newV h i e0.txn table k = v at *
     unfold nwB
     have hda : decide (a < h.events.length) = true := by simp; omega
     have hd : decide (i < h.events.length) = true := by simp; omega
     simp -dsimp [a2j_l9, Hs.cells, he, hd, hlt]
     refine a1G hC (by simp [Hs.av]) (by simp [Hs.av]) ?_
     by_cases k3 : e.kind = 3
     · by_cases tb : e.table = table
       · by_cases hk : e.key = k
         · have hk3 := Vl.eq_iff.1 hk
           by_cases h5 : b4k h.events e.txn = 5
           · simp -dsimp [k3, tb, hk, hk3, h5, hw]
           · by_cases ho : e.txn = e0.txn
             · simp -dsimp [k3, tb, hk, hk3, h5, hw, ha, hda, ho]
             · simp -dsimp [k3, tb, hk, hk3, h5, hw, ha, hda, ho]
         · have hk3 : ¬(e.key.text = k.text ∧ e.key.n = k.n ∧ e.key.s = k.s) := fun g => hk (Vl.eq_iff.2 g)
           simp -dsimp [k3, tb, hk, hw, ha, hda]
           exact fun g1 g2 g3 => (hk3 ⟨g1, g2, g3⟩).elim
       · simp -dsimp [k3, tb, hw]
     · simp -dsimp [k3, hw]
   · have hie : i = a := by omega
     subst hie
     simp -dsimp [a2j_l9]
end Go.Rt
end

section
namespace Go.Rt
open Go.Vm
theorem c0n {l : List Rf} {q : Nat} {r : Rf} (hr : l[q]? = some r) (k : Vl) : a7K (l.take (q + 1)) k = if r.key = k then r.frm else a7K (l.take q) k := by
 unfold a7K
 rw [c7S hr, c5p]
 by_cases hk : r.key = k
 · rw [if_pos hk, if_pos (by simpa using hk)]; rfl
 · rw [if_neg hk, if_neg (by simpa using hk)]
theorem c1n {f : FuncId} {args : List AV} {x y : Int} (h : b4z prog false f args [] (.agg [vi x, vi y]) [(8, .box [vi x, vi y])]) (d : Nat)
   (hs : args.all AV.shal = true) (ha : ∀ ρ : Nat → Nat, args.map (AV.ren ρ) = args) : b4z prog false f args [] (.agg [vi x, vi y]) [(d, .box [vi x, vi y])] := by
 have := h.ren (Ren.swap 8 d) (by simp [hs, AV.shal, AV.shal2, AV.shal1, Ob.shal])
 rw [ha] at this
 have e : (Ren.swap 8 d).to 8 = d := by simp [Ren.swap, a4x]
 simpa [Hp.ren, AV.ren, AV.ren2, AV.ren1, Ob.ren, e] using this
theorem c2n {h : Hs} (hok : h.Ok) {a : Nat} {e0 : Ev} (ha : h.events[a]? = some e0) (table : Int) (k : Vl) (d : Nat) : b4z prog false n_a2j [h.av, vi a, vi table, k.av] [] (.agg [vi (newV h a e0.txn table k).txn, vi (newV h a e0.txn table k).n]) [(d, .box [vi (newV h a e0.txn table k).txn, vi (newV h a e0.txn table k).n])] :=
 c1n (d7o hok ha table k) d (by simp [Hs.av, AV.shal, AV.shal2, AV.shal1]) (fun ρ => rfl)
abbrev sBox (h : Hs) : Ob := .box [.iv (.lst 1 (tbsC h.tables)), .iv (.lst 22 (evsC h.events)), .iv (.lst 5 (insC h.order))]
set_option maxHeartbeats 32000000 in
set_option maxRecDepth 20000 in
theorem c3n {h : Hs} (hok : h.Ok) (hrg : h.Rg) : b4z prog true n_a6i [h.av] [] (vb true) [] := by
 refine a5H a6i_is (by simp [Hs.av]) (by decide) rfl ?_
 simp -dsimp [a6i, Hs.av]
 refine a1G c7D (by simp) (by simp) ?_
 simp -dsimp
 refine a1G (c8t hok) (by simp [Hs.av]) (by simp [Hs.av]) ?_
 by_cases hs : SmallP h
 · have hst : ofP (SmallP h) = true := c7Y.2 hs
   have hm := c4n hs
   have hel := hs.events
   have hol := hs.order
   simp -dsimp [hst]
   refine a1G (b5O hok) (by simp [Hs.av]) (by simp [Hs.av]) ?_
   by_cases hw : b5x h
   · have hwt : ofP (b5x h) = true := c7Y.2 hw
     simp -dsimp [hwt]
     refine a8H [] [] (h.events.length - 1) (fun i => ⟨[(5, vi ((i + 1 : Nat) : Int)), (1, .ptr 1 0)], [(1, sBox h)]⟩)
       (fun i => ∀ j, j < i → ∀ a b : Ev, h.events[j]? = some a → h.events[j + 1]? = some b → ¬b.txn < a.txn) ?_ (fun j hj => by omega) ?_
     · simp -dsimp
     · intro i hi hq1
       by_cases hlt : i + 1 < h.events.length
       · obtain ⟨b, hb⟩ : ∃ b, h.events[i + 1]? = some b := c3Z hlt
         obtain ⟨a, ha⟩ : ∃ a, h.events[i]? = some a := c3Z (by omega)
         have w1 : IntKind.i64.wrap (i : Int) = i := c4Z (by omega)
         have w2 : IntKind.i64.wrap ((i : Int) + 1 + 1) = (i : Int) + 1 + 1 := c4Z (by omega)
         have w3 : IntKind.i64.wrap ((i : Int) + 1 - 1) = i := by rw [c4Z (by omega)]; omega
         have hd : decide (i + 1 < h.events.length) = true := by simpa using hlt
         have hd0 : decide (i < h.events.length) = true := by simp; omega
         have hlti : (i : Int) + 1 < h.events.length := by omega
         have t1 : ((i : Int) + 1).toNat = i + 1 := by omega
         have p1 : (0 : Int) ≤ (i : Int) + 1 := by omega
         have hq2 : ¬b.txn < a.txn → ∀ j, j < i + 1 → ∀ a b : Ev, h.events[j]? = some a → h.events[j + 1]? = some b → ¬b.txn < a.txn := by
           intro g j hj a' b' ha' hb'
           rcases Nat.lt_or_ge j i with g' | g'
           · exact hq1 j g' a' b' ha' hb'
           · have : j = i := by omega
             subst this
             rw [ha] at ha'; rw [hb] at hb'; cases ha'; cases hb'
             exact g
         by_cases k1 : b.kind = 1
         · simp -dsimp [a6i_l12, ha, hb, w1, w2, w3, hd, hd0, hlti, t1, p1, k1]
           exact fun g => ⟨by omega, fun j hj a' b' ha' hb' => by have := hq2 (by omega) j hj a' b' ha' hb'; omega⟩
         · by_cases ht : b.txn = a.txn
           · simp -dsimp [a6i_l12, ha, hb, w1, w2, w3, hd, hd0, hlti, t1, p1, k1, ht]
             exact ⟨by omega, fun j hj a' b' ha' hb' => by have := hq2 (by omega) j hj a' b' ha' hb'; omega⟩
           · simp -dsimp [a6i_l12, ha, hb, w1, w2, w3, hd, hd0, hlti, t1, p1, k1, ht]
       · have hnl : ¬(i : Int) + 1 < h.events.length := by omega
         have hone : ∀ (j : Nat) (a b : Ev), h.events[j]? = some a → h.events[j + 1]? = some b → ¬b.txn < a.txn := fun j a b ha hb => hq1 j (by have := (List.getElem?_eq_some_iff.1 hb).1; omega) a b ha hb
         clear hq1
         simp -dsimp [a6i_l12, hnl]
         refine a8H [] [] h.order.length (fun i => ⟨[(6, vi i), (1, .ptr 1 0)], [(1, sBox h)]⟩)
           (fun i => ∀ j, j < i → ∀ o : Ins, h.order[j]? = some o → ∀ (q : Nat) (a b : Int), o.txns[q]? = some a → o.txns[q + 1]? = some b → ¬b < a) ?_ (fun j hj => by omega) ?_
         · simp -dsimp
         · intro i hi hq
           by_cases hlt : i < h.order.length
           · obtain ⟨o, ho⟩ := c3Z hlt
             have hw1 := c4Z (n := (i : Int) + 1) (by omega)
             have hd : decide (i < h.order.length) = true := by simpa using hlt
             have htl := Nat.lt_of_le_of_lt (c0g hw (List.mem_of_getElem? ho)) (show h.events.length < 2 ^ 40 by omega)
             simp -dsimp [a6i_l23, ho, hd, Ins.cells_eq o, c2d]
             refine a8H [] [] (o.txns.length - 1) (fun k => ⟨[(8, vi ((k + 1 : Nat) : Int)), (7, .iv (.lst 1 (c6Z o.txns))), (6, vi i), (1, .ptr 1 0)], [(1, sBox h)]⟩)
               (fun k => ∀ q, q < k → ∀ a b : Int, o.txns[q]? = some a → o.txns[q + 1]? = some b → ¬b < a) ?_ (fun j hj => by omega) ?_
             · simp -dsimp
             · intro k hk hqk
               by_cases hkl : k + 1 < o.txns.length
               · obtain ⟨b, hb⟩ : ∃ b, o.txns[k + 1]? = some b := c3Z hkl
                 obtain ⟨a, ha⟩ : ∃ a, o.txns[k]? = some a := c3Z (by omega)
                 have w1 : IntKind.i64.wrap (k : Int) = k := c4Z (by omega)
                 have w2 : IntKind.i64.wrap ((k : Int) + 1 + 1) = (k : Int) + 1 + 1 := c4Z (by omega)
                 have hd : decide (k + 1 < o.txns.length) = true := by simpa using hkl
                 have hd0 : decide (k < o.txns.length) = true := by simp; omega
                 have hlti : (k : Int) + 1 < o.txns.length := by omega
                 have t1 : ((k : Int) + 1).toNat = k + 1 := by omega
                 have p1 : (0 : Int) ≤ (k : Int) + 1 := by omega
                 simp -dsimp [a6i_l21, ha, hb, w1, w2, hd, hd0, hlti, t1, p1]
                 refine fun g => ⟨by omega, fun q hqq a' b' ha' hb' => ?_⟩
                 rcases Nat.lt_or_ge q k with g' | g'
                 · have := hqk q g' a' b' ha' hb'; omega
                 · have : q = k := by omega
                   subst this
                   rw [ha] at ha'; rw [hb] at hb'; cases ha'; cases hb'
                   exact g
               · have hnl : ¬(k : Int) + 1 < o.txns.length := by omega
                 simp -dsimp [a6i_l21, hnl, hw1]
                 refine ⟨hlt, fun j hj o' ho' q a b ha hb => ?_⟩
                 rcases Nat.lt_or_ge j i with g' | g'
                 · have := hq j g' o' ho' q a b ha hb; omega
                 · have : j = i := by omega
                   subst this
                   rw [ho] at ho'; cases ho'
                   have := hqk q (by have := (List.getElem?_eq_some_iff.1 hb).1; omega) a b ha hb
                   omega
           · have hie : i = h.order.length := by omega
             subst hie
             have htwo : ∀ o, o ∈ h.order → ∀ (i : Nat) (a b : Int), o.txns[i]? = some a → o.txns[i + 1]? = some b → ¬b < a := fun o ho => by
               obtain ⟨j, hj⟩ := List.getElem?_of_mem ho
               exact hq j (List.getElem?_eq_some_iff.1 hj).1 o hj
             clear hq
             simp -dsimp [a6i_l23]
             refine a8H [] [10, 12, 13, 126, 180] h.events.length (fun i => ⟨[(9, vi i), (1, .ptr 1 0)], [(1, sBox h)]⟩)
               (fun i => ∀ j, j < i → ∀ e : Ev, h.events[j]? = some e → (e.kind = 2 → newV h j e.txn e.table e.key = e.frm) ∧ (e.kind = 4 → ∀ o, o ∈ h.order → o.table = e.table → newV h j e.txn e.table o.key = a7K e.refs o.key)) ?_ (fun j hj => by omega) ?_
             · simp -dsimp
             · intro i hi hq
               by_cases hlt : i < h.events.length
               · obtain ⟨e, he⟩ := c3Z hlt
                 have hwi := c4Z (n := (i : Int) + 1) (by omega)
                 have hd : decide (i < h.events.length) = true := by simpa using hlt
                 have hnx : ((e.kind = 2 → newV h i e.txn e.table e.key = e.frm) ∧ (e.kind = 4 → ∀ o, o ∈ h.order → o.table = e.table → newV h i e.txn e.table o.key = a7K e.refs o.key)) →
                     ∀ j, j < i + 1 → ∀ e : Ev, h.events[j]? = some e → (e.kind = 2 → newV h j e.txn e.table e.key = e.frm) ∧ (e.kind = 4 → ∀ o, o ∈ h.order → o.table = e.table → newV h j e.txn e.table o.key = a7K e.refs o.key) := by
                   intro g j hj e' he'
                   rcases Nat.lt_or_ge j i with g' | g'
                   · exact hq j g' e' he'
                   · have : j = i := by omega
                     subst this
                     rw [he] at he'; cases he'
                     exact g
                 have hN := fun table k d => c2n hok he table k d
                 by_cases k2 : e.kind = 2
                 · have hN := hN e.table e.key 126
                   have hv : newV h i e.txn e.table e.key = e.frm → (newV h i e.txn e.table e.key).txn = e.frm.txn ∧ (newV h i e.txn e.table e.key).n = e.frm.n := fun g => by rw [g]; exact ⟨rfl, rfl⟩
                   have hv2 : (newV h i e.txn e.table e.key).txn = e.frm.txn → (newV h i e.txn e.table e.key).n = e.frm.n → newV h i e.txn e.table e.key = e.frm := fun g1 g2 => Vs.eq_iff.2 ⟨g1, g2⟩
                   generalize newV h i e.txn e.table e.key = v at *
                   simp -dsimp [a6i_l46, he, hd, k2]
                   constructor
                   all_goals refine b4o hN (by decide) rfl (by simp [Hs.av]) (by simp [Hs.av]) ?_
                   all_goals simp -dsimp [Ev.cells_eq e, k2, hwi, c2d]
                   all_goals exact fun g1 g2 => ⟨hlt, hnx ⟨fun _ => hv2 g1 g2, fun g => by omega⟩⟩
                 · by_cases k4 : e.kind = 4
                   · have heok := hok.ev e (List.mem_of_getElem? he)
                     simp -dsimp [a6i_l46, he, hd, k2, k4]
                     constructor
                     all_goals
                       refine a8H [] [12, 13, 180] h.order.length (fun k => ⟨[(11, vi k), (10, .ptr 10 0), (9, vi i), (1, .ptr 1 0)], [(10, .box (e.cells.map .iv)), (1, sBox h)]⟩)
                         (fun k => ∀ o, o ∈ h.order.take k → o.table = e.table → newV h i e.txn e.table o.key = a7K e.refs o.key) ?_ (fun o ho => by simp at ho) ?_
                       · simp
                       · intro k hk hqk
                         by_cases hkl : k < h.order.length
                         · obtain ⟨o, ho⟩ := c3Z hkl
                           have hdk : decide (k < h.order.length) = true := decide_eq_true hkl
                           have hwk := c4Z (n := (k : Int) + 1) (by omega)
                           have hkx : (o.table = e.table → newV h i e.txn e.table o.key = a7K e.refs o.key) → ∀ o, o ∈ h.order.take (k + 1) → o.table = e.table → newV h i e.txn e.table o.key = a7K e.refs o.key := by
                             intro g o' ho'
                             rw [c7S ho, List.mem_append, List.mem_singleton] at ho'
                             rcases ho' with ho' | rfl
                             · exact hqk o' ho'
                             · exact g
                           by_cases ht : o.table = e.table
                           · simp -dsimp [a6i_l44, ho, hdk, Ins.cells_eq o, Ev.cells_eq e, ht, c2d]
                             refine a8H [] [] e.refs.length (fun q => ⟨[(14, vi q), (13, .ptr 13 0), (12, .ptr 12 0), (11, vi k), (10, .ptr 10 0), (9, vi i), (1, .ptr 1 0)],
                               [(13, .box ((a7K (e.refs.take q) o.key).cells.map .iv)), (12, .box (o.cells.map .iv)), (10, .box (e.cells.map .iv)), (1, sBox h)]⟩) (fun _ => True) ?_ trivial ?_
                             · simp -dsimp [Ev.cells_eq e, Ins.cells_eq o, ht, a7K, c6p]
                             · intro q hq' _
                               rcases Nat.lt_or_ge q e.refs.length with hqlt | hqge
                               · obtain ⟨r, hr⟩ := c3Z hqlt
                                 have hqd : decide (q < e.refs.length) = true := decide_eq_true hqlt
                                 have hqw := c4Z (n := (q : Int) + 1) (by have := heok.refs; omega)
                                 have hst := c0n hr o.key
                                 by_cases hk : r.key = o.key
                                 · rw [if_pos hk] at hst
                                   simp -dsimp [a6i_l40, Ev.cells_eq e, Ins.cells_eq o, hr, hqd, Rf.cells_eq r, hk, hqw, hst, c2d]
                                   exact hqlt
                                 · rw [if_neg hk] at hst
                                   have hne : ¬(r.key.text = o.key.text ∧ r.key.n = o.key.n ∧ r.key.s = o.key.s) := fun g => hk (Vl.eq_iff.2 g)
                                   simp -dsimp [a6i_l40, Ev.cells_eq e, Ins.cells_eq o, hr, hqd, Rf.cells_eq r, hqw, hst]
                                   exact ⟨fun a b c => (hne ⟨a, b, c⟩).elim, fun _ => hqlt⟩
                               · obtain rfl : q = e.refs.length := by omega
                                 rw [List.take_length]
                                 have hN := hN e.table o.key 180
                                 have hv2 : (newV h i e.txn e.table o.key).txn = (a7K e.refs o.key).txn → (newV h i e.txn e.table o.key).n = (a7K e.refs o.key).n → newV h i e.txn e.table o.key = a7K e.refs o.key := fun g1 g2 => Vs.eq_iff.2 ⟨g1, g2⟩
                                 generalize newV h i e.txn e.table o.key = v at *
                                 generalize a7K e.refs o.key = u at *
                                 simp -dsimp [a6i_l40, Ev.cells_eq e, Ins.cells_eq o, ht]
                                 constructor
                                 all_goals refine b4o hN (by decide) rfl (by simp [Hs.av]) (by simp [Hs.av]) ?_
                                 all_goals simp -dsimp [hwk, c2d]
                                 all_goals exact fun g1 g2 => ⟨hkl, hkx fun _ => hv2 g1 g2⟩
                           · simp -dsimp [a6i_l44, ho, hdk, Ins.cells_eq o, Ev.cells_eq e, ht, c2d, hwk]
                             exact ⟨hkl, hkx fun g => (ht g).elim⟩
                         · obtain rfl : k = h.order.length := by omega
                           rw [List.take_length] at hqk
                           simp -dsimp [a6i_l44, hwi]
                           exact ⟨hlt, hnx ⟨fun g => (k2 g).elim, fun _ => hqk⟩⟩
                   · simp -dsimp [a6i_l46, he, hd, k2, k4, hwi]
                     exact ⟨hlt, hnx ⟨fun g => (k2 g).elim, fun g => (k4 g).elim⟩⟩
               · have hie : i = h.events.length := by omega
                 subst hie
                 have hS : SerialP h := ⟨hone, htwo, fun i e he => (hq i (List.getElem?_eq_some_iff.1 he).1 e he).1, fun i e he => (hq i (List.getElem?_eq_some_iff.1 he).1 e he).2⟩
                 clear hq
                 have g1 := b0r hok hrg hm 184
                 have hlaw := fun m hm => d6g hw hS (m := m) hm
                 have hel2 := c3A hm
                 generalize a4L h = es at *
                 simp -dsimp [a6i_l46]
                 refine d2q g1 (by decide) (by simp [Hs.av]) (by simp [Hs.av]) ?_
                 simp -dsimp
                 refine a8H [1] [] es.length (fun i => ⟨[(16, vi i), (15, .sl 184 8 0 es.length)], [(184, .list 8 (egsC es))]⟩) (fun _ => True) ?_ trivial ?_
                 · simp
                 · intro i hi _
                   by_cases hil : i < es.length
                   · obtain ⟨m, hx⟩ := c3Z hil
                     have hwi := c4Z (n := (i : Int) + 1) (by omega)
                     have hd : decide (i < es.length) = true := by simpa using hil
                     have := hlaw m (List.mem_of_getElem? hx)
                     have hn : ¬m.to ≤ m.frm := by omega
                     simp -dsimp [a6i_l53, hx, Eg.cells, c2d, hd, hwi, hn, this]
                     exact hil
                   · have hie : i = es.length := by omega
                     subst hie
                     simp -dsimp [a6i_l53]
   · have hwf : ofP (b5x h) = false := c8Y.2 hw
     simp -dsimp [hwf]
 · have hsf : ofP (SmallP h) = false := c8Y.2 hs
   simp -dsimp [hsf]
end Go.Rt
end
