/- Contracts of functions of the program, and what they lean on. Conditions: those of each theorem. -/
import Derived.Test.YtahalmofaboejaaGreatPI
import Derived.Test.YtahalmofaboejaaGreatPF
import Derived.Test.YtahalmofaboejaaGreatPC

set_option linter.unusedVariables false
set_option linter.unusedSimpArgs false

/- Contracts: the document's levels, rows, versions. -/
section
namespace Go.Rt
open Go.Vm
theorem find_is {α : Type} {p : α → Bool} : ∀ {l : List α} {i : Nat} {e : α}, (Upto i fun j => ∀ x, l[j]? = some x → p x = false) → l[i]? = some e → p e = true → l.find? p = some e
  | [], _, _, _, h, _ => by cases h
  | x :: r, 0, e, _, h, hp => by
    simp only [List.getElem?_cons_zero, Option.some.injEq] at h
    subst h
    exact List.find?_cons_of_pos hp
  | x :: r, i + 1, e, hq, h, hp => by
    have hx := hq 0 (by omega) x rfl
    rw [List.find?_cons_of_neg (by simp [hx])]
    exact find_is (i := i) (fun j hj y hy => hq (j + 1) (by omega) y hy) h hp
theorem find_no {α : Type} {p : α → Bool} {l : List α} {n : Nat} (hn : l.length ≤ n) (hq : Upto n fun j => ∀ x, l[j]? = some x → p x = false) : l.find? p = none := by
  rw [List.find?_eq_none]
  intro x hx
  obtain ⟨j, hj⟩ := List.getElem?_of_mem hx
  simp [hq j (Nat.lt_of_lt_of_le (List.getElem?_eq_some_iff.1 hj).1 hn) x hj]
set_option maxHeartbeats 4000000 in
theorem ref19_Level_spec {h : Hs} (hok : h.Ok) (txn : Int) : GSpec prog true n_rr19_Level [h.av, vi txn] [] (vi (((h.events.find? (Ev.isB txn)).map Ev.level).getD 0)) [] := by
  refine gspec1 rr19_Level_is (by simp) (by decide) rfl ?_
  simp -dsimp [rr19_Level, Hs.av]
  refine loop_idx [] [] h.events.length (fun i => ⟨[(5, vi i), (1, vi txn), (2, .ptr 2 0)], [(2, .box [.iv (.lst 1 (tbsC h.tables)), .iv (.lst 22 (evsC h.events)), .iv (.lst 5 (insC h.order))])]⟩)
    (fun i => Upto i fun j => ∀ e, h.events[j]? = some e → Ev.isB txn e = false) ?_ ?_ ?_
  · simp -dsimp
  · simp
  · intro i hi hq
    have hev := hok.events
    simp -dsimp [rr19_Level_l6]
    refine ⟨fun h2 => ?_, fun h2 => ?_⟩
    · obtain ⟨e, he⟩ := some_at h2
      have hw := wrap_in (n := (i : Int) + 1) (by omega)
      have hS : (e.kind = 1 ∧ e.txn = txn) → h.events.find? (Ev.isB txn) = some e := fun hh => find_is hq he (by simp [Ev.isB, hh])
      have hN : ¬(e.kind = 1 ∧ e.txn = txn) → Upto (i + 1) fun j => ∀ e, h.events[j]? = some e → Ev.isB txn e = false := fun hn => hq.succ fun x hx => by
        rw [he] at hx; cases hx
        cases hb : Ev.isB txn e with
        | false => rfl
        | true => exact (hn (by simpa [Ev.isB] using hb)).elim
      by_cases k1 : e.kind = 1
      · by_cases k2 : e.txn = txn
        · have := hS ⟨k1, k2⟩
          simp -dsimp [he, k1, k2, this]
        · have := hN fun g => k2 g.2
          simp -dsimp [he, k1, k2, hw]
          exact ⟨h2, this⟩
      · have := hN fun g => k1 g.1
        simp -dsimp [he, k1, hw]
        exact ⟨h2, this⟩
    · rw [find_no h2 hq]
      rfl
theorem Versions_spec (a b : List Vs) (hl : a.length < 2 ^ 63) : GSpec prog true n_rr19_Versions [.iv (.lst 2 (vsC a)), .iv (.lst 2 (vsC b))] [] (vb (decide (a = b))) [] := by
  refine gspec1 rr19_Versions_is (by simp) (by decide) rfl ?_
  by_cases hlen : a.length = b.length
  · have hlen' : (a.length : Int) = b.length := by omega
    simp -dsimp [rr19_Versions, hlen']
    refine loop_idx [] [] b.length (fun i => ⟨[(5, vi i), (0, .iv (.lst 2 (vsC a))), (1, .iv (.lst 2 (vsC b)))], []⟩) (fun i => a.take i = b.take i) ?_ ?_ ?_
    · simp -dsimp
    · simp
    · intro i hi hq
      simp -dsimp [rr19_Versions_l8, hlen']
      refine ⟨fun hlt => ?_, fun hge => ?_⟩
      · obtain ⟨x, hx⟩ : ∃ x, a[i]? = some x := some_at (by omega)
        obtain ⟨y, hy⟩ := some_at hlt
        have hw := wrap_in (n := (i : Int) + 1) (by omega)
        have htn : ∀ {l : List Vs} {z : Vs}, l[i]? = some z → l.take (i + 1) = l.take i ++ [z] := fun h => by rw [List.take_add_one, h]; rfl
        have hxy : x = y ↔ x.txn = y.txn ∧ x.n = y.n := Vs.eq_iff
        by_cases h1 : x.txn = y.txn
        · by_cases h2 : x.n = y.n
          · have := hxy.2 ⟨h1, h2⟩
            simp -dsimp [hx, hy, hw, h1, h2]
            exact ⟨hlt, by rw [htn hx, htn hy, hq, this]⟩
          · have hne : ¬a = b := fun e => by subst e; rw [hx] at hy; cases hy; exact h2 rfl
            simp -dsimp [hx, hy, hw, h1, h2, hne]
        · have hne : ¬a = b := fun e => by subst e; rw [hx] at hy; cases hy; exact h1 rfl
          simp -dsimp [hx, hy, hw, h1, hne]
      · rw [List.take_of_length_le (by omega), List.take_of_length_le hge] at hq
        simpa using hq
  · have hne : ¬a = b := fun g => hlen (by rw [g])
    have hlen' : ¬(a.length : Int) = b.length := by omega
    simp -dsimp [rr19_Versions, hlen', hne]
theorem ref10_Ints_spec (a b : List Int) (hl : a.length < 2 ^ 63) : GSpec prog true n_rr10_Ints [.iv (intsIV a), .iv (intsIV b)] [] (vb (decide (a = b))) [] := by
  refine gspec1 rr10_Ints_is (by simp) (by decide) rfl ?_
  by_cases hlen : a.length = b.length
  · have hlen' : (a.length : Int) = b.length := by omega
    simp -dsimp [rr10_Ints, intsIV, hlen']
    refine loop_idx [] [] b.length (fun i => ⟨[(5, vi i), (0, .iv (.lst 1 (intsC a))), (1, .iv (.lst 1 (intsC b)))], []⟩) (fun i => a.take i = b.take i) ?_ ?_ ?_
    · simp -dsimp
    · simp
    · intro i hi hq
      simp -dsimp [rr10_Ints_l8, hlen']
      refine ⟨fun hlt => ?_, fun hge => ?_⟩
      · obtain ⟨x, hx⟩ : ∃ x, a[i]? = some x := some_at (by omega)
        obtain ⟨y, hy⟩ := some_at hlt
        have hw := wrap_in (n := (i : Int) + 1) (by omega)
        have htn : ∀ {l : List Int} {z : Int}, l[i]? = some z → l.take (i + 1) = l.take i ++ [z] := fun h => by rw [List.take_add_one, h]; rfl
        simp -dsimp [hx, hy, hw]
        refine ⟨fun g e => ?_, fun g => ⟨hlt, by rw [htn hx, htn hy, hq, g]⟩⟩
        subst e; rw [hx] at hy; cases hy; exact g rfl
      · rw [List.take_of_length_le (by omega), List.take_of_length_le hge] at hq
        simpa using hq
  · have hne : ¬a = b := fun g => hlen (by rw [g])
    have hlen' : ¬(a.length : Int) = b.length := by omega
    simp -dsimp [rr10_Ints, intsIV, hlen', hne]
def rowF (es : List Ev) (table : Int) (k : Vl) (v : Vs) : Option (List Vl) := if v = ⟨0, 0⟩ then some [] else (es.find? (Ev.isN v.txn table k v.n)).map Ev.row
theorem rowF_is {h : Hs} (hw : WellP h) (table : Int) (k : Vl) (v : Vs) : rowF h.events table k v = rowB h.events table k v := by
  unfold rowF rowB
  rw [find_isN hw]
set_option maxRecDepth 8000 in
set_option maxHeartbeats 8000000 in
theorem ref19_Row_spec {h : Hs} (hok : h.Ok) (table : Int) (k : Vl) (v : Vs) : GSpec prog false n_rr19_Row [h.av, vi table, k.av, v.av] [] (.tup [.iv (.lst 3 (rowC ((rowF h.events table k v).getD []))), vb (rowF h.events table k v).isSome]) [] := by
  refine gspec2V (by decide) rr19_Row_is (by simp [Hs.av]) (by decide) ?_
  by_cases h0 : v = ⟨0, 0⟩
  · subst h0
    simp -dsimp [rr19_Row, Hs.av, rowF]
    exact ⟨[4, 6, 7, 8, 10], by simp [EndV2, AV.ivc, rowC]⟩
  · have h1 : v.txn = 0 → ¬v.n = 0 := fun h h' => h0 (Vs.eq_iff.2 ⟨h, h'⟩)
    have h2 : rowF h.events table k v = (h.events.find? (Ev.isN v.txn table k v.n)).map Ev.row := by unfold rowF; rw [if_neg h0]
    rw [h2]
    simp -dsimp [rr19_Row, Hs.av]
    refine ⟨fun a b => absurd b (h1 a), fun _ => ?_⟩
    refine loop_idx [8, 10] [12] h.events.length (fun i => ⟨[(11, vi i), (4, .ptr 4 0), (6, .ptr 6 0), (7, .ptr 7 0), (1, vi table)], [(7, .box (v.cells.map .iv)), (6, .box (k.cells.map .iv)), (4, .box (h.cells.map .iv))]⟩)
      (fun i => Upto i fun j => ∀ e, h.events[j]? = some e → Ev.isN v.txn table k v.n e = false) ?_ ?_ ?_
    · simp -dsimp [Hs.cells]
    · simp
    · intro i hi hq
      have hev := hok.events
      by_cases hil : i < h.events.length
      · obtain ⟨e, he⟩ := some_at hil
        have hw := wrap_in (n := (i : Int) + 1) (by omega)
        by_cases hb : Ev.isN v.txn table k v.n e = true
        · rw [find_is hq he hb]
          obtain ⟨g1, g2⟩ := isN_iff.1 hb
          obtain ⟨g3, g4, g5, g6⟩ := isW_key g1
          have g7 := Vl.eq_iff.1 g6
          simp -dsimp [rr19_Row_l10, Hs.cells, he, Ev.cells_eq e, g2, g3, g4, g5, g7]
          exact ⟨fun _ => ⟨[4, 6, 7, 12], by simp [EndV2, AV.ivc]⟩, fun hx => absurd hil (by omega)⟩
        · have hq2 : Upto (i + 1) fun j => ∀ e, h.events[j]? = some e → Ev.isN v.txn table k v.n e = false := hq.succ fun x hx => by
            rw [he] at hx; cases hx; simpa using hb
          have hb2 : ¬((e.kind = 3 ∧ e.txn = v.txn ∧ e.table = table ∧ e.key.text = k.text ∧ e.key.n = k.n ∧ e.key.s = k.s) ∧ e.n = v.n) := by
            rw [← Ev.isW_iff, ← isN_iff]; exact hb
          by_cases k3 : e.kind = 3
          · by_cases k4 : e.txn = v.txn
            · by_cases k5 : e.n = v.n
              · by_cases k6 : e.table = table
                · have k7 : ¬(e.key.text = k.text ∧ e.key.n = k.n ∧ e.key.s = k.s) := fun g => hb2 ⟨⟨k3, k4, k6, g⟩, k5⟩
                  simp -dsimp [rr19_Row_l10, Hs.cells, he, Ev.cells_eq e, hw, k3, k4, k5, k6]
                  exact ⟨fun _ => ⟨fun a b c => (k7 ⟨a, b, c⟩).elim, fun _ => ⟨hil, hq2⟩⟩, fun hx => absurd hil (by omega)⟩
                · simp -dsimp [rr19_Row_l10, Hs.cells, he, Ev.cells_eq e, hw, k3, k4, k5, k6]
                  exact ⟨fun _ => ⟨hil, hq2⟩, fun hx => absurd hil (by omega)⟩
              · simp -dsimp [rr19_Row_l10, Hs.cells, he, Ev.cells_eq e, hw, k3, k4, k5]
                exact ⟨fun _ => ⟨hil, hq2⟩, fun hx => absurd hil (by omega)⟩
            · simp -dsimp [rr19_Row_l10, Hs.cells, he, Ev.cells_eq e, hw, k3, k4]
              exact ⟨fun _ => ⟨hil, hq2⟩, fun hx => absurd hil (by omega)⟩
          · simp -dsimp [rr19_Row_l10, Hs.cells, he, Ev.cells_eq e, hw, k3]
            exact ⟨fun _ => ⟨hil, hq2⟩, fun hx => absurd hil (by omega)⟩
      · rw [find_no (by omega) hq]
        have hie : i = h.events.length := by omega
        subst hie
        simp -dsimp [rr19_Row_l10, Hs.cells]
        exact ⟨[4, 6, 7, 8], by simp [EndV2, AV.ivc, rowC]⟩
end Go.Rt
end

/- Contracts: the document's chains and places. -/
section
namespace Go.Rt
open Go.Vm
theorem filter_uniq {α : Type} {p : α → Bool} : ∀ {l : List α}, (∀ (i j : Nat) (a b : α), l[i]? = some a → l[j]? = some b → p a = true → p b = true → i = j) → ∀ {e : α}, e ∈ l → p e = true → l.filter p = [e]
  | [], _, _, he, _ => by cases he
  | x :: r, hu, e, he, hp => by
    by_cases hx : p x = true
    · have hr : r.filter p = [] := by
        rw [List.filter_eq_nil_iff]
        intro y hy hpy
        obtain ⟨j, hj⟩ := List.getElem?_of_mem hy
        have := hu 0 (j + 1) x y rfl hj hx hpy
        omega
      rw [List.filter_cons_of_pos hx, hr]
      rcases List.mem_cons.1 he with rfl | he
      · rfl
      · have : e ∈ r.filter p := List.mem_filter.2 ⟨he, hp⟩
        rw [hr] at this; cases this
    · rw [List.filter_cons_of_neg hx]
      rcases List.mem_cons.1 he with rfl | he
      · exact (hx hp).elim
      · exact filter_uniq (fun i j a b ha hb => by
          intro h1 h2
          have := hu (i + 1) (j + 1) a b ha hb h1 h2
          omega) he hp
def verO (es : List Ev) (table : Int) (k : Vl) (o : Ins) : List Vs := o.txns.map fun t => ⟨t, (wrote es t table k : Int)⟩
def chaF (es : List Ev) (os : List Ins) (table : Int) (k : Vl) : List Vs := ⟨0, 0⟩ :: ((os.filter (Ins.isO table k)).map (verO es table k)).flatten
theorem chaF_step {es : List Ev} {os : List Ins} {table : Int} {k : Vl} {i : Nat} {o : Ins} (ho : os[i]? = some o) : chaF es (os.take (i + 1)) table k = if Ins.isO table k o = true then chaF es (os.take i) table k ++ verO es table k o else chaF es (os.take i) table k := by
  unfold chaF
  rw [show os.take (i + 1) = os.take i ++ [o] by rw [List.take_add_one, ho]; rfl, List.filter_append]
  by_cases hb : Ins.isO table k o = true
  · rw [if_pos hb, List.filter_cons_of_pos hb]; simp
  · rw [if_neg hb, List.filter_cons_of_neg hb]; simp
theorem chaF_is {h : Hs} (hw : WellP h) (table : Int) (k : Vl) : chaF h.events h.order table k = chaB h.events h.order table k := by
  rw [chaB_is hw]
  unfold chaF tsB
  cases ho : lastB (Ins.isO table k) h.order with
  | none =>
    have : h.order.filter (Ins.isO table k) = [] := by
      rw [List.filter_eq_nil_iff]
      intro o hm
      rw [lastB_none] at ho
      rw [ho o hm]; simp
    rw [this]; rfl
  | some o =>
    obtain ⟨h1, h2⟩ := lastB_some ho
    rw [filter_uniq (isO_uniq hw) h1 h2]
    simp [verO]
theorem chaF_len {es : List Ev} {os : List Ins} {table : Int} {k : Vl} (i : Nat) : (chaF es (os.take i) table k).length ≤ (chaF es os table k).length := by
  unfold chaF
  have h1 : (os.take i).filter (Ins.isO table k) <+: os.filter (Ins.isO table k) := (List.take_prefix i os).filter _
  obtain ⟨r, hr⟩ := h1
  rw [← hr]
  simp
set_option maxHeartbeats 16000000 in
theorem ref19_Chain_spec {h : Hs} (hok : h.Ok) (hw : WellP h) (hev : h.events.length < 2 ^ 40) (table : Int) (k : Vl) : GSpec prog false n_rr19_Chain [h.av, vi table, k.av] [] (.iv (.lst 2 (vsC (chaB h.events h.order table k)))) [] := by
  rw [← chaF_is hw]
  have hlen : (chaF h.events h.order table k).length ≤ h.events.length + 1 := by rw [chaF_is hw]; exact chaB_le hw table k
  have hord := hok.order
  refine gspec1V rr19_Chain_is (by simp [Hs.av]) (by decide) ?_
  simp -dsimp [rr19_Chain, Hs.av]
  refine loop_idx [6] [9] h.order.length (fun i => ⟨[(8, vi i), (7, .sl 13 2 0 (chaF h.events (h.order.take i) table k).length), (5, .ptr 5 0), (3, .ptr 3 0), (1, vi table)],
    [(13, .list 2 (vsC (chaF h.events (h.order.take i) table k))), (5, .box (k.cells.map .iv)), (3, .box (h.cells.map .iv))]⟩) (fun _ => True) ?_ trivial ?_
  · simp [Hs.cells, chaF, vsC, Vs.cells]
  · intro i hi _
    by_cases hil : i < h.order.length
    · obtain ⟨o, ho⟩ := some_at hil
      have hwi := wrap_in (n := (i : Int) + 1) (by omega)
      have hst := chaF_step (es := h.events) (table := table) (k := k) ho
      have hl0 := chaF_len (es := h.events) (os := h.order) (table := table) (k := k) (i + 1)
      by_cases hb : Ins.isO table k o = true
      · rw [if_pos hb] at hst
        rw [hst] at hl0 ⊢
        obtain ⟨g1, g2⟩ := isO_iff.1 hb
        have g3 := Vl.eq_iff.1 g2
        generalize chaF h.events (h.order.take i) table k = l0 at *
        simp -dsimp [rr19_Chain_l13, Hs.cells, ho, Ins.cells_eq o, g1, g3]
        refine ⟨fun _ => ?_, fun hx => absurd hil (by omega)⟩
        have hvl : (verO h.events table k o).length = o.txns.length := by simp [verO]
        have hl1 := hl0
        rw [List.length_append, hvl] at hl1
        refine loop_idx [] [63] o.txns.length (fun j => ⟨[(10, vi j), (9, .ptr 9 0), (8, vi i), (7, .sl 13 2 0 (l0 ++ (verO h.events table k o).take j).length), (5, .ptr 5 0), (3, .ptr 3 0), (1, vi table)],
          [(9, .box (o.cells.map .iv)), (13, .list 2 (vsC (l0 ++ (verO h.events table k o).take j))), (5, .box (k.cells.map .iv)), (3, .box (h.cells.map .iv))]⟩) (fun _ => True) ?_ trivial ?_
        · simp [Hs.cells, Ins.cells_eq o, g1, g3]
        · intro j hj _
          by_cases hjl : j < o.txns.length
          · obtain ⟨t, ht⟩ := some_at hjl
            have hwj := wrap_in (n := (j : Int) + 1) (by omega)
            have hvt : (verO h.events table k o)[j]? = some ⟨t, (wrote h.events t table k : Int)⟩ := by
              unfold verO; rw [List.getElem?_map, ht]; rfl
            simp -dsimp [rr19_Chain_l11, Hs.cells, Ins.cells_eq o, ht, setRange]
            refine ⟨fun _ => ?_, fun hx => absurd hjl (by omega)⟩
            refine call_pure (Writes_spec hok h.events.length t table k) (by simp [Hs.av]) (by simp [Hs.av]) ?_
            rw [List.take_length]
            rw [show List.take (j + 1) (verO h.events table k o) = List.take j (verO h.events table k o) ++ [⟨t, (wrote h.events t table k : Int)⟩] by rw [List.take_add_one, hvt]; rfl]
            generalize verO h.events table k o = w at *
            simp -dsimp [Ins.cells_eq o, ht, hwj]
            exact ⟨by omega, by omega, hjl, by omega, by simp [vsC, Vs.cells]⟩
          · have hje : j = o.txns.length := by omega
            subst hje
            rw [show List.take o.txns.length (verO h.events table k o) = verO h.events table k o by rw [← hvl]; exact List.take_length]
            simp -dsimp [rr19_Chain_l11, Hs.cells, Ins.cells_eq o, hwi, hil]
      · rw [if_neg hb] at hst
        rw [hst]
        have hb2 : ¬(o.table = table ∧ o.key.text = k.text ∧ o.key.n = k.n ∧ o.key.s = k.s) := by
          intro g
          exact hb (isO_iff.2 ⟨g.1, Vl.eq_iff.2 g.2⟩)
        generalize chaF h.events (h.order.take i) table k = l0 at *
        by_cases g1 : o.table = table
        · simp -dsimp [rr19_Chain_l13, Hs.cells, ho, Ins.cells_eq o, g1, hwi]
          refine ⟨fun _ => ⟨fun _ => hil, fun a b c => (hb2 ⟨g1, a, b, c⟩).elim⟩, fun hx => absurd hil (by omega)⟩
        · simp -dsimp [rr19_Chain_l13, Hs.cells, ho, Ins.cells_eq o, g1, hwi]
          exact fun hx => absurd hil (by omega)
    · have hie : i = h.order.length := by omega
      subst hie
      rw [List.take_length]
      simp -dsimp [rr19_Chain_l13, Hs.cells]
      exact ⟨[3, 5, 13], by simp [EndV, AV.ivc]; exact List.take_of_length_le (by simp)⟩
set_option maxHeartbeats 8000000 in
theorem ref19_Place_spec {h : Hs} (hok : h.Ok) (hw : WellP h) (hev : h.events.length < 2 ^ 40) (table : Int) (k : Vl) (v : Vs) : GSpec prog true n_rr19_Place [h.av, vi table, k.av, v.av] [] (vi (plaB h.events h.order table k v)) [] := by
  have hR := ref19_Row_spec hok table k v
  rw [rowF_is hw] at hR
  refine gspec1 rr19_Place_is (by simp [Hs.av]) (by decide) rfl ?_
  simp -dsimp [rr19_Place, Hs.av]
  refine call_newH hR rfl (by simp [Hs.av]) (by simp [Hs.av]) (by simp) (by simp) ?_
  simp -dsimp
  refine call_newH (ref19_Chain_spec hok hw hev table k) rfl (by simp [Hs.av]) (by simp [Hs.av]) (by simp) (by simp) ?_
  have hcl := chaB_le hw table k
  unfold plaB
  generalize chaB h.events h.order table k = l at *
  generalize rowB h.events table k v = r at *
  simp -dsimp
  cases r with
  | none =>
    refine loop_idx [] [] 0 (fun i => ⟨[(12, vi i), (11, .iv (.lst 2 (vsC l))), (10, vb false), (7, .ptr 7 0)], [(7, .box (v.cells.map .iv)), (6, .box (k.cells.map .iv)), (4, .box (h.cells.map .iv))]⟩) (fun _ => True) ?_ trivial ?_
    · simp [Hs.cells]
    · intro i hi _
      have hi0 : i = 0 := by omega
      subst hi0
      by_cases hl0 : 0 < l.length <;> simp -dsimp [rr19_Place_l8, hl0]
  | some r =>
    refine loop_idx [] [] l.length (fun i => ⟨[(12, vi i), (11, .iv (.lst 2 (vsC l))), (10, vb true), (7, .ptr 7 0)], [(7, .box (v.cells.map .iv)), (6, .box (k.cells.map .iv)), (4, .box (h.cells.map .iv))]⟩)
      (fun i => Upto i fun j => ∀ x, l[j]? = some x → decide (x.txn = v.txn) = false) ?_ ?_ ?_
    · simp [Hs.cells]
    · simp
    · intro i hi hq
      by_cases hil : i < l.length
      · obtain ⟨x, hx⟩ := some_at hil
        have hwi := wrap_in (n := (i : Int) + 1) (by omega)
        by_cases he : x.txn = v.txn
        · have := ixP_at (p := fun x : Vs => decide (x.txn = v.txn)) hx (by simpa using he) hq
          simp -dsimp [rr19_Place_l8, hx, he, this]
          exact hil
        · have hq2 : Upto (i + 1) fun j => ∀ x, l[j]? = some x → decide (x.txn = v.txn) = false := hq.succ fun y hy => by
            rw [hx] at hy; cases hy; simpa using he
          simp -dsimp [rr19_Place_l8, hx, he, hwi]
          exact ⟨fun _ => ⟨hil, by simpa using hq2⟩, fun hx => absurd hil (by omega)⟩
      · have hie : i = l.length := by omega
        have := ixP_none (p := fun x : Vs => decide (x.txn = v.txn)) (l := l) fun x hx => by
          obtain ⟨j, hj⟩ := List.getElem?_of_mem hx
          exact hq j (by have := (List.getElem?_eq_some_iff.1 hj).1; omega) x hj
        subst hie
        simp -dsimp [rr19_Place_l8, this]
end Go.Rt
end

/- Contracts: the document's changes. -/
section
namespace Go.Rt
open Go.Vm
set_option maxHeartbeats 8000000 in
theorem ref19_Holds_spec {h : Hs} (hok : h.Ok) (hw : WellP h) (table : Int) (k : Vl) (v : Vs) {p : Pd} (hp : p.Ok) : GSpec prog true n_rr19_Holds [h.av, vi table, k.av, v.av, p.av] [] (vb (hldB h.events table k p v)) [] := by
  have hR := ref19_Row_spec hok table k v
  rw [rowF_is hw] at hR
  have hsz := hld_row (table := table) (k := k) (v := v) hw
  have hrl := rowB_len (table := table) (k := k) (v := v) (rows_ok hw)
  unfold hldB
  refine gspec1 rr19_Holds_is (by simp [Hs.av]) (by decide) rfl ?_
  simp -dsimp [rr19_Holds, Hs.av, Pd.av_eq]
  refine call_newH hR rfl (by simp [Hs.av]) (by simp [Hs.av]) (by simp) (by simp) ?_
  generalize (rowB h.events table k v).getD [] = r at *
  simp -dsimp
  refine call_pure (ref03_Holds_spec hp r (by omega) hsz) (by simp [Pd.av_eq]) (by simp [Pd.av_eq]) ?_
  cases r with
  | nil => simp -dsimp
  | cons x r =>
    simp -dsimp
set_option maxHeartbeats 8000000 in
theorem ref19_Changes_spec {h : Hs} (hok : h.Ok) (hw : WellP h) (hev : h.events.length < 2 ^ 40) (table : Int) (k : Vl) (place : Int) {p : Pd} (hp : p.Ok) : GSpec prog true n_rr19_Changes [h.av, vi table, k.av, vi place, p.av] [] (vb (chgB h.events h.order table k place p)) [] := by
  have hH := fun v => ref19_Holds_spec hok hw table k v hp
  have hC := ref19_Chain_spec hok hw hev table k
  have hcl := chaB_le hw table k
  refine gspec1 rr19_Changes_is (by simp [Hs.av]) (by decide) rfl ?_
  unfold chgB
  generalize chaB h.events h.order table k = l at *
  simp -dsimp [rr19_Changes, Hs.av, Pd.av_eq]
  refine call_newH hC rfl (by simp [Hs.av]) (by simp [Hs.av]) (by simp) (by simp) ?_
  by_cases h1 : place < 1
  · simp -dsimp [h1]
  · by_cases h2 : (l.length : Int) ≤ place
    · simp -dsimp [h1, h2]
    · obtain ⟨n, hn⟩ : ∃ n : Nat, place = (n : Int) + 1 := ⟨(place - 1).toNat, by omega⟩
      subst hn
      obtain ⟨u, hu⟩ : ∃ u, l[n]? = some u := some_at (by omega)
      obtain ⟨v, hv⟩ : ∃ v, l[n + 1]? = some v := some_at (by omega)
      have hw1 := wrap_in (n := (n : Int)) (by omega)
      have hg : (n : Int) + 1 = ((n + 1 : Nat) : Int) := by omega
      have hp0 : (0 : Int) ≤ (n : Int) + 1 := by omega
      have htn : ((n : Int) + 1).toNat = n + 1 := by omega
      simp -dsimp [h1, h2, hw1, hu, hv, hp0, htn, setRange]
      repeat' refine And.intro ?_ ?_
      all_goals refine call_pure (hH u) (by simp [Hs.av, Pd.av_eq]) (by simp [Hs.av, Pd.av_eq]) ?_
      all_goals simp -dsimp [hv, hp0, htn]
      all_goals refine call_pure (hH v) (by simp [Hs.av, Pd.av_eq]) (by simp [Hs.av, Pd.av_eq]) ?_
      all_goals simp -dsimp
      all_goals (rw [hu, hv, decide_eq_false h1, decide_eq_false h2]; rfl)
end Go.Rt
end

/- Contracts: who committed, the document's way. -/
section
namespace Go.Rt
open Go.Vm
set_option maxRecDepth 8000 in
set_option maxHeartbeats 8000000 in
theorem ref18_Txns_spec {h : Hs} (hlen : h.events.length < 2 ^ 40) : GSpec prog false n_rr18_Txns [h.av] [] (.iv (intsIV (txns h.events))) [] := by
  refine gspec1L [2, 3] rr18_Txns_is (by simp [Hs.av]) (by decide) ?_
  simp -dsimp [rr18_Txns, Hs.av, intsIV]
  refine loop_idx [2, 3] [3, 5, 7, 59] h.events.length (fun i => ⟨[(4, vi i), (3, .iv (.lst 1 (intsC (txns (h.events.take i))))), (1, .ptr 1 0)], [(1, .box (h.cells.map .iv))]⟩) (fun _ => True) ?_ trivial ?_
  · simp [Hs.cells, txns, intsC]
  · intro i hi _
    by_cases hil : i < h.events.length
    · have hil2 : ¬h.events.length ≤ i := by omega
      obtain ⟨x, hx⟩ := some_at hil
      have hiw := wrap_in (n := (i : Int) + 1) (by omega)
      have hnx := txns_next hx
      have htl := txns_len (h.events.take i)
      rw [List.length_take] at htl
      generalize txns (h.events.take i) = out at *
      by_cases hk : x.kind = 1
      · have hnx : txns (h.events.take (i + 1)) = insU out x.txn := by rw [hnx]; unfold stepT; rw [if_pos hk]
        simp -dsimp [rr18_Txns_l17, Hs.cells, hil2, hx, Ev.cells_eq x, hk]
        intro _
        have hpl := posU_le x.txn out
        refine loop_idx [] [] (posU x.txn out) (fun k => ⟨[(6, vi k), (5, .ptr 5 0), (4, vi i), (3, .iv (.lst 1 (intsC out))), (1, .ptr 1 0)], [(5, .box (x.cells.map .iv)), (1, .box (h.cells.map .iv))]⟩) (fun _ => True) ?_ trivial ?_
        · simp [Hs.cells, Ev.cells_eq x, hk]
        · intro k hk2 _
          by_cases hkl : k < posU x.txn out
          · have hko : ¬out.length ≤ k := by omega
            obtain ⟨y, hy⟩ : ∃ y, out[k]? = some y := some_at (by omega)
            have hyl := posU_lt hkl hy
            have hkw := wrap_in (n := (k : Int) + 1) (by omega)
            simp -dsimp [rr18_Txns_l9, Hs.cells, Ev.cells_eq x, hk, hko, hy, hyl, hkw, hkl]
          · have hke : k = posU x.txn out := by omega
            subst hke
            by_cases hko : out.length ≤ posU x.txn out
            · simp -dsimp [rr18_Txns_l9, Hs.cells, Ev.cells_eq x, hk, hko]
              have hpe : posU x.txn out = out.length := by omega
              refine ⟨by omega, by omega, by omega, by omega, by omega, by omega, by omega, by omega, hil, hiw, ?_⟩
              rw [hnx]
              unfold insU
              rw [if_neg (by rw [List.getElem?_eq_none hko]; simp), hpe, List.take_length, List.drop_length, List.take_of_length_le (by simp), List.take_of_length_le (by simp)]
              simp [intsC]
            · obtain ⟨y, hy⟩ : ∃ y, out[posU x.txn out]? = some y := some_at (by omega)
              have hyl := posU_at hy
              by_cases hyt : y = x.txn
              · simp -dsimp [rr18_Txns_l9, Hs.cells, Ev.cells_eq x, hk, hko, hy, hyl, hyt]
                intro _
                refine ⟨hil, hiw, ?_⟩
                rw [hnx]
                unfold insU
                rw [if_pos (by rw [hy, hyt])]
              · simp -dsimp [rr18_Txns_l9, Hs.cells, Ev.cells_eq x, hk, hko, hy, hyl, hyt]
                intro _
                refine ⟨by omega, by omega, by omega, by omega, by omega, by omega, by omega, by omega, hil, hiw, ?_⟩
                rw [hnx]
                unfold insU
                rw [if_neg (by rw [hy]; simpa using hyt), List.take_of_length_le (by simp; omega), List.take_of_length_le (l := List.drop (posU x.txn out) (intsC out)) (by simp)]
                simp [intsC, List.map_take, List.map_drop]
      · have hnx : txns (h.events.take (i + 1)) = out := by rw [hnx]; unfold stepT; rw [if_neg hk]
        simp -dsimp [rr18_Txns_l17, Hs.cells, hil2, hx, Ev.cells_eq x, hk, hiw, hnx]
    · have hie : i = h.events.length := by omega
      subst hie
      simp -dsimp [rr18_Txns_l17, Hs.cells]
set_option maxRecDepth 8000 in
set_option maxHeartbeats 8000000 in
theorem ref19_Committed_spec {h : Hs} (hok : h.Ok) (hw : WellP h) (hlen : h.events.length < 2 ^ 40) : GSpec prog false n_rr19_Committed [h.av] [] (.iv (intsIV (sortI (commits h.events)))) [] := by
  rw [← comT_is hw]
  have htl := txns_len h.events
  refine gspec1V rr19_Committed_is (by simp [Hs.av]) (by decide) ?_
  simp -dsimp [rr19_Committed, Hs.av]
  refine call_newH (ref18_Txns_spec hlen) rfl (by simp [Hs.av]) (by simp [Hs.av]) (by simp) (by simp) ?_
  generalize hT : txns h.events = T at *
  simp -dsimp [intsIV]
  refine loop_idx [2] [27] T.length (fun i => ⟨[(5, vi i), (4, .iv (.lst 1 (intsC T))), (3, .sl 3 1 0 (comT h.events (T.take i)).length), (1, .ptr 1 0)],
    [(3, .list 1 (intsC (comT h.events (T.take i)))), (1, .box (h.cells.map .iv))]⟩) (fun _ => True) ?_ trivial ?_
  · simp [Hs.cells, comT, intsC]
  · intro i hi _
    by_cases hil : i < T.length
    · obtain ⟨t, ht⟩ := some_at hil
      have hwi := wrap_in (n := (i : Int) + 1) (by omega)
      have hst := comT_next (es := h.events) ht
      have hl0 := comT_len h.events (T.take i)
      rw [List.length_take] at hl0
      rw [hst]
      generalize comT h.events (T.take i) = l0 at *
      simp -dsimp [rr19_Committed_l9, Hs.cells, ht, setRange]
      refine ⟨fun _ => ?_, fun hx => absurd hil (by omega)⟩
      refine call_pure (ref18_Committed_spec hok t) (by simp [Hs.av]) (by simp [Hs.av]) ?_
      by_cases h5 : ended h.events t = 5
      · simp -dsimp [ht, hwi, h5]
        exact ⟨by omega, by omega, hil, by simp [intsC]⟩
      · simp -dsimp [ht, hwi, h5]
        exact hil
    · have hie : i = T.length := by omega
      subst hie
      rw [List.take_length]
      simp -dsimp [rr19_Committed_l9, Hs.cells]
      have htk : List.take (comT h.events T).length (intsC (comT h.events T)) = intsC (comT h.events T) := List.take_of_length_le (by simp [intsC])
      exact ⟨[1, 3], by simp [EndV, AV.ivc, htk, intsIV]⟩
end Go.Rt
end

/- Contracts: whether a history is well formed, the document's way. -/
section
namespace Go.Rt
open Go.Vm
theorem ref01_Right_spec (v : Vl) : GSpec prog true n_rr01_Right [v.av] [] (vb v.right) [] := by
  refine gspec1 rr01_Right_is (by simp) (by decide) rfl ?_
  simp -dsimp [rr01_Right, Vl.right]
  grind
theorem ref02_May_spec (t : Tb) : GSpec prog true n_rr02_May [tbAV t] [] (vb (ofP (TbOk t))) [] := by
  refine gspec1 rr02_May_is (by simp) (by decide) rfl ?_
  simp -dsimp [rr02_May, tbAV, tbIV, ofP_eq, TbOk, -List.length_eq_zero_iff]
  omega
theorem ref02_Fits_spec (t : Tb) (r : List Vl) : GSpec prog true n_rr02_Fits [tbAV t, .iv (rowIV r)] [] (vb (ofP (Fits t r))) [] := by
  refine gspec1 rr02_Fits_is (by simp) (by decide) rfl ?_
  simp -dsimp [rr02_Fits, tbAV]
  refine call_pure (ref02_May_spec t) (by simp [tbAV]) rfl ?_
  simp -dsimp [tbIV, rowIV, -List.length_eq_zero_iff]
  refine ⟨fun h1 => ⟨fun h3 h => by have := h.2.1; omega, fun h3 => ?_⟩, fun h h' => h h'.1⟩
  refine loop_idx [] [] r.length (fun i => ⟨[(6, vi i), (1, .iv (.lst 3 (r.map Vl.cells))), (2, .ptr 2 0)], [(2, .box [.iv (.lst 1 (boolsC t))])]⟩)
    (fun i => Upto i (FitsAt t r)) ?_ ?_ ?_
  · simp
  · simp
  · intro i hi hq
    have h2 := h1.2
    simp -dsimp [rr02_Fits_l10]
    refine ⟨fun hlt => ?_, fun hge => ?_⟩
    · obtain ⟨v, hv⟩ := some_at hlt
      obtain ⟨c, hc⟩ : ∃ c, t[i]? = some c := some_at (by omega)
      simp -dsimp [hv, hc]
      refine call_pure (ref01_Right_spec v) (by simp) rfl ?_
      simp -dsimp [hv, hc]
      exact ⟨fun e2 => ⟨fun e => fits_no hv hc fun h => e h.1, fun e => ⟨hlt, wrap_in (by omega), hq.succ (fits_at hv hc ⟨e, e2⟩)⟩⟩, fun e2 => fits_no hv hc (by simp [e2])⟩
    · exact ⟨h1, by omega, fun j hj => hq j (by omega)⟩
theorem ref03_col_spec (t : Tb) (i : Int) (v : Vl) : GSpec prog true n_rr03_col [tbAV t, vi i, v.av] [] (vb (ofP (ColOk t i v))) [] := by
  refine gspec1 rr03_col_is (by simp) (by decide) rfl ?_
  simp -dsimp [rr03_col, tbAV]
  refine call_pure (ref01_Right_spec v) (by simp) rfl ?_
  simp -dsimp [tbIV]
  refine ⟨fun h1 => ⟨fun h2 => ?_, fun h2 h => by have := h.2.1; omega⟩, fun h1 h => by have := h.1; omega⟩
  obtain ⟨k, rfl⟩ := Int.eq_ofNat_of_zero_le h1
  obtain ⟨c, hc⟩ : ∃ c, t[k]? = some c := some_at (by omega)
  refine ⟨fun h3 => ⟨h1, ?_⟩, fun h3 h => by have := h.2.2.2; rw [h3] at this; cases this⟩
  simp -dsimp [hc, ofP_eq, colOk_at hc, h3]
theorem Pd.allOk_eq (t : Tb) (p : Pd) : p.AllOk t ↔ PartOk t p ∧ Pd.AllOkL t p.l := by cases p; rw [Pd.AllOk]; rfl
theorem Pd.allOkL_iff (t : Tb) : ∀ l : List Pd, Pd.AllOkL t l ↔ ∀ p, p ∈ l → p.AllOk t
  | [] => by simp [Pd.AllOkL]
  | p :: r => by simp [Pd.AllOkL, Pd.allOkL_iff t r]
theorem allOk_no {t : Tb} {p : Pd} {i : Nat} {q : Pd} (h : p.l[i]? = some q) (hq : ¬q.AllOk t) : ¬p.AllOk t := fun g =>
  hq ((Pd.allOkL_iff t p.l).1 ((Pd.allOk_eq t p).1 g).2 q (List.mem_of_getElem? h))
theorem ref03_part_spec (t : Tb) {p : Pd} (h : p.Ok) : GSpec prog true n_rr03_part [tbAV t, p.av] [] (vb (ofP (p.AllOk t))) [] := by
  induction h with
  | mk p hl _ _ hq ih =>
  refine gspec1 rr03_part_is (by simp) (by decide) rfl ?_
  simp -dsimp [rr03_part, Pd.av_eq, tbAV]
  refine loop_idx [] [] p.l.length (fun i => ⟨[(5, vi i), (2, .ptr 2 0), (3, .ptr 3 0)], [(3, p.box), (2, .box [.iv (tbIV t)])]⟩)
    (fun i => Upto i fun j => ∀ q, p.l[j]? = some q → q.AllOk t) ?_ ?_ ?_
  · simp [Pd.box]
  · simp
  · intro i hi hqq
    have len0 : ((p.l.length : Int) == 0) = ofP (p.l.length = 0) := by rw [ofP_eq, beq_iff_eq]; omega
    have len1 : ((p.l.length : Int) == 1) = ofP (p.l.length = 1) := by rw [ofP_eq, beq_iff_eq]; omega
    have lenp : (decide (0 < (p.l.length : Int))) = ofP (0 < p.l.length) := by rw [ofP_eq, decide_eq_true_eq]; omega
    by_cases hlt : i < p.l.length
    · obtain ⟨q, hqi⟩ := some_at hlt
      have hw : IntKind.i64.wrap ((i : Int) + 1) = (i : Int) + 1 := wrap_in (by omega)
      have hqe := (List.getElem?_eq_some_iff.1 hqi).2
      simp -dsimp [rr03_part_l7, Pd.box, hlt, hqe, Pd.cells_eq q]
      refine call_pure (ih q (List.mem_of_getElem? hqi)) (by simp [Pd.av_eq, tbAV]) (by simp [Pd.av_eq, tbAV]) ?_
      simp -dsimp [hw]
      refine ⟨fun e => allOk_no hqi e, fun e => hqq.succ fun q' h' => by rw [hqi] at h'; cases h'; exact e⟩
    · have e0 : p.AllOk t ↔ PartOk t p := by
        rw [Pd.allOk_eq, Pd.allOkL_iff]
        refine ⟨fun h => h.1, fun h => ⟨h, fun q hq => ?_⟩⟩
        obtain ⟨j, hj⟩ := List.getElem?_of_mem hq
        exact hqq j (by have := (List.getElem?_eq_some_iff.1 hj).1; omega) q hj
      have hop : (p.op = 1 ∨ p.op = 2) ∨ (p.op = 3 ∨ p.op = 4 ∨ p.op = 5 ∨ p.op = 6 ∨ p.op = 7 ∨ p.op = 8) ∨ p.op = 9 ∨ p.op = 10 ∨ (p.op = 11 ∨ p.op = 12) ∨ (p.op < 1 ∨ 12 < p.op) := by omega
      rcases hop with h | h | h | h | h | h
      · have e : PartOk t p ↔ p.l.length = 0 := by unfold PartOk; rw [if_pos h]
        rcases h with h | h <;> simp -dsimp [rr03_part_l7, Pd.box, hlt, h, len0, e, e0]
      · have e : PartOk t p ↔ p.l.length = 0 ∧ ColOk t p.col p.v := by
          unfold PartOk; rw [if_neg (by omega), if_pos (by omega)]
        rcases h with h | h | h | h | h | h
        all_goals
          simp -dsimp [rr03_part_l7, Pd.box, hlt, h, len0, e, e0]
          refine ⟨fun h0 => ?_, fun h0 => ?_⟩
          · refine call_pure (ref03_col_spec t p.col p.v) (by simp [tbAV]) (by simp [tbAV]) ?_
            simp -dsimp [h0, e, e0]
          · simp -dsimp [h0, e, e0]
      · have e : PartOk t p ↔ p.l.length = 0 ∧ ColOk t p.col p.v ∧ ColOk t p.col p.w := by
          unfold PartOk; rw [if_neg (by omega), if_neg (by omega), if_pos (by omega)]
        simp -dsimp [rr03_part_l7, Pd.box, hlt, h, len0, e, e0]
        refine ⟨fun h0 => ?_, fun h0 => ?_⟩
        · refine call_pure (ref03_col_spec t p.col p.v) (by simp [tbAV]) (by simp [tbAV]) ?_
          simp -dsimp
          refine ⟨fun h1 => ?_, fun h1 => ?_⟩
          · refine call_pure (ref03_col_spec t p.col p.w) (by simp [tbAV]) (by simp [tbAV]) ?_
            simp -dsimp [h0, h1, e, e0]
          · simp -dsimp [h0, h1, e, e0]
        · simp -dsimp [h0, e, e0]
      · have e : PartOk t p ↔ p.l.length = 1 := by
          unfold PartOk; rw [if_neg (by omega), if_neg (by omega), if_neg (by omega), if_pos h]
        simp -dsimp [rr03_part_l7, Pd.box, hlt, h, len1, e, e0]
      · have e : PartOk t p ↔ 0 < p.l.length := by
          unfold PartOk; rw [if_neg (by omega), if_neg (by omega), if_neg (by omega), if_neg (by omega), if_pos h]
        rcases h with h | h <;> simp -dsimp [rr03_part_l7, Pd.box, hlt, h, lenp, e, e0, ofP_eq]
      · have e : ¬PartOk t p := by
          unfold PartOk; rw [if_neg (by omega), if_neg (by omega), if_neg (by omega), if_neg (by omega), if_neg (by omega)]; exact id
        have ne : ∀ k : Int, 1 ≤ k → k ≤ 12 → (p.op == k) = false := fun k h1 h2 => by rw [beq_eq_false_iff_ne]; omega
        simp -dsimp [rr03_part_l7, Pd.box, hlt, e, e0, ne]
theorem ref03_May_spec (t : Tb) {p : Pd} (h : p.Ok) : GSpec prog true n_rr03_May [tbAV t, p.av] [] (vb (ofP (PdOk t p))) [] := by
  refine gspec1 rr03_May_is (by simp) (by decide) rfl ?_
  simp -dsimp [rr03_May, Pd.av_eq, tbAV]
  refine call_pure (ref02_May_spec t) (by simp [tbAV]) (by simp [tbAV]) ?_
  simp -dsimp
  refine ⟨fun h1 => ?_, fun h1 h => h1 h.1⟩
  refine call_pure (ref03_Size_spec h) (by simp [Pd.av_eq]) (by simp [Pd.av_eq]) ?_
  simp -dsimp
  refine ⟨fun h2 => ?_, fun h2 h => by have := h.2.1; omega⟩
  refine call_pure (ref03_part_spec t h) (by simp [Pd.av_eq, tbAV]) (by simp [Pd.av_eq, tbAV]) ?_
  simp -dsimp [ofP_eq, PdOk, h1, h2]
theorem ref18_key_spec {h : Hs} (ht : h.TbsOk) (table : Int) (k : Vl) : GSpec prog true n_rr18_key [h.av, vi table, k.av] [] (vb (ofP (KeyOk h table k))) [] := by
  refine gspec1 rr18_key_is (by simp) (by decide) rfl ?_
  simp -dsimp [rr18_key, Hs.av]
  refine ⟨fun h1 => ⟨fun h2 => ?_, fun h2 => ?_⟩, fun h1 h => absurd h.1 (by omega)⟩
  · rintro ⟨_, t, h3, _⟩
    have := (List.getElem?_eq_some_iff.1 h3).1
    omega
  · obtain ⟨n, rfl⟩ := Int.eq_ofNat_of_zero_le h1
    obtain ⟨t, htn⟩ : ∃ t, h.tables[n]? = some t := some_at (by omega)
    have hT := ht t (List.mem_of_getElem? htn)
    obtain ⟨c, hc⟩ : ∃ c, t[0]? = some c := some_at hT.1
    have hK : KeyOk h n k ↔ k.right = true ∧ k.text = c := by
      unfold KeyOk
      constructor
      · rintro ⟨_, t', h3, h4, h5⟩
        rw [show ((n : Int)).toNat = n from rfl, htn] at h3; cases h3
        rw [hc] at h5; cases h5
        exact ⟨h4, rfl⟩
      · rintro ⟨h4, h5⟩; exact ⟨h1, t, by simpa using htn, h4, by rw [hc, h5]⟩
    refine call_pure (ref01_Right_spec k) (by simp) (by simp) ?_
    simp -dsimp [htn, hc, tbIV, ofP_eq, hK]
    grind
theorem ref18_version_spec {h : Hs} (hok : h.Ok) (a : Nat) (table : Int) (k : Vl) (v : Vs) : GSpec prog true n_rr18_version [h.av, vi a, vi table, k.av, v.av] [] (vb (ofP (VerOk (h.events.take a) table k v))) [] := by
  refine gspec1 rr18_version_is (by simp) (by decide) rfl ?_
  simp -dsimp [rr18_version, Hs.av]
  refine call_pure (Writes_spec hok a v.txn table k) (by simp [Hs.av]) (by simp [Hs.av]) ?_
  simp -dsimp [ofP_eq, VerOk]
  grind
theorem ref18_frame_spec {h : Hs} (hok : h.Ok) {a : Nat} {e : Ev} (ha : h.events[a]? = some e) : GSpec prog true n_rr18_frame [h.av, vi a] [] (vb (ofP (FrameOk (h.events.take a) e))) [] := by
  refine gspec1 rr18_frame_is (by simp) (by decide) rfl ?_
  have hlen := (List.getElem?_eq_some_iff.1 ha).1
  have hev := hok.events
  simp -dsimp [rr18_frame, Hs.av, ha]
  refine ⟨fun h1 => ⟨fun h2 => ⟨fun h3 g => absurd g.2.2.1 (by omega), fun h3 => ?_⟩, fun h2 g => absurd g.2.1 (by omega)⟩, fun h1 g => absurd g.1 (by omega)⟩
  refine loop_idx [] [8] a (fun i => ⟨[(7, vi i), (6, vb (ofP (Begun (h.events.take i) e.txn))), (1, vi a), (5, .ptr 5 0), (2, .ptr 2 0)],
      [(5, .box (e.cells.map .iv)), (2, .box [.iv (.lst 1 (tbsC h.tables)), .iv (.lst 22 (evsC h.events)), .iv (.lst 5 (insC h.order))])]⟩)
    (fun i => NoEnd (h.events.take i) e.txn) ?_ ?_ ?_
  · simp -dsimp
  · simp
  · intro i hi hq
    by_cases hlt : i < a
    · obtain ⟨x, hx⟩ : ∃ x, h.events[i]? = some x := some_at (by omega)
      have hw := wrap_in (n := (i : Int) + 1) (by omega)
      simp -dsimp [rr18_frame_l13, hlt, hx, take_next hx, begun_next, noEnd_next, ofP_inj]
      rw [hw]
      have hN : x.txn = e.txn → (x.kind = 5 ∨ x.kind = 6) → ¬FrameOk (h.events.take a) e := fun g1 g2 g => by
        have := g.2.2.2.1 x (List.mem_of_getElem? (by rw [List.getElem?_take, if_pos hlt]; exact hx)) g1
        omega
      grind
    · have hia : i = a := by omega
      subst hia
      simp -dsimp [rr18_frame_l13, ofP_inj, dec_ofP]
      unfold FrameOk
      grind
theorem ref18_write_spec {h : Hs} (hok : h.Ok) (ht : h.TbsOk) {a : Nat} {e : Ev} (ha : h.events[a]? = some e) : GSpec prog true n_rr18_write [h.av, vi a] [] (vb (ofP (WriteOk h (h.events.take a) e))) [] := by
  refine gspec1 rr18_write_is (by simp) (by decide) rfl ?_
  have hlen := (List.getElem?_eq_some_iff.1 ha).1
  have hev := hok.events
  simp -dsimp [rr18_write, Hs.av, ha]
  refine call_pure (ref18_key_spec ht e.table e.key) (by simp [Hs.av]) (by simp [Hs.av]) ?_
  simp -dsimp
  refine ⟨fun h1 => ?_, fun h1 g => h1 g.1⟩
  have hw := wrap_in (n := (wrote (h.events.take a) e.txn e.table e.key : Int) + 1) (by have := wrote_le (h.events.take a) e.txn e.table e.key; rw [List.length_take] at this; omega)
  obtain ⟨h0, t, htt, hr, hc⟩ := id h1
  constructor
  all_goals
    refine call_pure (Writes_spec hok a e.txn e.table e.key) (by simp [Hs.av]) (by simp [Hs.av]) ?_
    simp -dsimp [hw]
    refine ⟨fun g1 g => g1 g.2.1, fun g1 => ⟨h0, ?_⟩⟩
    simp -dsimp [htt]
    refine call_pure (ref02_Fits_spec t e.row) (by simp [tbAV, rowIV, rowC]) (by simp [tbAV]) ?_
    have hWO : WriteOk h (h.events.take a) e ↔ e.row = [] ∨ (Fits t e.row ∧ e.row[0]? = some e.key) := by
      unfold WriteOk
      constructor
      · rintro ⟨_, _, g | ⟨t', g2, g3, g4⟩⟩
        · exact .inl g
        · rw [htt] at g2; cases g2; exact .inr ⟨g3, g4⟩
      · rintro (g | ⟨g3, g4⟩)
        · exact ⟨h1, g1, .inl g⟩
        · exact ⟨h1, g1, .inr ⟨t, htt, g3, g4⟩⟩
    by_cases hrow : e.row = []
    · simp -dsimp [hWO, hrow]
    · obtain ⟨v, hv⟩ : ∃ v, e.row[0]? = some v := some_at (List.length_pos_iff.2 hrow)
      simp -dsimp [hrow]
      refine ⟨fun g3 => ?_, fun g3 g => ?_⟩
      · simp -dsimp [hv, hWO, hrow, g3, ofP_eq, Vl.eq_iff]
        try grind
      · exact g3 ((hWO.1 g).resolve_left hrow).1
theorem ref18_read_spec {h : Hs} (hok : h.Ok) (ht : h.TbsOk) {a : Nat} {e : Ev} (ha : h.events[a]? = some e) : GSpec prog true n_rr18_read [h.av, vi a] [] (vb (ofP (ReadOk h (h.events.take a) e))) [] := by
  refine gspec1 rr18_read_is (by simp) (by decide) rfl ?_
  have hlen := (List.getElem?_eq_some_iff.1 ha).1
  have hev := hok.events
  simp -dsimp [rr18_read, Hs.av, ha]
  refine call_pure (ref18_key_spec ht e.table e.key) (by simp [Hs.av]) (by simp [Hs.av]) ?_
  simp -dsimp
  refine ⟨fun h1 g => h1 g.1, fun h1 => ?_⟩
  refine call_pure (Writes_spec hok a e.txn e.table e.key) (by simp [Hs.av]) (by simp [Hs.av]) ?_
  simp -dsimp
  have hRO : ReadOk h (h.events.take a) e ↔ if 0 < wrote (h.events.take a) e.txn e.table e.key then e.frm.txn = e.txn ∧ e.frm.n = wrote (h.events.take a) e.txn e.table e.key
      else (e.frm.txn = 0 ∧ e.frm.n = 0) ∨ VerOk (h.events.take a) e.table e.key e.frm := by
    unfold ReadOk
    split <;> simp [h1, Vs.eq_iff]
  refine ⟨fun h2 => ?_, fun h2 => ?_⟩
  · rw [ofP_eq, hRO, if_pos h2]; simp
  · rw [if_neg (by omega)] at hRO
    constructor
    · intro h3
      refine call_pure (ref18_version_spec hok a e.table e.key e.frm) (by simp [Hs.av]) (by simp [Hs.av]) ?_
      simp -dsimp [ofP_inj, hRO]
      grind
    · simp [hRO]
      try grind
set_option maxHeartbeats 4000000 in
theorem ref18_pred_spec {h : Hs} (hok : h.Ok) (ht : h.TbsOk) {a : Nat} {e : Ev} (ha : h.events[a]? = some e) : GSpec prog true n_rr18_pred [h.av, vi a] [] (vb (ofP (PredOk h (h.events.take a) e))) [] := by
  refine gspec1 rr18_pred_is (by simp) (by decide) rfl ?_
  have hlen := (List.getElem?_eq_some_iff.1 ha).1
  have hev := hok.events
  have heok := hok.ev e (List.mem_of_getElem? ha)
  simp -dsimp [rr18_pred, Hs.av, ha]
  refine ⟨fun h0 => ⟨fun h1 => ⟨h0, ?_⟩, fun h1 => ?_⟩, fun h0 g => absurd g.1.1 (by omega)⟩
  · obtain ⟨t, htt⟩ : ∃ t, h.tables[e.table.toNat]? = some t := some_at (by omega)
    simp -dsimp [htt]
    refine call_pure (ref03_May_spec t heok.pred) (by simp [tbAV, Pd.av]) (by simp [tbAV, Pd.av]) ?_
    simp -dsimp
    refine ⟨fun h2 g => ?_, fun h2 => ?_⟩
    · obtain ⟨⟨_, t', g1, g2⟩, _⟩ := g
      rw [htt] at g1; cases g1; exact h2 g2
    · refine loop_idx [] [7] e.refs.length (fun i => ⟨[(6, vi i), (1, vi a), (2, .ptr 2 0), (5, .ptr 5 0)],
          [(5, .box (e.cells.map .iv)), (2, .box [.iv (.lst 1 (tbsC h.tables)), .iv (.lst 22 (evsC h.events)), .iv (.lst 5 (insC h.order))])]⟩)
        (fun i => Upto i (RefAt h (h.events.take a) e)) ?_ ?_ ?_
      · simp -dsimp
      · simp
      · intro i hi hq
        simp -dsimp [rr18_pred_l13]
        refine ⟨fun hlt => ?_, fun hge => ?_⟩
        · obtain ⟨q, hqi⟩ := some_at hlt
          have hre := heok.refs
          have hw := wrap_in (n := (i : Int) + 1) (by omega)
          have hw1 := wrap_in (n := (i : Int) - 1) (by omega)
          have hno : ¬RefAt h (h.events.take a) e i → ¬PredOk h (h.events.take a) e := fun g1 g => g1 (g.2.1 i hlt)
          have hat : RefAt h (h.events.take a) e i ↔ KeyOk h e.table q.key ∧ VerOk (h.events.take a) e.table q.key q.frm ∧ (∀ p, 0 < i → e.refs[i - 1]? = some p → p.key.cmp q.key < 0) := by
            unfold RefAt; rw [hqi]
            exact ⟨fun g => g q rfl, fun g r hr => by cases hr; exact g⟩
          simp -dsimp [hqi, Rf.cells_eq q]
          refine call_pure (ref18_key_spec ht e.table q.key) (by simp [Hs.av]) (by simp [Hs.av]) ?_
          simp -dsimp
          refine ⟨fun k1 => ?_, fun k1 => hno fun g => k1 (hat.1 g).1⟩
          refine call_pure (ref18_version_spec hok a e.table q.key q.frm) (by simp [Hs.av]) (by simp [Hs.av]) ?_
          simp -dsimp
          by_cases k2 : VerOk (h.events.take a) e.table q.key q.frm
          · by_cases hi0 : 0 < i
            · obtain ⟨p, hp⟩ : ∃ p, e.refs[i - 1]? = some p := some_at (by omega)
              have e1 : ((i : Int) - 1).toNat = i - 1 := by omega
              have e2 : (0 : Int) ≤ (i : Int) - 1 := by omega
              simp -dsimp [k2, hi0, hw1, e1, e2, hp, Rf.cells_eq p]
              refine ⟨⟨by omega, call_pure (ref01_Compare_spec p.key q.key (heok.rkey p (List.mem_of_getElem? hp))) (by simp) (by simp) ?_⟩, fun g => absurd g (by omega)⟩
              simp -dsimp [hw]
              refine ⟨fun k3 => hno fun g => absurd ((hat.1 g).2.2 p hi0 hp) (by omega), fun k3 => ⟨hlt, hq.succ (hat.2 ⟨k1, k2, fun p' _ hp' => by rw [hp] at hp'; cases hp'; exact k3⟩)⟩⟩
            · simp -dsimp [k2, hi0, hw]
              exact fun _ => ⟨hlt, hq.succ (hat.2 ⟨k1, k2, fun p h => absurd h hi0⟩)⟩
          · simp -dsimp [k2]
            exact hno fun g => k2 (hat.1 g).2.1
        · have hall : Upto e.refs.length (RefAt h (h.events.take a) e) := fun j hj => hq j (by omega)
          refine loop_idx [] [10, 11] a (fun i => ⟨[(9, vi i), (1, vi a), (2, .ptr 2 0), (5, .ptr 5 0)],
              [(5, .box (e.cells.map .iv)), (2, .box [.iv (.lst 1 (tbsC h.tables)), .iv (.lst 22 (evsC h.events)), .iv (.lst 5 (insC h.order))])]⟩)
            (fun i => ∀ x, x ∈ h.events.take i → SeenAt (h.events.take a) e x) ?_ ?_ ?_
          · simp -dsimp
          · simp
          · intro j hj hs
            simp -dsimp [rr18_pred_l28]
            refine ⟨fun hjlt => ?_, fun hjge => ?_⟩
            · obtain ⟨x, hx⟩ : ∃ x, h.events[j]? = some x := some_at (by omega)
              have hwj := wrap_in (n := (j : Int) + 1) (by omega)
              have hnext : SeenAt (h.events.take a) e x → ∀ y, y ∈ h.events.take (j + 1) → SeenAt (h.events.take a) e y := fun g y hy => by
                rw [take_next hx] at hy
                rcases List.mem_append.1 hy with hy | hy
                · exact hs y hy
                · simp only [List.mem_singleton] at hy; subst hy; exact g
              by_cases c1 : x.kind = 3
              · by_cases c2 : x.txn = e.txn
                · by_cases c3 : x.table = e.table
                  · simp -dsimp [hx, c1, c2, c3]
                    refine ⟨⟨?_, ?_⟩, ?_, ?_, ?_⟩
                    all_goals
                      refine call_pure (Writes_spec hok a e.txn e.table x.key) (by simp [Hs.av]) (by simp [Hs.av]) ?_
                      simp -dsimp
                    all_goals
                      refine loop_idx [] [] e.refs.length (fun k => ⟨[(13, vi k), (12, vb (ofP (There (e.refs.take k) x.key ⟨e.txn, wrote (h.events.take a) e.txn e.table x.key⟩))), (9, vi j), (1, vi a), (2, .ptr 2 0), (5, .ptr 5 0), (10, .ptr 10 0), (11, .ptr 11 0)],
                          [(11, .box [.iv (ci e.txn), .iv (ci (wrote (h.events.take a) e.txn e.table x.key))]), (10, .box (x.cells.map .iv)), (5, .box (e.cells.map .iv)), (2, .box [.iv (.lst 1 (tbsC h.tables)), .iv (.lst 22 (evsC h.events)), .iv (.lst 5 (insC h.order))])]⟩)
                        (fun _ => True) ?_ trivial ?_
                      · simp -dsimp
                      · intro k hk _
                        simp -dsimp [rr18_pred_l24]
                        refine ⟨fun hklt => ?_, fun hkge => ?_⟩
                        · obtain ⟨q, hqk⟩ := some_at hklt
                          have hrl := heok.refs
                          have hwk := wrap_in (n := (k : Int) + 1) (by omega)
                          simp -dsimp [hqk, Rf.cells_eq q, take_next hqk, there_next, ofP_eq, hwk]
                          grind
                        · rw [List.take_of_length_le hkge]
                          simp -dsimp [hwj]
                          refine ⟨fun g g2 => ?_, fun g => ⟨hjlt, hnext fun _ _ _ => ?_⟩⟩
                          · exact g (by obtain ⟨r, g3, g4, g5⟩ := g2.2.2 x (List.mem_of_getElem? (by rw [List.getElem?_take, if_pos hjlt]; exact hx)) c1 c2 c3; exact ⟨r, g3, g4, g5⟩)
                          · obtain ⟨r, g3, g4, g5⟩ := g; exact ⟨r, g3, g4, g5⟩
                  · simp -dsimp [hx, c1, c2, c3, hwj]
                    exact ⟨hjlt, hnext fun _ _ g => absurd g c3⟩
                · simp -dsimp [hx, c1, c2, hwj]
                  exact ⟨hjlt, hnext fun _ g => absurd g c2⟩
              · simp -dsimp [hx, c1, hwj]
                exact ⟨hjlt, hnext fun g => absurd g c1⟩
            · have hja : j = a := by omega
              subst hja
              exact ⟨⟨h0, t, htt, h2⟩, hall, hs⟩
  · rintro ⟨⟨_, t, g, _⟩, _⟩
    have := (List.getElem?_eq_some_iff.1 g).1
    omega
theorem ref18_event_spec {h : Hs} (hok : h.Ok) (ht : h.TbsOk) {a : Nat} {e : Ev} (ha : h.events[a]? = some e) : GSpec prog true n_rr18_event [h.av, vi a] [] (vb (ofP (EventOk h (h.events.take a) e))) [] := by
  refine gspec1 rr18_event_is (by simp) (by decide) rfl ?_
  simp -dsimp [rr18_event, Hs.av]
  refine call_pure (ref18_frame_spec hok ha) (by simp [Hs.av]) (by simp [Hs.av]) ?_
  simp -dsimp
  by_cases h1 : FrameOk (h.events.take a) e
  · by_cases k2 : e.kind = 2
    · simp -dsimp [ha, h1, k2]
      refine call_pure (ref18_read_spec hok ht ha) (by simp [Hs.av]) (by simp [Hs.av]) ?_
      simp -dsimp [EventOk, h1, k2]
    · by_cases k3 : e.kind = 3
      · simp -dsimp [ha, h1, k3]
        refine call_pure (ref18_write_spec hok ht ha) (by simp [Hs.av]) (by simp [Hs.av]) ?_
        simp -dsimp [EventOk, h1, k3]
      · by_cases k4 : e.kind = 4
        · simp -dsimp [ha, h1, k4]
          refine call_pure (ref18_pred_spec hok ht ha) (by simp [Hs.av]) (by simp [Hs.av]) ?_
          simp -dsimp [EventOk, h1, k4]
        · simp -dsimp [ha, h1, k2, k3, k4, EventOk]
  · simp -dsimp [ha, h1, EventOk]
def NoIns (h : Hs) (e : Ev) (i : Nat) : Prop := Upto i fun j => ∀ o, h.order[j]? = some o → ¬(o.isOf e.table e.key ∧ e.txn ∈ o.txns)
theorem ref18_installed_spec {h : Hs} (hok : h.Ok) {a : Nat} {e : Ev} (ha : h.events[a]? = some e) : GSpec prog true n_rr18_installed [h.av, vi a] [] (vb (ofP (InstalledOk h e))) [] := by
  refine gspec1 rr18_installed_is (by simp) (by decide) rfl ?_
  simp -dsimp [rr18_installed, Hs.av, ha]
  refine call_pure (ref18_Committed_spec hok e.txn) (by simp [Hs.av]) (by simp [Hs.av]) ?_
  simp -dsimp
  by_cases k3 : e.kind = 3
  · by_cases k5 : ended h.events e.txn = 5
    · simp -dsimp [k3, k5]
      refine loop_idx [] [8] h.order.length (fun i => ⟨[(7, vi i), (2, .ptr 2 0), (5, .ptr 5 0)],
          [(5, .box (e.cells.map .iv)), (2, .box [.iv (.lst 1 (tbsC h.tables)), .iv (.lst 22 (evsC h.events)), .iv (.lst 5 (insC h.order))])]⟩)
        (fun i => NoIns h e i) ?_ ?_ ?_
      · simp -dsimp
      · exact upto_zero
      · intro i hi hq
        have hol := hok.order
        simp -dsimp [rr18_installed_l16]
        refine ⟨fun hlt => ?_, fun hge => ?_⟩
        · obtain ⟨o, ho⟩ := some_at hlt
          have hw := wrap_in (n := (i : Int) + 1) (by omega)
          have hno : ¬(o.isOf e.table e.key ∧ e.txn ∈ o.txns) → NoIns h e (i + 1) := fun g => Upto.succ hq fun o' ho' => by rw [ho] at ho'; cases ho'; exact g
          by_cases c : o.isOf e.table e.key
          · obtain ⟨c1, c2⟩ := id c
            have hol2 := hok.txns o (List.mem_of_getElem? ho)
            simp -dsimp [ho, Ins.cells_eq o, c1, c2]
            refine loop_idx [] [] o.txns.length (fun k => ⟨[(9, vi k), (7, vi i), (2, .ptr 2 0), (5, .ptr 5 0), (8, .ptr 8 0)],
                [(8, .box [.iv (ci o.table), .iv (cb o.key.text), .iv (ci o.key.n), .iv (.v (.string o.key.s)), .iv (.lst 1 (intsC o.txns))]), (5, .box (e.cells.map .iv)), (2, .box [.iv (.lst 1 (tbsC h.tables)), .iv (.lst 22 (evsC h.events)), .iv (.lst 5 (insC h.order))])]⟩)
              (fun k => e.txn ∉ o.txns.take k) ?_ ?_ ?_
            · simp -dsimp [c1, c2]
            · simp
            · intro k hk hn
              simp -dsimp [rr18_installed_l14]
              refine ⟨fun hklt => ?_, fun hkge => ?_⟩
              · obtain ⟨x, hx⟩ := some_at hklt
                have hwk := wrap_in (n := (k : Int) + 1) (by omega)
                simp -dsimp [hx, hwk, take_next hx]
                refine ⟨fun g _ _ => ⟨o, List.mem_of_getElem? ho, c, by rw [← g]; exact List.mem_of_getElem? hx⟩, fun g => ⟨hklt, hn, fun g2 => g g2.symm⟩⟩
              · rw [List.take_of_length_le hkge] at hn
                exact ⟨hlt, hw, hno fun g => hn g.2⟩
          · have c' : ¬(o.table = e.table ∧ o.key.text = e.key.text ∧ o.key.n = e.key.n ∧ o.key.s = e.key.s) := fun g => c ⟨g.1, Vl.eq_iff.2 g.2⟩
            have hU := hno fun g => c g.1
            simp -dsimp [ho, Ins.cells_eq o, hw]
            have hC : ∀ {p : Prop}, (o.table = e.table) → (o.key.text = e.key.text) → (o.key.n = e.key.n) → (o.key.s = e.key.s) → p := fun a1 a2 a3 a4 => (c' ⟨a1, a2, a3, a4⟩).elim
            refine ⟨fun g1 => ⟨fun _ => ⟨hlt, hU⟩, fun g2 g3 g4 => hC g1 g2 g3 g4⟩, fun _ => ⟨hlt, hU⟩⟩
        · intro g
          obtain ⟨o, g1, g2, g3⟩ := g k3 k5
          obtain ⟨j, hj⟩ := List.getElem?_of_mem g1
          exact hq j (by have := (List.getElem?_eq_some_iff.1 hj).1; omega) o hj ⟨g2, g3⟩
    · simp -dsimp [k3, k5, InstalledOk]
  · simp -dsimp [k3, InstalledOk]
set_option maxHeartbeats 1000000 in
theorem ref18_install_spec {h : Hs} (hok : h.Ok) {a : Nat} {o : Ins} (ha : h.order[a]? = some o) : GSpec prog true n_rr18_install [h.av, vi a] [] (vb (ofP (InstallOk h a o))) [] := by
  refine gspec1 rr18_install_is (by simp) (by decide) rfl ?_
  have hlen := (List.getElem?_eq_some_iff.1 ha).1
  have hol := hok.order
  have hol2 := hok.txns o (List.mem_of_getElem? ha)
  simp -dsimp [rr18_install, Hs.av, ha, Ins.cells_eq o]
  refine loop_idx [] [] a (fun i => ⟨[(6, vi i), (1, vi a), (2, .ptr 2 0), (5, .ptr 5 0)],
      [(5, .box [.iv (ci o.table), .iv (cb o.key.text), .iv (ci o.key.n), .iv (.v (.string o.key.s)), .iv (.lst 1 (intsC o.txns))]), (2, .box [.iv (.lst 1 (tbsC h.tables)), .iv (.lst 22 (evsC h.events)), .iv (.lst 5 (insC h.order))])]⟩)
    (fun i => ∀ x, x ∈ h.order.take i → ¬x.isOf o.table o.key) ?_ ?_ ?_
  · simp -dsimp
  · simp
  · intro i hi hq
    simp -dsimp [rr18_install_l7]
    refine ⟨fun hlt => ?_, fun hge => ?_⟩
    · obtain ⟨x, hx⟩ : ∃ x, h.order[i]? = some x := some_at (by omega)
      have hw := wrap_in (n := (i : Int) + 1) (by omega)
      simp -dsimp [hx, Ins.cells_eq x, hw]
      have hno : x.isOf o.table o.key → ¬InstallOk h a o := fun g g2 => g2.1 x (List.mem_of_getElem? (by rw [List.getElem?_take, if_pos hlt]; exact hx)) g
      have hyes : ¬x.isOf o.table o.key → ∀ y, y ∈ h.order.take (i + 1) → ¬y.isOf o.table o.key := fun g y hy => by
        rw [take_next hx] at hy
        rcases List.mem_append.1 hy with hy | hy
        · exact hq y hy
        · simp only [List.mem_singleton] at hy; subst hy; exact g
      refine ⟨fun g1 => ⟨fun g2 g3 g4 => hno ⟨g1, Vl.eq_iff.2 ⟨g2, g3, g4⟩⟩, fun g2 => ⟨hlt, hyes fun g => ?_⟩⟩, fun g1 => ⟨hlt, hyes fun g => g1 g.1⟩⟩
      have g3 := Vl.eq_iff.1 g.2
      exact g2 g3.1 g3.2.1 g3.2.2
    · have hia : i = a := by omega
      subst hia
      refine loop_idx [] [] o.txns.length (fun k => ⟨[(7, vi k), (2, .ptr 2 0), (5, .ptr 5 0)],
          [(5, .box [.iv (ci o.table), .iv (cb o.key.text), .iv (ci o.key.n), .iv (.v (.string o.key.s)), .iv (.lst 1 (intsC o.txns))]), (2, .box [.iv (.lst 1 (tbsC h.tables)), .iv (.lst 22 (evsC h.events)), .iv (.lst 5 (insC h.order))])]⟩)
        (fun k => Upto k fun i => ∀ t, o.txns[i]? = some t → ended h.events t = 5 ∧ wrote h.events t o.table o.key ≠ 0 ∧ t ∉ o.txns.take i) ?_ ?_ ?_
      · simp -dsimp
      · exact upto_zero
      · intro k hk hqk
        simp -dsimp [rr18_install_l20]
        refine ⟨fun hklt => ?_, fun hkge => ?_⟩
        · obtain ⟨t, htx⟩ := some_at hklt
          have hwk := wrap_in (n := (k : Int) + 1) (by omega)
          have hno : ¬(ended h.events t = 5 ∧ wrote h.events t o.table o.key ≠ 0 ∧ t ∉ o.txns.take k) → ¬InstallOk h i o := fun g g2 => g (g2.2.1 k hklt t htx)
          have htk : h.events.take h.events.length = h.events := List.take_length
          simp -dsimp [htx]
          refine call_pure (ref18_Committed_spec hok t) (by simp [Hs.av]) (by simp [Hs.av]) ?_
          simp -dsimp [htx]
          refine ⟨fun g1 => ?_, fun g1 => hno fun g => g1 g.1⟩
          refine call_pure (Writes_spec hok h.events.length t o.table o.key) (by simp [Hs.av]) (by simp [Hs.av]) ?_
          simp -dsimp [htx, htk]
          refine ⟨fun g2 => hno fun g => g.2.1 g2, fun g2 => ?_⟩
          refine loop_idx [] [] k (fun j => ⟨[(9, vi j), (7, vi k), (2, .ptr 2 0), (5, .ptr 5 0)],
              [(5, .box [.iv (ci o.table), .iv (cb o.key.text), .iv (ci o.key.n), .iv (.v (.string o.key.s)), .iv (.lst 1 (intsC o.txns))]), (2, .box [.iv (.lst 1 (tbsC h.tables)), .iv (.lst 22 (evsC h.events)), .iv (.lst 5 (insC h.order))])]⟩)
            (fun j => t ∉ o.txns.take j) ?_ ?_ ?_
          · simp -dsimp
          · simp
          · intro j hj hnj
            simp -dsimp [rr18_install_l18]
            refine ⟨fun hjlt => ?_, fun hjge => ?_⟩
            · obtain ⟨u, hu⟩ : ∃ u, o.txns[j]? = some u := some_at (by omega)
              have hwj := wrap_in (n := (j : Int) + 1) (by omega)
              simp -dsimp [hu, htx, hwj, take_next hu]
              refine ⟨fun g => hno fun g3 => g3.2.2 ?_, fun g => ⟨hjlt, hnj, fun g3 => g g3.symm⟩⟩
              rw [← g]
              exact List.mem_of_getElem? (by rw [List.getElem?_take, if_pos hjlt]; exact hu)
            · have hjk : j = k := by omega
              subst hjk
              simp -dsimp [hwk]
              exact ⟨hklt, hqk.succ fun t' ht' => by rw [htx] at ht'; cases ht'; exact ⟨g1, g2, hnj⟩⟩
        · have hall : Upto o.txns.length fun i => ∀ t, o.txns[i]? = some t → ended h.events t = 5 ∧ wrote h.events t o.table o.key ≠ 0 ∧ t ∉ o.txns.take i := fun j hj => hqk j (by omega)
          rw [ofP_eq, decide_eq_true_eq]
          exact ⟨fun g => ⟨hq, hall, g⟩, fun g => g.2.2⟩
theorem ref18_tables_spec {h : Hs} (hok : h.Ok) : GSpec prog true n_rr18_tables [h.av] [] (vb (ofP (TablesOk h))) [] := by
  refine gspec1 rr18_tables_is (by simp) (by decide) rfl ?_
  by_cases hn : 1 ≤ h.tables.length ∧ h.tables.length ≤ 3
  · have n1 : ¬(h.tables.length : Int) < 1 := by omega
    have n2 : ¬(3 : Int) < h.tables.length := by omega
    simp -dsimp [rr18_tables, Hs.av, n1, n2]
    refine loop_idx [] [] h.tables.length (fun i => ⟨[(3, vi i), (1, .ptr 1 0)], [(1, .box [.iv (.lst 1 (tbsC h.tables)), .iv (.lst 22 (evsC h.events)), .iv (.lst 5 (insC h.order))])]⟩)
      (fun i => Upto i fun j => ∀ t, h.tables[j]? = some t → TbOk t) ?_ ?_ ?_
    · simp -dsimp
    · exact upto_zero
    · intro i hi hq
      simp -dsimp [rr18_tables_l9]
      refine ⟨fun hlt => ?_, fun hge => ?_⟩
      · obtain ⟨t, ht⟩ := some_at hlt
        have hw := wrap_in (n := (i : Int) + 1) (by omega)
        simp -dsimp [ht]
        refine call_pure (ref02_May_spec t) (by simp [tbAV]) (by simp [tbAV]) ?_
        simp -dsimp [hw]
        refine ⟨fun g g2 => g (g2.2 t (List.mem_of_getElem? ht)), fun g => ⟨hlt, hq.succ fun t' ht' => by rw [ht] at ht'; cases ht'; exact g⟩⟩
      · refine ⟨hn, fun t ht => ?_⟩
        obtain ⟨j, hj⟩ := List.getElem?_of_mem ht
        exact hq j (by have := (List.getElem?_eq_some_iff.1 hj).1; omega) t hj
  · have : ¬TablesOk h := fun g => hn g.1
    by_cases n1 : (h.tables.length : Int) < 1
    · simp -dsimp [rr18_tables, Hs.av, n1, this]
    · have n2 : (3 : Int) < h.tables.length := by omega
      simp -dsimp [rr18_tables, Hs.av, n1, n2, this]
theorem ref18_Well_spec {h : Hs} (hok : h.Ok) : GSpec prog true n_rr18_Well [h.av] [] (vb (ofP (WellP h))) [] := by
  refine gspec1 rr18_Well_is (by simp) (by decide) rfl ?_
  simp -dsimp [rr18_Well, Hs.av]
  refine call_pure (ref18_tables_spec hok) (by simp [Hs.av]) (by simp [Hs.av]) ?_
  simp -dsimp
  refine ⟨fun g1 g2 => g1 g2.1, fun hT => ?_⟩
  refine loop_idx [] [] h.events.length (fun i => ⟨[(4, vi i), (1, .ptr 1 0)], [(1, .box [.iv (.lst 1 (tbsC h.tables)), .iv (.lst 22 (evsC h.events)), .iv (.lst 5 (insC h.order))])]⟩)
    (fun i => Upto i fun i => ∀ e, h.events[i]? = some e → EventOk h (h.events.take i) e ∧ InstalledOk h e) ?_ ?_ ?_
  · simp -dsimp
  · exact upto_zero
  · intro i hi hq
    have hev := hok.events
    simp -dsimp [rr18_Well_l11]
    refine ⟨fun hlt => ?_, fun hge => ?_⟩
    · obtain ⟨e, he⟩ := some_at hlt
      have hw := wrap_in (n := (i : Int) + 1) (by omega)
      refine call_pure (ref18_event_spec hok hT.2 he) (by simp [Hs.av]) (by simp [Hs.av]) ?_
      simp -dsimp
      refine call_pure (ref18_installed_spec hok he) (by simp [Hs.av]) (by simp [Hs.av]) ?_
      simp -dsimp [hw]
      refine ⟨fun g1 => ⟨fun g2 g3 => g2 (g3.2.1 i hlt e he).2, fun g2 => ⟨hlt, hq.succ fun e' he' => by rw [he] at he'; cases he'; exact ⟨g1, g2⟩⟩⟩, fun g1 g3 => g1 (g3.2.1 i hlt e he).1⟩
    · refine loop_idx [] [] h.order.length (fun i => ⟨[(7, vi i), (1, .ptr 1 0)], [(1, .box [.iv (.lst 1 (tbsC h.tables)), .iv (.lst 22 (evsC h.events)), .iv (.lst 5 (insC h.order))])]⟩)
        (fun i => Upto i fun i => ∀ o, h.order[i]? = some o → InstallOk h i o) ?_ ?_ ?_
      · simp -dsimp
      · exact upto_zero
      · intro j hj hqj
        have hol := hok.order
        simp -dsimp [rr18_Well_l18]
        refine ⟨fun hjlt => ?_, fun hjge => ?_⟩
        · obtain ⟨o, ho⟩ := some_at hjlt
          have hwj := wrap_in (n := (j : Int) + 1) (by omega)
          refine call_pure (ref18_install_spec hok ho) (by simp [Hs.av]) (by simp [Hs.av]) ?_
          simp -dsimp [hwj]
          exact ⟨fun g1 g2 => g1 (g2.2.2 j hjlt o ho), fun g => ⟨hjlt, hqj.succ fun o' ho' => by rw [ho] at ho'; cases ho'; exact g⟩⟩
        · exact ⟨hT, fun k hk => hq k (by omega), fun k hk => hqj k (by omega)⟩
end Go.Rt
end
