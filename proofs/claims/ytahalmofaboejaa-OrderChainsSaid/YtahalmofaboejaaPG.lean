/- Contracts of functions of the program, and what they lean on. Conditions: those of each theorem. -/
import Derived.Test.YtahalmofaboejaaPF

set_option linter.unusedVariables false
set_option linter.unusedSimpArgs false

/- What a book of a well formed history tells of its events. -/
section
namespace Go.Rt
open Go.Vm

section
variable {h : Hs}
theorem lastB_is {α : Type} {p : α → Bool} {l : List α} (hu : ∀ (i j : Nat) (a b : α), l[i]? = some a → l[j]? = some b → p a = true → p b = true → i = j) {e : α} (he : e ∈ l) (hp : p e = true) : lastB p l = some e := by
  cases hl : lastB p l with
  | none => rw [lastB_none] at hl; rw [hl e he] at hp; cases hp
  | some a =>
    obtain ⟨h1, h2⟩ := lastB_some hl
    obtain ⟨i, hi⟩ := List.getElem?_of_mem h1
    obtain ⟨j, hj⟩ := List.getElem?_of_mem he
    have := hu i j a e hi hj h2 hp
    subst this
    rw [hi] at hj; exact hj
theorem isB_uniq (hw : WellP h) {txn : Int} : ∀ (i j : Nat) (a b : Ev), h.events[i]? = some a → h.events[j]? = some b → a.isB txn = true → b.isB txn = true → i = j := by
  have key : ∀ (i j : Nat) (a b : Ev), i < j → h.events[i]? = some a → h.events[j]? = some b → a.isB txn = true → b.isB txn = true → False := by
    intro i j a b hij hi hj ha hb
    simp only [Ev.isB, Bool.and_eq_true, decide_eq_true_eq] at ha hb
    obtain ⟨_, _, _, _, h5, _⟩ := (well_ev hw hj).1.1
    refine (h5 hb.1).1 ⟨a, List.mem_of_getElem? (i := i) ?_, ha.2.trans hb.2.symm⟩
    rw [List.getElem?_take_of_lt hij]; exact hi
  intro i j a b hi hj ha hb
  rcases Nat.lt_trichotomy i j with g | g | g
  · exact (key i j a b g hi hj ha hb).elim
  · exact g
  · exact (key j i b a g hj hi hb ha).elim
theorem lev_is (hw : WellP h) {e : Ev} (he : e ∈ h.events) (hk : e.kind = 1) : levB h.events e.txn = e.level := by
  unfold levB
  rw [lastB_is (isB_uniq hw) he (by simp [Ev.isB, hk])]
  rfl
theorem row_some (hw : WellP h) {table : Int} {k : Vl} {v : Vs} : (rowB h.events table k v).isSome = true ↔ v = ⟨0, 0⟩ ∨ (1 ≤ v.n ∧ v.n ≤ wrote h.events v.txn table k) := by
  unfold rowB
  by_cases hv : v = ⟨0, 0⟩
  · simp [hv]
  · rw [if_neg hv, Option.isSome_map, isN_some hw]
    simp [hv]
theorem wrote_all {es : List Ev} (i : Nat) (txn table : Int) (k : Vl) : wrote (es.take i) txn table k ≤ wrote es txn table k := by
  unfold wrote
  exact ((List.take_sublist i es).filter _).length_le
theorem read_there (hw : WellP h) {e : Ev} (he : e ∈ h.events) (hk : e.kind = 2) : (rowB h.events e.table e.key e.frm).isSome = true := by
  rw [row_some hw]
  obtain ⟨i, hi⟩ := List.getElem?_of_mem he
  have hr := ((well_ev hw hi).1.2.1 hk).2
  have h1 := wrote_all (es := h.events) i e.txn e.table e.key
  split at hr
  · rw [hr]; right; simp only; omega
  · rcases hr with hr | ⟨g1, g2⟩
    · exact .inl hr
    · have := wrote_all (es := h.events) i e.frm.txn e.table e.key
      right; omega
theorem write_there (hw : WellP h) {e : Ev} (he : e ∈ h.events) (hk : e.kind = 3) : rowB h.events e.table e.key ⟨e.txn, e.n⟩ = some e.row := by
  have hN : e.isN e.txn e.table e.key e.n = true := isN_iff.2 ⟨isW_self hk, rfl⟩
  have h1 := isN_wrote hw he hN
  unfold rowB
  rw [if_neg (by intro hv; rw [Vs.eq_iff] at hv; simp only at hv; omega)]
  rw [lastB_is (isN_uniq hw) he hN]
  rfl
theorem row_none (hw : WellP h) {table : Int} {k : Vl} {txn m : Int} (hm : wrote h.events txn table k < m) : rowB h.events table k ⟨txn, m⟩ = none := by
  cases hr : rowB h.events table k ⟨txn, m⟩ with
  | none => rfl
  | some r =>
    have := (row_some hw (table := table) (k := k) (v := ⟨txn, m⟩)).1 (by rw [hr]; rfl)
    rcases this with hv | hv
    · rw [Vs.eq_iff] at hv; simp only at hv; omega
    · simp only at hv; omega
end
end Go.Rt
end

/- OrderFinds as a contract. -/
section
namespace Go.Rt
open Go.Vm

set_option maxHeartbeats 16000000 in
theorem OrderFinds_spec {h : Hs} (hok : h.Ok) (hev : h.events.length < 2 ^ 40) : GSpec prog true n_ratlinelaw19_OrderFinds [h.av] [] (vb true) [] := by
  refine gspec1 ratlinelaw19_OrderFinds_is (by simp) (by decide) rfl ?_
  simp -dsimp [ratlinelaw19_OrderFinds, Hs.av]
  refine call_pure awake_spec (by simp) (by simp) ?_
  simp -dsimp
  refine call_pure (ref18_Small_spec hok) (by simp [Hs.av]) (by simp [Hs.av]) ?_
  rcases read_spec hok hev with ⟨hw, hr⟩ | ⟨hw, hr⟩
  · simp -dsimp
    refine call_newH hr rfl (by simp [Hs.av]) (by simp [Hs.av]) (by simp) (by simp) ?_
    by_cases hs : SmallP h
    · have hs1 : ofP (SmallP h) = true := ofP_true.2 hs
      have hrows := rows_ok hw
      have hlen := hs.events
      simp -dsimp [hs1, bk_ne]
      refine loop_idx [] [7] h.events.length (fun i => ⟨[(6, vi i), (5, .iv (bkIV h.events h.order)), (1, .ptr 1 0)], [(1, .box [.iv (.lst 1 (tbsC h.tables)), .iv (.lst 22 (evsC h.events)), .iv (.lst 5 (insC h.order))])]⟩) (fun _ => True) ?_ trivial ?_
      · simp
      · intro i hi _
        by_cases hil : i < h.events.length
        · obtain ⟨e, he⟩ := some_at hil
          have hem := List.mem_of_getElem? he
          have hwi := wrap_in (n := (i : Int) + 1) (by omega)
          have hR1 := Row_spec h.events h.order e.table e.key e.frm hrows
          have hR2 := Row_spec h.events h.order e.table e.key ⟨e.txn, e.n⟩ hrows
          by_cases k2 : e.kind = 2
          · have ht := read_there hw hem k2
            rw [ht] at hR1
            simp -dsimp [ratlinelaw19_OrderFinds_l24, he, setRange, k2]
            refine fun _ => call_newH hR1 rfl (by simp) (by simp) (by simp) (by simp) ?_
            simp -dsimp [hil, hwi, k2]
          · by_cases k3 : e.kind = 3
            · have ht := write_there hw hem k3
              have hR3 := Row_spec h.events h.order e.table e.key ⟨e.txn, e.n⟩ hrows
              rw [ht] at hR3
              have hl := (write_row hw hem k3).1
              simp -dsimp [ratlinelaw19_OrderFinds_l24, he, setRange, k3]
              refine fun _ => call_newH hR3 rfl (by simp) (by simp) (by simp) (by simp) ?_
              simp -dsimp [hil, hwi, k3]
              refine call_pure (Writes_spec hok h.events.length e.txn e.table e.key) (by simp [Hs.av]) (by simp [Hs.av]) ?_
              rw [List.take_length]
              have hwl : wrote h.events e.txn e.table e.key ≤ h.events.length := by
                unfold wrote; exact List.length_filter_le _ _
              have hww := wrap_in (n := (wrote h.events e.txn e.table e.key : Int) + 1) (by omega)
              have hR4 := Row_spec h.events h.order e.table e.key ⟨e.txn, (wrote h.events e.txn e.table e.key : Int) + 1⟩ hrows
              rw [row_none hw (by omega)] at hR4
              simp -dsimp [hww]
              refine call_newH hR4 rfl (by simp) (by simp) (by simp) (by simp) ?_
              simp -dsimp
              refine call_pure (ref02_Same_spec e.row e.row (by omega)) (by simp) (by simp) ?_
              simp -dsimp [hil, hwi, k3]
            · by_cases k1 : e.kind = 1
              · have hL := Level_spec h.events h.order e.txn
                rw [lev_is hw hem k1] at hL
                simp -dsimp [ratlinelaw19_OrderFinds_l24, he, setRange, k1]
                refine fun hx => ⟨?_, ?_⟩
                · refine call_pure hL (by simp) (by simp) ?_
                  simp -dsimp [hil, hwi]
                · refine call_pure hL (by simp) (by simp) ?_
                  simp -dsimp [hil, hwi]
              · simp -dsimp [ratlinelaw19_OrderFinds_l24, he, setRange, k1, k2, k3]
                exact fun hx => ⟨hx, hwi⟩
        · have hie : i = h.events.length := by omega
          subst hie
          simp -dsimp [ratlinelaw19_OrderFinds_l24]
    · have hs1 : ofP (SmallP h) = false := ofP_false.2 hs
      simp -dsimp [hs1]
  · simp -dsimp
    refine call_newH hr rfl (by simp [Hs.av]) (by simp [Hs.av]) (by simp) (by simp) ?_
    by_cases hs : SmallP h
    · have hs1 : ofP (SmallP h) = true := ofP_true.2 hs
      simp -dsimp [hs1]
    · have hs1 : ofP (SmallP h) = false := ofP_false.2 hs
      simp -dsimp [hs1]
end Go.Rt
end
