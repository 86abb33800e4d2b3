/- Contracts of functions of the program, and what they lean on. Conditions: those of each theorem. -/
import Derived.Test.YtahalmofaboejaaPG
import Derived.Test.YtahalmofaboejaaPF

set_option linter.unusedVariables false
set_option linter.unusedSimpArgs false

/- Plain facts of chains and of who committed. No code. -/
section
namespace Go.Rt
open Go.Vm

theorem ended_mem : ∀ {es : List Ev} {t : Int}, ended es t = 5 → ∃ e, e ∈ es ∧ e.txn = t ∧ e.kind = 5
  | [], _, h => by simp [ended] at h
  | x :: r, t, h => by
    rw [ended] at h
    by_cases hx : x.ends t
    · rw [if_pos hx] at h
      exact ⟨x, List.mem_cons_self, hx.1, h⟩
    · rw [if_neg hx] at h
      obtain ⟨e, h1, h2⟩ := ended_mem h
      exact ⟨e, List.mem_cons_of_mem _ h1, h2⟩
section
variable {h : Hs}
theorem commit_five (hw : WellP h) {t : Int} (ht : t ∈ commits h.events) : ended h.events t = 5 := by
  unfold commits at ht
  obtain ⟨e, he, rfl⟩ := List.mem_map.1 ht
  rw [List.mem_filter, decide_eq_true_eq] at he
  obtain ⟨i, hi⟩ := List.getElem?_of_mem he.1
  rw [ended_at (i := i) (e := e) ?_ hi ⟨rfl, .inl he.2⟩, he.2]
  intro j hj x hx hxe
  have := (well_ev hw hi).1.1.2.2.2.1 x (List.mem_of_getElem? (i := j) (by rw [List.getElem?_take_of_lt hj]; exact hx)) hxe.1
  rcases hxe.2 with g | g
  · exact this.1 g
  · exact this.2 g
theorem five_commit {t : Int} (h5 : ended h.events t = 5) : t ∈ commits h.events := by
  obtain ⟨e, h1, h2, h3⟩ := ended_mem h5
  unfold commits
  exact List.mem_map.2 ⟨e, List.mem_filter.2 ⟨h1, by simpa using h3⟩, h2⟩
theorem commits_nodup (hw : WellP h) : (commits h.events).Nodup := by
  unfold commits List.Nodup
  rw [List.pairwise_map, List.pairwise_filter, List.pairwise_iff_getElem]
  intro i j hi hj hij h1 h2 he
  simp only [decide_eq_true_eq] at h1 h2
  have hgi : h.events[i]? = some h.events[i] := List.getElem?_eq_getElem hi
  have hgj : h.events[j]? = some h.events[j] := List.getElem?_eq_getElem hj
  exact ((well_ev hw hgj).1.1.2.2.2.1 h.events[i] (List.mem_of_getElem? (i := i) (by rw [List.getElem?_take_of_lt hij]; exact hgi)) he).1 h1
/-- who wrote a key, in its order -/
def tsB (h : Hs) (table : Int) (k : Vl) : List Int := match lastB (Ins.isO table k) h.order with
  | some o => o.txns
  | none => []
variable {table : Int} {k : Vl}
theorem chaB_is (hw : WellP h) : chaB h.events h.order table k = ⟨0, 0⟩ :: (tsB h table k).map fun t => ⟨t, (wrote h.events t table k : Int)⟩ := by
  unfold chaB tsB
  cases ho : lastB (Ins.isO table k) h.order with
  | none => rfl
  | some o =>
    obtain ⟨h1, h2⟩ := lastB_some ho
    rw [isO_iff] at h2
    obtain ⟨h2, h3⟩ := h2
    simp only [chnI, lastN_all hw, h2, h3]
theorem tsB_nodup (hw : WellP h) : (tsB h table k).Nodup := by
  unfold tsB
  cases ho : lastB (Ins.isO table k) h.order with
  | none => exact List.nodup_nil
  | some o => exact txns_nodup hw (lastB_some ho).1
theorem tsB_in (hw : WellP h) {t : Int} : t ∈ tsB h table k ↔ t ∈ commits h.events ∧ 1 ≤ wrote h.events t table k := by
  constructor
  · intro ht
    unfold tsB at ht
    cases ho : lastB (Ins.isO table k) h.order with
    | none => rw [ho] at ht; cases ht
    | some o =>
      rw [ho] at ht
      obtain ⟨h1, h2⟩ := lastB_some ho
      rw [isO_iff] at h2
      obtain ⟨h2, h3⟩ := h2
      obtain ⟨g1, g2⟩ := txns_in hw h1 ht
      rw [h2, h3] at g2
      exact ⟨five_commit g1, by omega⟩
  · rintro ⟨h1, h2⟩
    obtain ⟨e, he, hk⟩ := wrote_mem (es := h.events) (txn := t) (table := table) (k := k) (by omega)
    obtain ⟨k3, rfl, rfl, rfl⟩ := isW_key hk
    obtain ⟨i, hi⟩ := List.getElem?_of_mem he
    obtain ⟨o, ho, hof, hot⟩ := (well_ev hw hi).2 k3 (commit_five hw h1)
    unfold tsB
    rw [lastB_is (isO_uniq hw) ho (isO_iff.2 hof)]
    exact hot
theorem tsB_pos (hw : WellP h) {t : Int} (ht : t ∈ tsB h table k) : 1 ≤ t := by
  obtain ⟨_, h2⟩ := (tsB_in hw).1 ht
  obtain ⟨e, he, hk⟩ := wrote_mem (es := h.events) (txn := t) (table := table) (k := k) (by omega)
  obtain ⟨_, rfl, _⟩ := isW_key hk
  exact txn_pos hw he
theorem chain_at (hw : WellP h) {i : Nat} {v : Vs} (hv : (chaB h.events h.order table k)[i]? = some v) :
    (rowB h.events table k v).isSome = true ∧ (0 < i → rowB h.events table k ⟨v.txn, v.n + 1⟩ = none) ∧ plaB h.events h.order table k v = i := by
  have hs : (rowB h.events table k v).isSome = true := by
    rw [chaB_is hw] at hv
    rw [row_some hw]
    cases i with
    | zero => left; simpa using hv.symm
    | succ i =>
      rw [List.getElem?_cons_succ, List.getElem?_map, Option.map_eq_some_iff] at hv
      obtain ⟨t, ht, rfl⟩ := hv
      right
      exact ⟨by have := ((tsB_in hw).1 (List.mem_of_getElem? ht)).2; show (1 : Int) ≤ (wrote h.events t table k : Int); omega, Int.le_refl _⟩
  refine ⟨hs, ?_, ?_⟩
  · intro h0
    rw [chaB_is hw] at hv
    cases i with
    | zero => omega
    | succ i =>
      rw [List.getElem?_cons_succ, List.getElem?_map, Option.map_eq_some_iff] at hv
      obtain ⟨t, ht, rfl⟩ := hv
      exact row_none hw (by show (wrote h.events t table k : Int) < (wrote h.events t table k : Int) + 1; omega)
  · unfold plaB
    rw [if_neg (by rw [← Option.not_isSome, hs]; simp)]
    refine ixP_at hv (by simp) ?_
    intro j hj x hx
    rw [decide_eq_false_iff_not]
    intro hxe
    rw [chaB_is hw] at hv hx
    cases i with
    | zero => omega
    | succ i =>
      rw [List.getElem?_cons_succ, List.getElem?_map, Option.map_eq_some_iff] at hv
      obtain ⟨t, ht, rfl⟩ := hv
      cases j with
      | zero =>
        simp only [List.getElem?_cons_zero, Option.some.injEq] at hx
        subst hx
        have := tsB_pos hw (List.mem_of_getElem? ht)
        simp only at hxe; omega
      | succ j =>
        rw [List.getElem?_cons_succ, List.getElem?_map, Option.map_eq_some_iff] at hx
        obtain ⟨u, hu, rfl⟩ := hx
        simp only at hxe
        subst hxe
        have hnd := tsB_nodup hw (table := table) (k := k)
        unfold List.Nodup at hnd
        rw [List.pairwise_iff_getElem] at hnd
        obtain ⟨hi1, hi2⟩ := List.getElem?_eq_some_iff.1 ht
        obtain ⟨hj1, hj2⟩ := List.getElem?_eq_some_iff.1 hu
        exact hnd j i hj1 hi1 (by omega) (by rw [hi2, hj2])
def wroteB (h : Hs) (table : Int) (k : Vl) (t : Int) : Bool := decide (1 ≤ wrote h.events t table k)
theorem one_row (hw : WellP h) (t : Int) : (rowB h.events table k ⟨t, 1⟩).isSome = wroteB h table k t := by
  have := row_some hw (table := table) (k := k) (v := ⟨t, 1⟩)
  have h1 : (⟨t, 1⟩ : Vs) ≠ ⟨0, 0⟩ := by intro h; rw [Vs.eq_iff] at h; simp at h
  unfold wroteB
  rw [Bool.eq_iff_iff, this, decide_eq_true_eq]
  constructor
  · rintro (h2 | h2)
    · exact (h1 h2).elim
    · have := h2.2; simp only at this; omega
  · intro h2; exact .inr ⟨Int.le_refl _, by show (1 : Int) ≤ (wrote h.events t table k : Int); omega⟩
theorem one_place (hw : WellP h) {t : Int} (ht : t ∈ commits h.events) : decide (0 < plaB h.events h.order table k ⟨t, 1⟩) = wroteB h table k t := by
  unfold plaB
  have h1 := one_row hw (table := table) (k := k) t
  by_cases hb : wroteB h table k t = true
  · rw [hb] at h1
    rw [if_neg (by rw [← Option.not_isSome, h1]; simp), hb, decide_eq_true_eq]
    unfold wroteB at hb
    rw [decide_eq_true_eq] at hb
    have hm := (tsB_in hw).2 ⟨ht, hb⟩
    rcases ixP_cases (fun x : Vs => decide (x.txn = t)) (chaB h.events h.order table k) with ⟨i, x, g1, g2, g3, _⟩ | ⟨g, _⟩
    · rw [g3]
      cases i with
      | zero =>
        rw [chaB_zero] at g1
        simp only [Option.some.injEq] at g1
        subst g1
        have := tsB_pos hw hm
        simp only [decide_eq_true_eq] at g2; omega
      | succ i => omega
    · rw [chaB_is hw] at g
      have := g ⟨t, (wrote h.events t table k : Int)⟩ (List.mem_cons_of_mem _ (List.mem_map.2 ⟨t, hm, rfl⟩))
      simp at this
  · rw [Bool.not_eq_true] at hb
    rw [hb] at h1
    rw [if_pos (by rw [← Option.not_isSome, h1]; rfl), hb]
    rfl
theorem count_is (hw : WellP h) : ((sortI (commits h.events)).filter (wroteB h table k)).length + 1 = (chaB h.events h.order table k).length := by
  have h1 : ((sortI (commits h.events)).filter (wroteB h table k)).length = ((commits h.events).filter (wroteB h table k)).length :=
    ((List.mergeSort_perm _ _).filter _).length_eq
  rw [h1, chaB_is hw, List.length_cons, List.length_map]
  have hm : ∀ t, t ∈ (commits h.events).filter (wroteB h table k) ↔ t ∈ tsB h table k := by
    intro t
    rw [List.mem_filter, tsB_in hw]
    unfold wroteB
    rw [decide_eq_true_eq]
  have g1 := nodup_sub (l := (commits h.events).filter (wroteB h table k)) (r := tsB h table k) ((commits_nodup hw).filter _) fun t ht => (hm t).1 ht
  have g2 := nodup_sub (l := tsB h table k) (r := (commits h.events).filter (wroteB h table k)) (tsB_nodup hw) fun t ht => (hm t).2 ht
  omega
theorem sort_at {t : Int} {i : Nat} (hi : (sortI (commits h.events))[i]? = some t) : t ∈ commits h.events :=
  (List.mergeSort_perm _ _).mem_iff.1 (List.mem_of_getElem? hi)
theorem filter_step {α : Type} {p : α → Bool} {l : List α} {i : Nat} {x : α} (hx : l[i]? = some x) : ((l.take (i + 1)).filter p).length = ((l.take i).filter p).length + if p x = true then 1 else 0 := by
  rw [show l.take (i + 1) = l.take i ++ [x] by rw [List.take_add_one, hx]; rfl, List.filter_append, List.length_append]
  congr 1
  cases hp : p x <;> simp [hp]
end
end Go.Rt
end

/- OrderChains as a contract. -/
section
namespace Go.Rt
open Go.Vm

set_option maxHeartbeats 16000000 in
theorem OrderChains_spec {h : Hs} (hok : h.Ok) (hev : h.events.length < 2 ^ 40) (k : Vl) : GSpec prog true n_ratlinelaw19_OrderChains [h.av, k.av] [] (vb true) [] := by
  refine gspec1 ratlinelaw19_OrderChains_is (by simp) (by decide) rfl ?_
  simp -dsimp [ratlinelaw19_OrderChains, Hs.av]
  refine call_pure awake_spec (by simp) (by simp) ?_
  simp -dsimp
  refine call_pure (ref18_Small_spec hok) (by simp [Hs.av]) (by simp [Hs.av]) ?_
  rcases read_spec hok hev with ⟨hw, hr⟩ | ⟨hw, hr⟩
  · simp -dsimp
    refine call_newH hr rfl (by simp [Hs.av]) (by simp [Hs.av]) (by simp) (by simp) ?_
    by_cases hs : SmallP h
    · have hs1 : ofP (SmallP h) = true := ofP_true.2 hs
      have hrows := rows_ok hw
      have hcl := chaB_le hw 0 k
      simp -dsimp [hs1, bk_ne]
      refine call_newH (Chain_spec h.events h.order 0 k (by omega)) rfl (by simp) (by simp) (by simp) (by simp) ?_
      have hpos := chaB_pos h.events h.order 0 k
      have h0 := chaB_zero h.events h.order 0 k
      have hcnt := count_is hw (table := 0) (k := k)
      have hat := fun i v => chain_at hw (table := 0) (k := k) (i := i) (v := v)
      have hP := fun v => Place_spec h.events h.order 0 k v hrows (by omega)
      have hR := fun v => Row_spec h.events h.order 0 k v hrows
      generalize hl : chaB h.events h.order 0 k = l at *
      have hne : ¬l = [] := List.length_pos_iff.1 hpos
      simp -dsimp [hne, h0]
      refine loop_idx [2] [] l.length (fun i => ⟨[(9, vi i), (8, .iv (.lst 2 (vsC l))), (7, .iv (bkIV h.events h.order)), (3, .ptr 3 0)], [(3, .box (k.cells.map .iv))]⟩) (fun _ => True) ?_ trivial ?_
      · simp
      · intro i hi _
        by_cases hil : i < l.length
        · obtain ⟨v, hv⟩ := some_at hil
          obtain ⟨a1, a2, a3⟩ := hat i v hv
          have hwi := wrap_in (n := (i : Int) + 1) (by omega)
          have hR1 := hR v
          rw [a1] at hR1
          simp -dsimp [ratlinelaw19_OrderChains_l18, hv, setRange]
          refine ⟨fun _ => ?_, fun hx => absurd hil (by omega)⟩
          refine call_newH hR1 rfl (by simp) (by simp) (by simp) (by simp) ?_
          have hvn : 0 ≤ v.n ∧ v.n ≤ h.events.length := by
            rcases (row_some hw).1 a1 with g | g
            · subst g; exact ⟨Int.le_refl _, Int.natCast_nonneg _⟩
            · have := wrote_le h.events v.txn 0 k; omega
          have hwv := wrap_in (n := v.n + 1) (by omega)
          have hR2 := hR ⟨v.txn, v.n + 1⟩
          simp -dsimp [hv, hwv]
          refine call_newH hR2 rfl (by simp) (by simp) (by simp) (by simp) ?_
          have hP1 := hP v
          rw [a3] at hP1
          by_cases i0 : 0 < i
          · rw [a2 i0]
            simp -dsimp [hv, hwv, i0]
            refine call_pure hP1 (by simp) (by simp) ?_
            simp -dsimp [hil, hwi, hpos]
          · have i0' : i = 0 := by omega
            subst i0'
            simp -dsimp [hv, hwv]
            refine call_pure hP1 (by simp) (by simp) ?_
            simp -dsimp [hil, hwi, hpos]
            decide
        · have hie : i = l.length := by omega
          subst hie
          simp -dsimp [ratlinelaw19_OrderChains_l18]
          have hcom : (sortI (commits h.events)).length ≤ h.events.length := by
            have := commits_le h.events
            rw [sortI_len]; exact this
          have hats := fun (i : Nat) (t : Int) (hi : (sortI (commits h.events))[i]? = some t) => one_place hw (table := 0) (k := k) (sort_at (h := h) hi)
          refine call_newH (Committed_spec (es := h.events) (os := h.order) hev) rfl (by simp) (by simp) (by simp) (by simp) ?_
          generalize hc : sortI (commits h.events) = c at *
          simp -dsimp [intsIV]
          refine loop_idx [] [] c.length (fun i => ⟨[(16, vi i), (15, vi ((c.take i).filter (wroteB h 0 k)).length), (14, .iv (.lst 1 (intsC c))), (8, .iv (.lst 2 (vsC l))), (7, .iv (bkIV h.events h.order)), (3, .ptr 3 0)], [(3, .box (k.cells.map .iv))]⟩) (fun _ => True) ?_ trivial ?_
          · simp
          · intro i hi _
            by_cases hic : i < c.length
            · obtain ⟨t, ht⟩ := some_at hic
              have hwi := wrap_in (n := (i : Int) + 1) (by omega)
              have hR1 := hR ⟨t, 1⟩
              rw [one_row hw] at hR1
              have hP1 := hP ⟨t, 1⟩
              have hpl := hats i t ht
              have hle : ((c.take i).filter (wroteB h 0 k)).length ≤ c.length := Nat.le_trans (List.length_filter_le _ _) (by rw [List.length_take]; omega)
              have hwn := wrap_in (n := (((c.take i).filter (wroteB h 0 k)).length : Int) + 1) (by omega)
              rw [filter_step ht]
              generalize ((c.take i).filter (wroteB h 0 k)).length = n at *
              generalize wroteB h 0 k t = b at *
              simp -dsimp [ratlinelaw19_OrderChains_l29, ht, setRange]
              refine ⟨fun _ => ?_, fun hx => absurd hic (by omega)⟩
              refine call_newH hR1 rfl (by simp) (by simp) (by simp) (by simp) ?_
              cases b with
              | true =>
                simp -dsimp [ht, hwn]
                refine call_pure hP1 (by simp) (by simp) ?_
                rw [decide_eq_true_eq] at hpl
                simp -dsimp [hpl, hic, hwi]
              | false =>
                simp -dsimp [ht, hwn]
                refine call_pure hP1 (by simp) (by simp) ?_
                rw [decide_eq_false_iff_not] at hpl
                simp -dsimp [hpl, hic, hwi]
            · have hie : i = c.length := by omega
              subst hie
              simp -dsimp [ratlinelaw19_OrderChains_l29]
              rw [wrap_in (by omega)]
              omega
    · have hs1 : ofP (SmallP h) = false := ofP_false.2 hs
      simp -dsimp [hs1]
  · simp -dsimp
    refine call_newH hr rfl (by simp [Hs.av]) (by simp [Hs.av]) (by simp) (by simp) ?_
    by_cases hs : SmallP h
    · have hs1 : ofP (SmallP h) = true := ofP_true.2 hs
      simp -dsimp [hs1]
    · have hs1 : ofP (SmallP h) = false := ofP_false.2 hs
      simp -dsimp [hs1]
end Go.Rt
end
