/- Contracts of functions of the program, and what they lean on. Conditions: those of each theorem. -/
import Derived.Test.YtpgkohlaiaoolaaPC
import Derived.Test.YtpgkohlaiaoolaaMD
import Derived.Test.YtpgkohlaiaoolaaRows

set_option linter.unusedVariables false
set_option linter.unusedSimpArgs false

/- The laws TimerNone and TimerApart. -/
section
namespace Go.Rt
open Go.Vm

set_option maxRecDepth 8000 in
set_option maxHeartbeats 4000000 in
theorem TimerNone_spec (owner ticks : Int) : GSpec prog true n_ratlinelaw13_TimerNone [vi owner, vi ticks] [] (vb true) [] := by
  refine gspec1 ratlinelaw13_TimerNone_is (by simp) (by decide) rfl ?_
  simp -dsimp [ratlinelaw13_TimerNone]
  refine call_pure awake_spec (by simp) (by simp) ?_
  simp -dsimp
  refine call_mut (Pass_nil ticks) rfl (by simp) (by simp) (by simp) (by simp) (by simp) (by simp) (by simp) ?_
  simp -dsimp
  refine call_mut (Start_nil owner) rfl (by simp) (by simp) (by simp) (by simp) (by simp) (by simp) (by simp) ?_
  simp -dsimp
  refine call_mut (Stop_nil owner) rfl (by simp) (by simp) (by simp) (by simp) (by simp) (by simp) (by simp) ?_
  simp -dsimp
  refine call_pure (Since_nil owner) (by simp) (by simp) ?_
  simp -dsimp
  refine call_pure Now_nil (by simp) (by simp) ?_
  simp -dsimp
  refine call_mut (Due_nil ticks) rfl (by simp) (by simp) (by simp) (by simp) (by simp) (by simp) (by simp) ?_
  simp -dsimp [intsIV, intsC]

theorem atL_start {L : List (Int × Int)} (now o k : Int) : atL (startL now L o) k = if k = o then some ((atL L o).getD now) else atL L k := by
  unfold startL
  cases h : atL L o with
  | none => simp [atL_ins o now k h]
  | some a =>
    simp
    intro e; subst e; exact h

set_option maxRecDepth 8000 in
set_option maxHeartbeats 8000000 in
theorem TimerApart_spec (a b ticks : Int) : GSpec prog true n_ratlinelaw13_TimerApart [vi a, vi b, vi ticks] [] (vb true) [] := by
  refine gspec1 ratlinelaw13_TimerApart_is (by simp) (by decide) rfl ?_
  simp -dsimp [ratlinelaw13_TimerApart]
  refine call_pure awake_spec (by simp) (by simp) ?_
  by_cases hab : a = b
  · simp -dsimp [hab]
  simp -dsimp [hab]
  have k1 := ok_start ok_new a (by decide)
  have k2 := ok_pass k1 ticks
  generalize hn : passN 0 ticks = n at k2
  generalize hL1 : startL 0 [] a = L1 at k1 k2
  have l1 : L1.length ≤ 1 := by subst hL1; exact len_start 0 [] a
  have k3 := ok_start k2 b (by omega)
  have k4 := ok_pass k3 7
  generalize hm : passN n 7 = m at k4
  generalize hL2 : startL n L1 b = L2 at k3 k4
  have l2 : L2.length ≤ 2 := by subst hL2; have := len_start n L1 b; omega
  have k5 := ok_stop k4 b
  generalize hL3 : stopL L2 b = L3 at k5
  have l3 : L3.length ≤ 2 := by subst hL3; have := len_stop L2 b; omega
  have k6 := ok_start k5 b (by omega)
  generalize hL4 : startL m L3 b = L4 at k6
  have hba : ¬b = a := fun e => hab e.symm
  have a1a : atL L1 a = some 0 := by rw [← hL1, atL_start]; simp [atL]
  have a1b : atL L1 b = none := by rw [← hL1, atL_start]; simp [atL, hba]
  have a2a : atL L2 a = some 0 := by rw [← hL2, atL_start]; simp [hab, a1a]
  have a2b : atL L2 b = some n := by rw [← hL2, atL_start]; simp [a1b]
  have a3a : atL L3 a = some 0 := by rw [← hL3, atL_stop k4.rise]; simp [hab, a2a]
  have a3b : atL L3 b = none := by rw [← hL3, atL_stop k4.rise]; simp
  have a4b : atL L4 b = some m := by rw [← hL4, atL_start]; simp [a3b]
  have hnn : n = min (max ticks 0) 1000 := by subst hn; unfold passN; omega
  have hmm : m = n + 7 := by subst hm; unfold passN; omega
  have hw : IntKind.i64.wrap (n + 7) = n + 7 := by rw [IntKind.wrap_i64]; omega
  refine call_newH New_spec rfl (by simp) (by simp) (by simp) (by simp) ?_
  simp -dsimp
  refine call_mut (Start_at 0 [] a) rfl (by simp) (by simp) (by simp) (by simp) (by simp) (by simp) (by simp) ?_
  simp -dsimp [hL1]
  refine call_mut (Pass_at k1 ticks) rfl (by simp) (by simp) (by simp) (by simp) (by simp) (by simp) (by simp) ?_
  simp -dsimp [hn]
  refine call_pure (Now_spec n L1) (by simp [tmIV]) (by simp [tmIV]) ?_
  simp -dsimp
  refine call_mut (Start_at n L1 b) rfl (by simp) (by simp) (by simp) (by simp) (by simp) (by simp) (by simp) ?_
  simp -dsimp [hL2]
  refine call_mut (Pass_at k3 7) rfl (by simp) (by simp) (by simp) (by simp) (by simp) (by simp) (by simp) ?_
  simp -dsimp [hm]
  refine call_pure (Since_spec k4 a) (by simp [tmIV]) (by simp [tmIV]) ?_
  simp -dsimp [sinceN, sinceB, a2a]
  refine call_pure (Since_spec k4 b) (by simp [tmIV]) (by simp [tmIV]) ?_
  simp -dsimp [sinceN, sinceB, a2b]
  refine call_mut (Stop_at k4 b) rfl (by simp) (by simp) (by simp) (by simp) (by simp) (by simp) (by simp) ?_
  simp -dsimp [hL3]
  refine call_pure (Since_spec k5 a) (by simp [tmIV]) (by simp [tmIV]) ?_
  simp -dsimp [sinceN, sinceB, a3a]
  refine call_pure (Since_spec k5 b) (by simp [tmIV]) (by simp [tmIV]) ?_
  simp -dsimp [sinceN, sinceB, a3b]
  refine call_mut (Start_at m L3 b) rfl (by simp) (by simp) (by simp) (by simp) (by simp) (by simp) (by simp) ?_
  simp -dsimp [hL4]
  refine call_pure (Since_spec k6 b) (by simp [tmIV]) (by simp [tmIV]) ?_
  have e7 : m - n = 7 := by omega
  have e0 : m - m = 0 := by omega
  simp -dsimp [sinceN, sinceB, a4b, hw, e7, e0, ← hmm, ← hnn]
  rw [hmm, hw]
end Go.Rt
end

/- The law TimerDue. -/
section
namespace Go.Rt
open Go.Vm

def goneN (l : List Int) : Int := (l.map fun t => min (max t 0) 1000).sum
theorem gone_snoc (l : List Int) (t : Int) : goneN (l ++ [t]) = goneN l + min (max t 0) 1000 := by simp [goneN]
theorem gone_le : ∀ (l : List Int), 0 ≤ goneN l ∧ goneN l ≤ 1000 * l.length
  | [] => by simp [goneN]
  | t :: l => by
    have := gone_le l
    have e : goneN (t :: l) = min (max t 0) 1000 + goneN l := by simp [goneN]
    rw [e, List.length_cons]
    omega

set_option maxRecDepth 8000 in
set_option maxHeartbeats 8000000 in
theorem TimerDue_spec (owner limit : Int) (steps : List Int) : GSpec prog true n_ratlinelaw13_TimerDue [vi owner, vi limit, .iv (intsIV steps)] [] (vb true) [] := by
  refine gspec1 ratlinelaw13_TimerDue_is (by simp) (by decide) rfl ?_
  simp -dsimp [ratlinelaw13_TimerDue, intsIV]
  refine call_pure awake_spec (by simp) (by simp) ?_
  by_cases h1 : limit < 1
  · simp -dsimp [h1]
  by_cases h2 : 5000 < limit
  · simp -dsimp [h1, h2]
  simp -dsimp [h1, h2]
  have e0 : startL 0 [] owner = [(owner, 0)] := by simp [startL, atL, insL]
  have eo : atL [(owner, 0)] owner = some 0 := by simp [atL]
  have es : ∀ g : Int, startL g [(owner, 0)] owner = [(owner, 0)] := fun g => by simp [startL, eo]
  have ed : ∀ g lim : Int, dueL g [(owner, 0)] lim = if lim ≤ g then [owner] else [] := fun g lim => by
    unfold dueL
    by_cases h : lim ≤ g <;> simp [h]
  have hok : ∀ i, i ≤ 50 → TmOk (goneN (steps.take i)) [(owner, 0)] := fun i hi => by
    have := gone_le (steps.take i)
    have h2 : (steps.take i).length ≤ i := by simp; omega
    refine ⟨this.1, by omega, ?_, by simp, by simp⟩
    intro p hp
    simp only [List.mem_singleton] at hp
    subst hp
    exact ⟨Int.le_refl _, this.1⟩
  refine call_newH New_spec rfl (by simp) (by simp) (by simp) (by simp) ?_
  simp -dsimp
  refine call_mut (Start_at 0 [] owner) rfl (by simp) (by simp) (by simp) (by simp) (by simp) (by simp) (by simp) ?_
  simp -dsimp [e0]
  refine loop_idx [] [62] (min steps.length 50) (fun i => ⟨[(10, vi i), (9, vi (goneN (steps.take i))), (8, .ptr 3 0), (2, .iv (.lst 1 (intsC steps))), (1, vi limit), (0, vi owner)], tm3 (goneN (steps.take i)) [(owner, 0)]⟩) (fun _ => True) ?_ trivial ?_
  · simp -dsimp [goneN]
  · intro i hi _
    have hi50 : i ≤ 50 := by omega
    have hk := hok i hi50
    by_cases hil : i < min steps.length 50
    · have hil1 : i < steps.length := by omega
      have hil2 : i < 50 := by omega
      obtain ⟨t, ht⟩ := some_at hil1
      have hiw := wrap_in (n := (i : Int) + 1) (by omega)
      have hnx : goneN (steps.take (i + 1)) = goneN (steps.take i) + min (max t 0) 1000 := by rw [take_next' ht, gone_snoc]
      have hk' := hok (i + 1) hil2
      have hg1 := gone_le (steps.take (i + 1))
      have hg2 : (steps.take (i + 1)).length ≤ i + 1 := by simp; omega
      have hp : passN (goneN (steps.take i)) t = goneN (steps.take (i + 1)) := by unfold passN; omega
      have hw : IntKind.i64.wrap (goneN (steps.take (i + 1))) = goneN (steps.take (i + 1)) := by rw [IntKind.wrap_i64]; omega
      have hi3 : (i : Int) < steps.length := by omega
      have hi4 : (i : Int) < 50 := by omega
      have hci : (intsC steps)[i]'(by simp; exact hil1) = [ci t] := by
        have h1 : (intsC steps)[i]? = some [ci t] := by simp [ht]
        exact (List.getElem?_eq_some_iff.1 h1).2
      simp -dsimp [ratlinelaw13_TimerDue_l21, ht, hil1, hil2, hi3, hi4, hci]
      refine call_mut (Pass_at hk t) rfl (by simp) (by simp) (by simp) (by simp) (by simp) (by simp) (by simp) ?_
      simp -dsimp [hp, ht, ← hnx, hw]
      refine call_mut (Start_at (goneN (steps.take (i + 1))) [(owner, 0)] owner) rfl (by simp) (by simp) (by simp) (by simp) (by simp) (by simp) (by simp) ?_
      have hd := timer_Due_spec hk' limit 62
      rw [ed] at hd
      by_cases hc : limit ≤ goneN (steps.take (i + 1))
      · rw [if_pos hc] at hd
        simp -dsimp [es, hc]
        refine call_new hd (by decide) (by simp [tmIV]) (by simp [tmIV]) ?_
        simp -dsimp [intsC, hiw]
        omega
      · rw [if_neg hc] at hd
        simp -dsimp [es, hc]
        refine call_new hd (by decide) (by simp [tmIV]) (by simp [tmIV]) ?_
        simp -dsimp [intsC, hiw]
        omega
    · have hie : i = min steps.length 50 := by omega
      have hcond : ¬i < steps.length ∨ (i < steps.length ∧ ¬(i : Int) < 50) := by omega
      generalize hg : goneN (steps.take i) = g at hk
      have hst : stopL [(owner, 0)] owner = [] := by simp [stopL]
      have hk2 := ok_stop hk owner
      rw [hst] at hk2
      have hgg : g - 0 = g := by omega
      have hd := timer_Due_spec hk2 limit 106
      have he : dueL g [] limit = [] := rfl
      rw [he] at hd
      have en : atL [] owner = none := rfl
      rcases hcond with hc1 | ⟨hc1, hc2⟩
      all_goals
        first | simp -dsimp [ratlinelaw13_TimerDue_l21, hc1, hc2] | simp -dsimp [ratlinelaw13_TimerDue_l21, hc1]
        refine call_pure (Since_spec hk owner) (by simp [tmIV]) (by simp [tmIV]) ?_
        simp -dsimp [sinceN, sinceB, eo, hgg]
        refine call_mut (Stop_at hk owner) rfl (by simp) (by simp) (by simp) (by simp) (by simp) (by simp) (by simp) ?_
        simp -dsimp [hst]
        refine call_pure (Since_spec hk2 owner) (by simp [tmIV]) (by simp [tmIV]) ?_
        simp -dsimp [sinceN, sinceB, en]
        refine call_new hd (by decide) (by simp [tmIV]) (by simp [tmIV]) ?_
        simp -dsimp [intsC]
        refine call_pure (Now_spec g []) (by simp [tmIV]) (by simp [tmIV]) ?_
        simp -dsimp
end Go.Rt
end

/- The law TimerOrders. -/
section
namespace Go.Rt
open Go.Vm

/-- something that is done to a timer -/
structure Ac where
  kind : Int
  owner : Int
  ticks : Int
  deriving Inhabited
abbrev Ac.cells (a : Ac) : List IV := [ci a.kind, ci a.owner, ci a.ticks]
def acsC (l : List Ac) : List (List IV) := l.map Ac.cells
@[simp] theorem acsC_length (l : List Ac) : (acsC l).length = l.length := by simp [acsC]
@[simp] theorem acsC_get (l : List Ac) (i : Nat) : (acsC l)[i]? = l[i]?.map Ac.cells := by simp [acsC]
def acsIV (l : List Ac) : IV := .lst 3 (acsC l)
noncomputable def lowK (k : Int) : Int := bits2 .and .i64 k 3
noncomputable def stepT (s : Int × List (Int × Int)) (a : Ac) : Int × List (Int × Int) :=
  if lowK a.kind = 0 then (passN s.1 a.ticks, s.2) else if lowK a.kind = 1 ∨ lowK a.kind = 2 then (s.1, startL s.1 s.2 a.owner) else (s.1, stopL s.2 a.owner)
noncomputable def playsT (l : List Ac) : Int × List (Int × Int) := l.foldl stepT (0, [])
theorem plays_snoc (l : List Ac) (a : Ac) : playsT (l ++ [a]) = stepT (playsT l) a := by simp [playsT]
theorem step_ok {s : Int × List (Int × Int)} (h : TmOk s.1 s.2) (hl : s.2.length + 1 < 2 ^ 31) (a : Ac) : TmOk (stepT s a).1 (stepT s a).2 ∧ (stepT s a).2.length ≤ s.2.length + 1 := by
  unfold stepT
  split
  · exact ⟨ok_pass h _, Nat.le_succ _⟩
  · split
    · exact ⟨ok_start h _ hl, len_start _ _ _⟩
    · exact ⟨ok_stop h _, Nat.le_succ_of_le (len_stop _ _)⟩
theorem fold_ok : ∀ (l : List Ac) (s : Int × List (Int × Int)), TmOk s.1 s.2 → s.2.length + l.length < 2 ^ 31 → TmOk (l.foldl stepT s).1 (l.foldl stepT s).2 ∧ (l.foldl stepT s).2.length ≤ s.2.length + l.length
  | [], s, h, _ => ⟨h, Nat.le_refl _⟩
  | a :: l, s, h, hl => by
    simp only [List.length_cons] at hl
    obtain ⟨h1, h2⟩ := step_ok h (by omega) a
    obtain ⟨h3, h4⟩ := fold_ok l (stepT s a) h1 (by omega)
    refine ⟨h3, ?_⟩
    simp only [List.foldl_cons, List.length_cons]
    omega
theorem plays_ok {l : List Ac} (h : l.length ≤ 100) : TmOk (playsT l).1 (playsT l).2 ∧ (playsT l).2.length ≤ l.length := by
  have := fold_ok l (0, []) ok_new (by simp; omega)
  simpa [playsT] using this

theorem due_mem {now : Int} {L : List (Int × Int)} (ok : TmOk now L) {lim x : Int} (h : x ∈ dueL now L lim) : ∃ a, atL L x = some a ∧ lim ≤ now - a := by
  unfold dueL at h
  obtain ⟨p, hp, rfl⟩ := List.mem_map.1 h
  obtain ⟨h1, h2⟩ := List.mem_filter.1 hp
  exact ⟨p.2, atL_of ok.rise h1, by simpa using h2⟩
theorem due_rise {now : Int} {L : List (Int × Int)} (ok : TmOk now L) (lim : Int) : (dueL now L lim).Pairwise (· < ·) := by
  unfold dueL
  exact ok.rise.sublist (List.filter_sublist.map _)
theorem due_len {now : Int} {L : List (Int × Int)} (lim : Int) : (dueL now L lim).length ≤ L.length := by
  unfold dueL
  rw [List.length_map]
  exact List.length_filter_le _ _
theorem due_sub {now : Int} {L : List (Int × Int)} (ok : TmOk now L) {low high : Int} (h : low ≤ high) : dueL now L high = (dueL now L low).filter fun o => decide (high ≤ sinceN now L o) := by
  unfold dueL
  rw [List.filter_map, List.filter_filter]
  congr 1
  refine List.filter_congr fun p hp => ?_
  have : sinceN now L p.1 = now - p.2 := by simp [sinceN, atL_of ok.rise hp]
  simp only [Function.comp, this]
  by_cases hh : high ≤ now - p.2
  · simp [hh]; omega
  · simp [hh]

theorem filt_at {l : List Int} {P : Int → Bool} {j : Nat} {x : Int} (hx : l[j]? = some x) :
    (P x = true → (l.filter P)[((l.take j).filter P).length]? = some x) ∧ (P x = false → ∀ y, (l.filter P)[((l.take j).filter P).length]? = some y → y ≠ x) := by
  have hj := (List.getElem?_eq_some_iff.1 hx).1
  have e : l = l.take j ++ x :: l.drop (j + 1) := by
    have := (List.getElem?_eq_some_iff.1 hx).2
    rw [← this, ← List.drop_eq_getElem_cons hj, List.take_append_drop]
  have e2 : l.filter P = (l.take j).filter P ++ (x :: l.drop (j + 1)).filter P := by
    conv => lhs; rw [e, List.filter_append]
  constructor
  · intro h
    rw [e2, List.getElem?_append_right (Nat.le_refl _)]
    simp [h]
  · intro h y hy e3
    have := List.mem_of_getElem? hy
    rw [e3] at this
    have := (List.mem_filter.1 this).2
    rw [h] at this
    cases this

set_option maxRecDepth 8000 in
set_option maxHeartbeats 8000000 in
theorem TimerOrders_spec (script : List Ac) (low high : Int) : GSpec prog true n_ratlinelaw13_TimerOrders [.iv (acsIV script), vi low, vi high] [] (vb true) [] := by
  refine gspec1 ratlinelaw13_TimerOrders_is (by simp) (by decide) rfl ?_
  simp -dsimp [ratlinelaw13_TimerOrders, acsIV]
  refine call_pure awake_spec (by simp) (by simp) ?_
  by_cases h1 : high < low
  · simp -dsimp [h1]
  simp -dsimp [h1]
  refine call_newH New_spec rfl (by simp) (by simp) (by simp) (by simp) ?_
  simp -dsimp
  refine loop_idx [] [10] (min script.length 100) (fun i => ⟨[(9, vi i), (8, .ptr 3 0), (2, vi high), (1, vi low), (0, .iv (.lst 3 (acsC script)))], tm3 (playsT (script.take i)).1 (playsT (script.take i)).2⟩) (fun _ => True) ?_ trivial ?_
  · simp -dsimp [playsT]
  · intro i hi _
    have hi100 : i ≤ 100 := by omega
    obtain ⟨hk, hkl⟩ := plays_ok (l := script.take i) (by simp; omega)
    have htl : (script.take i).length ≤ i := by simp; omega
    by_cases hil : i < min script.length 100
    · have hil1 : i < script.length := by omega
      obtain ⟨a, ha⟩ := some_at hil1
      have hiw := wrap_in (n := (i : Int) + 1) (by omega)
      have hnx : playsT (script.take (i + 1)) = stepT (playsT (script.take i)) a := by rw [take_next' ha, plays_snoc]
      have hi3 : (i : Int) < script.length := by omega
      have hi4 : (i : Int) < 100 := by omega
      have hci : (acsC script)[i]'(by simp; exact hil1) = a.cells := by
        have h1 : (acsC script)[i]? = some a.cells := by simp [ha]
        exact (List.getElem?_eq_some_iff.1 h1).2
      rw [hnx]
      generalize playsT (script.take i) = s at hk hkl
      by_cases k0 : lowK a.kind = 0
      · have k0' : bits2 .and .i64 a.kind 3 = 0 := k0
        simp -dsimp [ratlinelaw13_TimerOrders_l18, hil1, hi3, hi4, hci, k0']
        refine call_mut (Pass_at hk a.ticks) rfl (by simp) (by simp) (by simp) (by simp) (by simp) (by simp) (by simp) ?_
        simp -dsimp [hiw, stepT, k0]
        exact hil
      · have k0' : ¬bits2 .and .i64 a.kind 3 = 0 := k0
        by_cases k1 : lowK a.kind = 1
        · have k1' : bits2 .and .i64 a.kind 3 = 1 := k1
          simp -dsimp [ratlinelaw13_TimerOrders_l18, hil1, hi3, hi4, hci, k0', k1']
          refine call_mut (Start_at s.1 s.2 a.owner) rfl (by simp) (by simp) (by simp) (by simp) (by simp) (by simp) (by simp) ?_
          simp -dsimp [hiw, stepT, k0, k1]
          exact hil
        · have k1' : ¬bits2 .and .i64 a.kind 3 = 1 := k1
          by_cases k2 : lowK a.kind = 2
          · have k2' : bits2 .and .i64 a.kind 3 = 2 := k2
            simp -dsimp [ratlinelaw13_TimerOrders_l18, hil1, hi3, hi4, hci, k0', k1', k2']
            refine call_mut (Start_at s.1 s.2 a.owner) rfl (by simp) (by simp) (by simp) (by simp) (by simp) (by simp) (by simp) ?_
            simp -dsimp [hiw, stepT, k0, k1, k2]
            exact hil
          · have k2' : ¬bits2 .and .i64 a.kind 3 = 2 := k2
            simp -dsimp [ratlinelaw13_TimerOrders_l18, hil1, hi3, hi4, hci, k0', k1', k2']
            refine call_mut (Stop_at hk a.owner) rfl (by simp) (by simp) (by simp) (by simp) (by simp) (by simp) (by simp) ?_
            simp -dsimp [hiw, stepT, k0, k1, k2]
            exact hil
    · have hie : i = min script.length 100 := by omega
      have hcond : ¬i < script.length ∨ (i < script.length ∧ ¬(i : Int) < 100) := by omega
      have hll : (playsT (script.take i)).2.length ≤ 100 := by omega
      generalize playsT (script.take i) = s at hk hkl hll
      obtain ⟨now, L⟩ := s
      simp only at hk hkl hll
      have hdl := timer_Due_spec hk low 60
      have hdm := timer_Due_spec hk high 63
      have hmem := fun x => due_mem hk (lim := low) (x := x)
      have hrise := due_rise hk low
      have hlen := due_len (now := now) (L := L) low
      have hsub := due_sub hk (low := low) (high := high) (by omega)
      generalize dueL now L low = l at hdl hmem hrise hlen hsub
      generalize dueL now L high = m at hdm hsub
      rcases hcond with hc1 | ⟨hc1, hc2⟩
      all_goals
        first | simp -dsimp [ratlinelaw13_TimerOrders_l18, hc1, hc2] | simp -dsimp [ratlinelaw13_TimerOrders_l18, hc1]
        refine call_new hdl (by decide) (by simp [tmIV]) (by simp [tmIV]) ?_
        simp -dsimp
        refine call_new hdm (by decide) (by simp [tmIV]) (by simp [tmIV]) ?_
        simp -dsimp
        refine loop_idx [60, 63] [] l.length (fun i => ⟨[(14, vi i), (13, vi ((l.take i).filter fun o => decide (high ≤ sinceN now L o)).length), (12, .iv (.lst 1 (intsC m))), (11, .iv (.lst 1 (intsC l))), (8, .ptr 3 0), (1, vi low)], tm3 now L⟩) (fun _ => True) ?_ trivial ?_
        · simp -dsimp [List.take_of_length_le]
        · intro j hj _
          by_cases hjl : j < l.length
          · obtain ⟨x, hx⟩ := some_at hjl
            obtain ⟨a, ha, hla⟩ := hmem x (List.mem_of_getElem? hx)
            have hjw := wrap_in (n := (j : Int) + 1) (by omega)
            have hcj : (intsC l)[j]'(by simp; exact hjl) = [ci x] := by
              have h1 : (intsC l)[j]? = some [ci x] := by simp [hx]
              exact (List.getElem?_eq_some_iff.1 h1).2
            have hnl : ¬now - a < low := by omega
            have hca : sinceN now L x = now - a := by simp [sinceN, ha]
            obtain ⟨hf1, hf2⟩ := filt_at (P := fun o => decide (high ≤ sinceN now L o)) hx
            rw [← hsub] at hf1 hf2
            have hkle : ((l.take j).filter fun o => decide (high ≤ sinceN now L o)).length ≤ j := Nat.le_trans (List.length_filter_le _ _) (by simp; omega)
            have htn : ((l.take (j + 1)).filter fun o => decide (high ≤ sinceN now L o)).length = ((l.take j).filter fun o => decide (high ≤ sinceN now L o)).length + if high ≤ now - a then 1 else 0 := by
              rw [take_next' hx, List.filter_append]
              by_cases hh : high ≤ now - a <;> simp [hca, hh]
            simp -dsimp [ratlinelaw13_TimerOrders_l30, hjl, hcj, -ratlinelaw13_TimerOrders_t25, -ratlinelaw13_TimerOrders_t27]
            refine call_pure (Since_spec hk x) (by simp [tmIV]) (by simp [tmIV]) ?_
            rw [hca] at hf1 hf2
            generalize ((l.take j).filter fun o => decide (high ≤ sinceN now L o)).length = k at hf1 hf2 hkle htn
            generalize ((l.take (j + 1)).filter fun o => decide (high ≤ sinceN now L o)).length = k' at htn
            have hkw := wrap_in (n := (k : Int) + 1) (by omega)
            by_cases hj0 : 0 < j
            · obtain ⟨y, hy⟩ : ∃ y, l[j - 1]? = some y := some_at (by omega)
              have hyx : y < x := by
                have := List.pairwise_iff_getElem.1 hrise (j - 1) j (by omega) hjl (by omega)
                rwa [(List.getElem?_eq_some_iff.1 hy).2, (List.getElem?_eq_some_iff.1 hx).2] at this
              have hnx : ¬x ≤ y := by omega
              have hpi : IntKind.i64.wrap ((j : Int) - 1) = ((j - 1 : Nat) : Int) := by rw [IntKind.wrap_i64]; omega
              simp -dsimp [sinceN, sinceB, ha, hnl, -ratlinelaw13_TimerOrders_t27, hj0, hx, hpi, hy, hnx]
              by_cases hh : high ≤ now - a
              · have hmk := hf1 (by simpa using hh)
                have hkm := (List.getElem?_eq_some_iff.1 hmk).1
                have hcm : (intsC m)[k]'(by simp; exact hkm) = [ci x] := by
                  have h1 : (intsC m)[k]? = some [ci x] := by simp [hmk]
                  exact (List.getElem?_eq_some_iff.1 h1).2
                rw [if_pos hh] at htn
                simp -dsimp [ratlinelaw13_TimerOrders_t27, hkm, hcm, hjl, hcj, hkw, hjw, htn]
              · rw [if_neg hh] at htn
                by_cases hkm : k < m.length
                · obtain ⟨y, hy⟩ := some_at hkm
                  have hyx : ¬y = x := hf2 (by simpa using hh) y hy
                  have hcm : (intsC m)[k]'(by simp; exact hkm) = [ci y] := by
                    have h1 : (intsC m)[k]? = some [ci y] := by simp [hy]
                    exact (List.getElem?_eq_some_iff.1 h1).2
                  simp -dsimp [ratlinelaw13_TimerOrders_t27, hkm, hcm, hjl, hcj, hkw, hjw, htn, hyx]
                · simp -dsimp [ratlinelaw13_TimerOrders_t27, hkm, hjl, hcj, hkw, hjw, htn]
            · simp -dsimp [sinceN, sinceB, ha, hnl, -ratlinelaw13_TimerOrders_t27, hj0]
              by_cases hh : high ≤ now - a
              · have hmk := hf1 (by simpa using hh)
                have hkm := (List.getElem?_eq_some_iff.1 hmk).1
                have hcm : (intsC m)[k]'(by simp; exact hkm) = [ci x] := by
                  have h1 : (intsC m)[k]? = some [ci x] := by simp [hmk]
                  exact (List.getElem?_eq_some_iff.1 h1).2
                rw [if_pos hh] at htn
                simp -dsimp [ratlinelaw13_TimerOrders_t27, hkm, hcm, hjl, hcj, hkw, hjw, htn]
              · rw [if_neg hh] at htn
                by_cases hkm : k < m.length
                · obtain ⟨y, hy⟩ := some_at hkm
                  have hyx : ¬y = x := hf2 (by simpa using hh) y hy
                  have hcm : (intsC m)[k]'(by simp; exact hkm) = [ci y] := by
                    have h1 : (intsC m)[k]? = some [ci y] := by simp [hy]
                    exact (List.getElem?_eq_some_iff.1 h1).2
                  simp -dsimp [ratlinelaw13_TimerOrders_t27, hkm, hcm, hjl, hcj, hkw, hjw, htn, hyx]
                · simp -dsimp [ratlinelaw13_TimerOrders_t27, hkm, hjl, hcj, hkw, hjw, htn]
          · have hje : j = l.length := by omega
            have hml : ((l.take j).filter fun o => decide (high ≤ sinceN now L o)).length = m.length := by rw [hsub, List.take_of_length_le (by omega)]
            simp -dsimp [ratlinelaw13_TimerOrders_l30, hjl, hml]
end Go.Rt
end

/- What comes in: numbers, rows of numbers, scripts. -/
section
namespace Go.Rt
open Go.Vm

theorem wf_int {P : Program} {f : Nat} {t : TypeId} {cs : List IV} {k : IntKind} (hu : P.underlying t = some (.int k)) (h : WfT P f t cs) : ∃ n, cs = [.v (.int k n)] ∧ (Lit.int k n).wf = true := by
  cases f with
  | zero => exact h.elim
  | succ f => simpa only [WfT, hu] using h
theorem wf_slice {P : Program} {f : Nat} {t e n : Nat} {cs : List IV} (hu : P.underlying t = some (.slice e)) (hn : P.cellsOf e = n) (h : WfT P f t cs) : ∃ f', f = f' + 1 ∧ ∃ xs, cs = [.lst n xs] ∧ xs.length < 2 ^ 63 ∧ ∀ x ∈ xs, WfT P f' e x := by
  cases f with
  | zero => exact h.elim
  | succ f =>
    simp only [WfT, hu, hn] at h
    obtain ⟨xs, h1, h2, h3⟩ := h
    exact ⟨f, rfl, xs, h1, Nat.lt_of_le_of_lt h2 (by decide), h3⟩
def fieldsOf (P : Program) (t : TypeId) : Option (List (Nat × Nat × Nat)) := match P.underlying t with
  | some (.struct fs) => some (fs.toList.map fun f => (f.type, f.offset, P.cellsOf f.type))
  | _ => none
theorem wf_struct {P : Program} {f : Nat} {t n : Nat} {l : List (Nat × Nat × Nat)} {cs : List IV} (hu : fieldsOf P t = some l) (hn : P.cellsOf t = n) (h : WfT P f t cs) :
    ∃ f', f = f' + 1 ∧ cs.length = n ∧ ∀ p ∈ l, WfT P f' p.1 ((cs.drop p.2.1).take p.2.2) := by
  unfold fieldsOf at hu
  split at hu
  · rename_i fs hu'
    cases f with
    | zero => exact h.elim
    | succ f =>
      simp only [WfT, hu', hn] at h
      refine ⟨f, rfl, h.1, fun p hp => ?_⟩
      cases hu
      obtain ⟨fld, h1, rfl⟩ := List.mem_map.1 hp
      exact h.2 fld h1
  · cases hu
theorem cut_at {α : Type} (cs : List α) (o n : Nat) {x : List α} (h : (cs.drop o).take n = x) : cs.drop o = x ++ cs.drop (o + n) := by
  rw [← h, ← List.drop_drop, List.take_append_drop]
theorem cut_end {α : Type} {cs : List α} {o : Nat} (h : cs.length = o) : cs.drop o = [] := List.drop_eq_nil_of_le (by omega)
theorem list_choose {α β : Type} {f : α → β} {Q : α → Prop} : ∀ {xs : List β}, (∀ x, x ∈ xs → ∃ p, Q p ∧ x = f p) → ∃ ps : List α, xs = ps.map f ∧ ∀ p, p ∈ ps → Q p
  | [], _ => ⟨[], rfl, fun _ h => by cases h⟩
  | x :: r, h => by
    obtain ⟨p, h1, rfl⟩ := h x List.mem_cons_self
    obtain ⟨ps, rfl, h3⟩ := list_choose (xs := r) fun y hy => h y (List.mem_cons_of_mem _ hy)
    exact ⟨p :: ps, rfl, fun q hq => by
      rcases List.mem_cons.1 hq with rfl | hq
      · exact h1
      · exact h3 q hq⟩

theorem u3 : prog.underlying 3 = some (.int .i64) := by kernel_rfl
theorem wf_ints {f : Nat} {cs : List IV} (h : WfT prog f 37 cs) : ∃ l : List Int, cs = [intsIV l] ∧ l.length < 2 ^ 63 := by
  obtain ⟨f, rfl, xs, rfl, hl, hx⟩ := wf_slice (P := prog) (t := 37) (e := 3) (n := 1) (by kernel_rfl) (by kernel_rfl) h
  obtain ⟨l, rfl, _⟩ := list_choose (f := fun i : Int => [ci i]) (Q := fun _ => True) (xs := xs) fun x hm => by
    obtain ⟨n, h1, _⟩ := wf_int u3 (hx x hm); exact ⟨n, trivial, h1⟩
  exact ⟨l, rfl, by simpa using hl⟩
theorem wf_ac {f : Nat} {cs : List IV} (h : WfT prog f 30 cs) : ∃ a : Ac, cs = a.cells := by
  obtain ⟨f, rfl, hl, hf⟩ := wf_struct (P := prog) (t := 30) (n := 3) (l := [(3, 0, 1), (3, 1, 1), (3, 2, 1)]) (by kernel_rfl) (by kernel_rfl) h
  obtain ⟨a, h1, _⟩ := wf_int u3 (hf (3, 0, 1) (by decide))
  obtain ⟨b, h2, _⟩ := wf_int u3 (hf (3, 1, 1) (by decide))
  obtain ⟨c, h3, _⟩ := wf_int u3 (hf (3, 2, 1) (by decide))
  refine ⟨⟨a, b, c⟩, ?_⟩
  have e := cut_at cs 0 1 h1
  rw [cut_at cs 1 1 h2, cut_at cs 2 1 h3, cut_end hl] at e
  exact e
theorem wf_acs {f : Nat} {cs : List IV} (h : WfT prog f 22 cs) : ∃ l : List Ac, cs = [acsIV l] := by
  obtain ⟨f, rfl, xs, rfl, hl, hx⟩ := wf_slice (P := prog) (t := 22) (e := 30) (n := 3) (by kernel_rfl) (by kernel_rfl) h
  obtain ⟨l, rfl, _⟩ := list_choose (f := fun a : Ac => a.cells) (Q := fun _ => True) (xs := xs) fun x hm => by
    obtain ⟨n, h1⟩ := wf_ac (hx x hm); exact ⟨n, trivial, h1⟩
  exact ⟨l, rfl⟩
end Go.Rt
end

/- What the rows of this chapter share. -/
section
namespace Go.Proofs.Ytpgkohlaiaoolaa
open Go.ChangeShapes Go.WideShapes Go.ChangeAt Go.RowKit Go.Vm Go.Rt
open Go.Proofs (Try.prog)

theorem own : ownKnob Try.prog.godebug = none := by kernel_rfl
theorem laidOut : laidOutB Try.prog = true := by kernel_rfl
def tset : List TypeId := [22, 30, 37, 3, 4]
theorem tset_ok : plainSet Try.prog tset = true := by kernel_rfl
theorem readable : ∀ t ∈ [22, 37, 3], Try.prog.readableRec t = true ∧ t < Try.prog.types.size := by
  intro t ht
  simp only [List.mem_cons, List.not_mem_nil, or_false] at ht
  rcases ht with rfl | rfl | rfl
  · exact ⟨by kernel_rfl, of_decide_eq_true (by kernel_rfl)⟩
  · exact ⟨by kernel_rfl, of_decide_eq_true (by kernel_rfl)⟩
  · exact ⟨by kernel_rfl, of_decide_eq_true (by kernel_rfl)⟩
theorem agg22 : isAggT Try.prog 22 = false := by kernel_rfl
theorem agg37 : isAggT Try.prog 37 = false := by kernel_rfl
theorem agg3 : isAggT Try.prog 3 = false := by kernel_rfl

theorem args_si {css : List (List IV)} (h : WfArgs Try.prog [22, 3] css) : ∃ (l : List Ac) (i : Int), argsT Try.prog [22, 3] css = [.iv (acsIV l), vi i] := by
  match css, h with
  | [cs, ds], ⟨⟨f, h1⟩, ⟨g, h2⟩, _⟩ =>
    obtain ⟨a, rfl⟩ := wf_acs h1
    obtain ⟨b, rfl, _⟩ := wf_int u3 h2
    exact ⟨a, b, by simp only [argsT, agg22, agg3]; rfl⟩
theorem args_sii {css : List (List IV)} (h : WfArgs Try.prog [22, 3, 3] css) : ∃ (l : List Ac) (i j : Int), argsT Try.prog [22, 3, 3] css = [.iv (acsIV l), vi i, vi j] := by
  match css, h with
  | [cs, ds, es], ⟨⟨f, h1⟩, ⟨g, h2⟩, ⟨k, h3⟩, _⟩ =>
    obtain ⟨a, rfl⟩ := wf_acs h1
    obtain ⟨b, rfl, _⟩ := wf_int u3 h2
    obtain ⟨c, rfl, _⟩ := wf_int u3 h3
    exact ⟨a, b, c, by simp only [argsT, agg22, agg3]; rfl⟩
theorem args_ii {css : List (List IV)} (h : WfArgs Try.prog [3, 3] css) : ∃ (i j : Int), argsT Try.prog [3, 3] css = [vi i, vi j] := by
  match css, h with
  | [cs, ds], ⟨⟨f, h1⟩, ⟨g, h2⟩, _⟩ =>
    obtain ⟨a, rfl, _⟩ := wf_int u3 h1
    obtain ⟨b, rfl, _⟩ := wf_int u3 h2
    exact ⟨a, b, by simp only [argsT, agg3]; rfl⟩
theorem args_iii {css : List (List IV)} (h : WfArgs Try.prog [3, 3, 3] css) : ∃ (i j k : Int), argsT Try.prog [3, 3, 3] css = [vi i, vi j, vi k] := by
  match css, h with
  | [cs, ds, es], ⟨⟨f, h1⟩, ⟨g, h2⟩, ⟨k, h3⟩, _⟩ =>
    obtain ⟨a, rfl, _⟩ := wf_int u3 h1
    obtain ⟨b, rfl, _⟩ := wf_int u3 h2
    obtain ⟨c, rfl, _⟩ := wf_int u3 h3
    exact ⟨a, b, c, by simp only [argsT, agg3]; rfl⟩
theorem args_iil {css : List (List IV)} (h : WfArgs Try.prog [3, 3, 37] css) : ∃ (i j : Int) (l : List Int), argsT Try.prog [3, 3, 37] css = [vi i, vi j, .iv (intsIV l)] := by
  match css, h with
  | [cs, ds, es], ⟨⟨f, h1⟩, ⟨g, h2⟩, ⟨k, h3⟩, _⟩ =>
    obtain ⟨a, rfl, _⟩ := wf_int u3 h1
    obtain ⟨b, rfl, _⟩ := wf_int u3 h2
    obtain ⟨c, rfl, _⟩ := wf_ints h3
    exact ⟨a, b, c, by simp only [argsT, agg37, agg3]; rfl⟩
end Go.Proofs.Ytpgkohlaiaoolaa
end
