/- Contracts of functions of the program, and what they lean on. Conditions: those of each theorem. -/
import Derived.Test.YtpgkohlaiaoolaaPD

set_option linter.unusedVariables false
set_option linter.unusedSimpArgs false

/- The timer by definition. -/
section
namespace Go.Rt
open Go.Vm

def wtC (L : List (Int × Int)) : List (List IV) := L.map fun p => [ci p.1, ci p.2]
@[simp] theorem wtC_length (L : List (Int × Int)) : (wtC L).length = L.length := by simp [wtC]
@[simp] theorem wtC_get (L : List (Int × Int)) (i : Nat) : (wtC L)[i]? = L[i]?.map fun p => [ci p.1, ci p.2] := by simp [wtC]
abbrev wCs (now : Int) (L : List (Int × Int)) : List IV := [ci now, .lst 2 (wtC L)]
abbrev wAV (now : Int) (L : List (Int × Int)) : AV := .agg [.iv (ci now), .iv (.lst 2 (wtC L))]

theorem wPass_spec {now : Int} {L : List (Int × Int)} (ok : TmOk now L) (t : Int) : GSpec prog false n_ratlineref13_Timer_Pass [wAV now L, vi t] [] (.agg ((wCs (passN now t) L).map .iv)) [(4, .box ((wCs (passN now t) L).map .iv))] := by
  refine gspecCL [2] 4 (wCs (passN now t) L) rfl ratlineref13_Timer_Pass_is (by simp) (by decide) ?_
  have h0 := ok.now0
  have h1 := ok.now1
  have hw : IntKind.i64.wrap (now + min (max t 0) 1000) = now + min (max t 0) 1000 := by rw [IntKind.wrap_i64]; omega
  simp -dsimp [ratlineref13_Timer_Pass, hw]
  rfl
theorem wSince_spec {now : Int} {L : List (Int × Int)} (ok : TmOk now L) (o : Int) : GSpec prog true n_ratlineref13_Timer_Since [wAV now L, vi o] [] (.tup [vi (sinceN now L o), .iv (.v (.bool (sinceB L o)))]) [] := by
  refine gspec2 ratlineref13_Timer_Since_is (by simp) (by decide) rfl rfl ?_
  have hlen := ok.len
  simp -dsimp [ratlineref13_Timer_Since]
  refine loop_idx [] [] L.length (fun i => ⟨[(6, vi i), (1, vi o), (2, .ptr 2 0)], [(2, .box [.iv (ci now), .iv (.lst 2 (wtC L))])]⟩) (fun i => ∀ p ∈ L.take i, p.1 ≠ o) ?_ ?_ ?_
  · simp -dsimp
  · simp
  · intro i hi hq
    by_cases hil : i < L.length
    · have hil2 : ¬L.length ≤ i := by omega
      obtain ⟨p, hp⟩ := some_at hil
      have hiw := wrap_in (n := (i : Int) + 1) (by omega)
      have hpm := List.mem_of_getElem? hp
      have hat := atL_of ok.rise hpm
      obtain ⟨a0, a1⟩ := ok.at0 p hpm
      have h0 := ok.now0
      have h1 := ok.now1
      have hws : IntKind.i64.wrap (now - p.2) = now - p.2 := by rw [IntKind.wrap_i64]; omega
      by_cases hc : p.1 = o
      · have e1 : sinceN now L o = now - p.2 := by rw [← hc]; simp [sinceN, hat]
        have e2 : sinceB L o = true := by rw [← hc]; simp [sinceB, hat]
        simp -dsimp [ratlineref13_Timer_Since_l6, hil2, hp, hc, hws, e1, e2]
      · simp -dsimp [ratlineref13_Timer_Since_l6, hil2, hp, hc, hiw]
        have hnx : ∀ q ∈ L.take (i + 1), q.1 ≠ o := by
          rw [take_next' hp]
          intro q hq2
          rcases List.mem_append.1 hq2 with h | h
          · exact hq q h
          · simp only [List.mem_singleton] at h; subst h; exact hc
        exact fun _ => ⟨hil, fun a b h => hnx (a, b) h⟩
    · have hie : i = L.length := by omega
      subst hie
      rw [List.take_length] at hq
      have e : atL L o = none := atL_none.2 hq
      simp -dsimp [ratlineref13_Timer_Since_l6, sinceN, sinceB, e]
theorem wDue_spec {now : Int} {L : List (Int × Int)} (ok : TmOk now L) (lim : Int) (d : Nat) :
    GSpec prog true n_ratlineref13_Timer_Due [wAV now L, vi lim] [] (.sl d 1 0 (dueL now L lim).length) [(d, .list 1 (intsC (dueL now L lim)))] := by
  have hlen := ok.len
  have hcl : (intsC (dueL now L lim)).length = (dueL now L lim).length := by simp
  rw [← hcl]
  refine (gspecN 5 1 (intsC (dueL now L lim)) ratlineref13_Timer_Due_is (by simp) (by decide) (by simp [intsC, IV.flat]) ?_).fresh d (by simp [AV.shal, AV.shal2, AV.shal1]) (fun ρ => by simp [AV.ren, AV.ren2, AV.ren1])
  simp -dsimp [ratlineref13_Timer_Due]
  refine loop_idx [] [32] L.length (fun i => ⟨[(6, vi i), (5, .sl 5 1 0 (dueL now (L.take i) lim).length), (1, vi lim), (2, .ptr 2 0)], [(2, .box [.iv (ci now), .iv (.lst 2 (wtC L))]), (4, .list 1 []), (5, .list 1 (intsC (dueL now (L.take i) lim)))]⟩) (fun _ => True) ?_ trivial ?_
  · simp -dsimp [dueL, intsC]
  · intro i hi _
    by_cases hil : i < L.length
    · have hil2 : ¬L.length ≤ i := by omega
      obtain ⟨p, hp⟩ := some_at hil
      have hiw := wrap_in (n := (i : Int) + 1) (by omega)
      have hpm := List.mem_of_getElem? hp
      obtain ⟨a0, a1⟩ := ok.at0 p hpm
      have h0 := ok.now0
      have h1 := ok.now1
      have hws : IntKind.i64.wrap (now - p.2) = now - p.2 := by rw [IntKind.wrap_i64]; omega
      have hdl : (dueL now (L.take i) lim).length ≤ L.length := Nat.le_trans (due_len lim) (by simp; omega)
      have hnx : dueL now (L.take (i + 1)) lim = if lim ≤ now - p.2 then dueL now (L.take i) lim ++ [p.1] else dueL now (L.take i) lim := by
        rw [take_next' hp]
        unfold dueL
        by_cases hc : lim ≤ now - p.2 <;> simp [hc]
      generalize dueL now (L.take i) lim = R at hnx hdl
      generalize dueL now (L.take (i + 1)) lim = R' at hnx
      by_cases hc : lim ≤ now - p.2
      · rw [if_pos hc] at hnx
        have e : intsC (R ++ [p.1]) = intsC R ++ [[ci p.1]] := by simp [intsC]
        simp -dsimp [ratlineref13_Timer_Due_l7, hil2, hp, hws, hc, hiw, hnx, e]
        omega
      · rw [if_neg hc] at hnx
        simp -dsimp [ratlineref13_Timer_Due_l7, hil2, hp, hws, hc, hiw, hnx]
    · have hie : i = L.length := by omega
      subst hie
      simp -dsimp [ratlineref13_Timer_Due_l7]
theorem wStop_spec {now : Int} {L : List (Int × Int)} (ok : TmOk now L) (o : Int) : GSpec prog false n_ratlineref13_Timer_Stop [wAV now L, vi o] [] (.agg ((wCs now (stopL L o)).map .iv)) [(4, .box ((wCs now (stopL L o)).map .iv))] := by
  refine gspecCL [2, 5] 4 (wCs now (stopL L o)) rfl ratlineref13_Timer_Stop_is (by simp) (by decide) ?_
  have hlen := ok.len
  simp -dsimp [ratlineref13_Timer_Stop]
  refine loop_idx [] [28] L.length (fun i => ⟨[(6, vi i), (5, .sl 5 2 0 (stopL (L.take i) o).length), (1, vi o), (2, .ptr 2 0), (4, .ptr 4 0)], [(2, .box [.iv (ci now), .iv (.lst 2 (wtC L))]), (4, .box [.iv (ci 0), .nil 2]), (5, .list 2 (wtC (stopL (L.take i) o)))]⟩) (fun _ => True) ?_ trivial ?_
  · simp -dsimp [stopL, wtC]
  · intro i hi _
    by_cases hil : i < L.length
    · have hil2 : ¬L.length ≤ i := by omega
      obtain ⟨p, hp⟩ := some_at hil
      have hiw := wrap_in (n := (i : Int) + 1) (by omega)
      have hdl : (stopL (L.take i) o).length ≤ L.length := Nat.le_trans (len_stop _ _) (by simp; omega)
      have hnx : stopL (L.take (i + 1)) o = if p.1 = o then stopL (L.take i) o else stopL (L.take i) o ++ [p] := by
        rw [take_next' hp]
        unfold stopL
        by_cases hc : p.1 = o <;> simp [hc]
      generalize stopL (L.take i) o = R at hnx hdl
      generalize stopL (L.take (i + 1)) o = R' at hnx
      by_cases hc : p.1 = o
      · rw [if_pos hc] at hnx
        simp -dsimp [ratlineref13_Timer_Stop_l7, hil2, hp, hc, hiw, hnx]
      · rw [if_neg hc] at hnx
        have e : wtC (R ++ [p]) = wtC R ++ [[ci p.1, ci p.2]] := by simp [wtC]
        simp -dsimp [ratlineref13_Timer_Stop_l7, hil2, hp, hc, hiw, hnx, e]
        omega
    · have hie : i = L.length := by omega
      subst hie
      simp -dsimp [ratlineref13_Timer_Stop_l7, List.take_of_length_le]

/-- the row so far, somebody begun -/
def putR (L : List (Int × Int)) (o a : Int) : List (Int × Int) := if L.any (fun p => decide (o < p.1)) then insL L o a else L
theorem put_end {L : List (Int × Int)} {o a : Int} (hno : atL L o = none) (h : L.any (fun p => decide (o < p.1)) = false) : insL L o a = L ++ [(o, a)] := by
  have hn := atL_none.1 hno
  have h1 : L.filter (fun p => decide (p.1 < o)) = L := List.filter_eq_self.2 fun p hp => by
    have := List.any_eq_false.1 h p hp
    have := hn p hp
    simp at *; omega
  have h2 : L.filter (fun p => decide (o < p.1)) = [] := List.filter_eq_nil_iff.2 fun p hp => List.any_eq_false.1 h p hp
  unfold insL
  rw [h1, h2]
theorem put_next {L : List (Int × Int)} {o a : Int} {i : Nat} {p : Int × Int} (hr : (L.map (·.1)).Pairwise (· < ·)) (hno : atL L o = none) (hp : L[i]? = some p) :
    ((L.take (i + 1)).any (fun p => decide (o < p.1)) = true ↔ o < p.1) ∧
    ((L.take i).any (fun p => decide (o < p.1)) = true → o < p.1 ∧ putR (L.take (i + 1)) o a = putR (L.take i) o a ++ [p]) ∧
    ((L.take i).any (fun p => decide (o < p.1)) = false → putR (L.take (i + 1)) o a = if o < p.1 then putR (L.take i) o a ++ [(o, a)] ++ [p] else putR (L.take i) o a ++ [p]) := by
  have hpm := List.mem_of_getElem? hp
  have hne : p.1 ≠ o := atL_none.1 hno p hpm
  have hi := (List.getElem?_eq_some_iff.1 hp).1
  have hlt : ∀ q ∈ L.take i, q.1 < p.1 := by
    intro q hq
    obtain ⟨k, hk, e⟩ := List.mem_iff_getElem.1 hq
    simp only [List.length_take] at hk
    rw [List.getElem_take] at e
    have := List.pairwise_iff_getElem.1 hr k i (by simp; omega) (by simp; omega) (by omega)
    simp only [List.getElem_map] at this
    rw [e, (List.getElem?_eq_some_iff.1 hp).2] at this
    exact this
  have hnt : atL (L.take i) o = none := atL_none.2 fun q hq => atL_none.1 hno q (List.mem_of_mem_take hq)
  rw [take_next' hp]
  refine ⟨?_, ?_, ?_⟩
  · rw [List.any_append, Bool.or_eq_true]
    constructor
    · rintro (h | h)
      · obtain ⟨q, hq, h⟩ := List.any_eq_true.1 h
        have := hlt q hq
        simp at h; omega
      · simpa using h
    · intro h; right; simpa using h
  · intro h
    obtain ⟨q, hq, h2⟩ := List.any_eq_true.1 h
    have := hlt q hq
    have ho : o < p.1 := by simp at h2; omega
    refine ⟨ho, ?_⟩
    unfold putR
    rw [List.any_append, h]
    have : ¬p.1 < o := by omega
    simp [insL, ho, this]
  · intro h
    unfold putR
    rw [List.any_append, h]
    by_cases ho : o < p.1
    · have hg : ¬p.1 < o := by omega
      have e := put_end (a := a) hnt h
      have e2 : insL (L.take i ++ [p]) o a = insL (L.take i) o a ++ [p] := by simp [insL, ho, hg]
      simp only [ho, e2, e, if_pos, List.any_cons, List.any_nil, Bool.or_false, decide_true, Bool.or_true, if_true, Bool.false_eq_true, if_false]
    · simp [ho]
set_option maxRecDepth 8000 in
set_option maxHeartbeats 4000000 in
theorem wStart_spec {now : Int} {L : List (Int × Int)} (ok : TmOk now L) (o : Int) : GSpec prog false n_ratlineref13_Timer_Start [wAV now L, vi o] [] (.agg ((wCs now (startL now L o)).map .iv)) [(4, .box ((wCs now (startL now L o)).map .iv))] := by
  refine gspecCL [2, 7] 4 (wCs now (startL now L o)) rfl ratlineref13_Timer_Start_is (by simp) (by decide) ?_
  have hlen := ok.len
  simp -dsimp [ratlineref13_Timer_Start]
  refine call_pure (wSince_spec ok o) (by simp) (by simp) ?_
  unfold startL sinceB sinceN
  cases hno : atL L o with
  | some a =>
    simp -dsimp
  | none =>
    simp -dsimp
    refine loop_idx [] [42, 50] L.length (fun i => ⟨[(9, vi i), (8, .iv (.v (.bool ((L.take i).any fun p => decide (o < p.1))))), (7, .sl 7 2 0 (putR (L.take i) o now).length), (1, vi o), (2, .ptr 2 0), (4, .ptr 4 0)], [(2, .box [.iv (ci now), .iv (.lst 2 (wtC L))]), (4, .box [.iv (ci 0), .nil 2]), (7, .list 2 (wtC (putR (L.take i) o now)))]⟩) (fun _ => True) ?_ trivial ?_
    · simp -dsimp [putR, wtC]
    · intro i hi _
      by_cases hil : i < L.length
      · have hil2 : ¬L.length ≤ i := by omega
        obtain ⟨p, hp⟩ := some_at hil
        have hiw := wrap_in (n := (i : Int) + 1) (by omega)
        obtain ⟨q1, q2, q3⟩ := put_next (a := now) ok.rise hno hp
        have hpl : (putR (L.take i) o now).length ≤ i + 1 := by
          unfold putR
          split
          · exact Nat.le_trans (len_ins _ _ _) (by simp; omega)
          · simp; omega
        have hq1 : ((L.take (i + 1)).any fun p => decide (o < p.1)) = decide (o < p.1) := by
          by_cases h : o < p.1
          · simp only [h, decide_true]; exact q1.2 h
          · simp only [h, decide_false]; cases hb : ((L.take (i + 1)).any fun p => decide (o < p.1)) with
            | false => rfl
            | true => exact absurd (q1.1 hb) h
        rw [hq1]
        generalize putR (L.take (i + 1)) o now = R' at q2 q3
        generalize putR (L.take i) o now = R at q2 q3 hpl
        have e1 : wtC (R ++ [p]) = wtC R ++ [[ci p.1, ci p.2]] := by simp [wtC]
        have e2 : wtC (R ++ [(o, now)] ++ [p]) = wtC R ++ [[ci o, ci now]] ++ [[ci p.1, ci p.2]] := by simp [wtC]
        cases hb : ((L.take i).any fun p => decide (o < p.1)) with
        | true =>
          obtain ⟨ho, hR⟩ := q2 hb
          simp -dsimp [ratlineref13_Timer_Start_l13, hil2, hp, ho, hiw, hR, e1]
          omega
        | false =>
          have hR := q3 hb
          by_cases ho : o < p.1
          · rw [if_pos ho] at hR
            simp -dsimp [ratlineref13_Timer_Start_l13, hil2, hp, ho, hiw, hR, e2]
            have e3 : wtC (R ++ [(o, now), p]) = wtC R ++ [[ci o, ci now], [ci p.1, ci p.2]] := by simp [wtC]
            exact fun h => ⟨by omega, by omega, by omega, by omega, h, e3.symm⟩
          · rw [if_neg ho] at hR
            simp -dsimp [ratlineref13_Timer_Start_l13, hil2, hp, ho, hiw, hR, e1]
            omega
      · have hie : i = L.length := by omega
        subst hie
        rw [List.take_length]
        cases hb : (L.any fun p => decide (o < p.1)) with
        | true =>
          have e : putR L o now = insL L o now := by unfold putR; rw [hb]; rfl
          rw [e]
          simp -dsimp [ratlineref13_Timer_Start_l13, List.take_of_length_le]
        | false =>
          have e : putR L o now = L := by unfold putR; rw [hb]; rfl
          rw [e]
          have e2 : wtC (insL L o now) = wtC L ++ [[ci o, ci now]] := by rw [put_end hno hb]; simp [wtC]
          simp -dsimp [ratlineref13_Timer_Start_l13, e2, List.take_of_length_le]
          omega
end Go.Rt
end

/- The law TimerPlays. -/
section
namespace Go.Rt
open Go.Vm

theorem box_at {f : FuncId} {args : List AV} {j : Nat} {cs : List IV} (h : GSpec prog false f args [] (.agg (cs.map .iv)) [(j, .box (cs.map .iv))]) (d : Nat) (hs : args.all AV.shal = true) (ha : ∀ ρ : Nat → Nat, args.map (AV.ren ρ) = args) :
    GSpec prog false f args [] (.agg (cs.map .iv)) [(d, .box (cs.map .iv))] := by
  have := h.ren (Ren.swap j d) (by simp [hs, AV.shal, AV.shal2, AV.shal1, Ob.shal])
  rw [ha] at this
  have e : (Ren.swap j d).to j = d := by simp [Ren.swap, swapN]
  have e2 : AV.ren1 (Ren.swap j d).to ∘ AV.iv = AV.iv := funext fun _ => rfl
  simpa [Hp.ren, AV.ren, AV.ren2, AV.ren1, Ob.ren, e, e2] using this
theorem Now_at {now : Int} {L : List (Int × Int)} (_ : TmOk now L) : GSpec prog true n_timer_Timer_Now [.iv (tmIV now L)] [] (vi now) [] := Now_spec now L
theorem Ints_at {now : Int} {L : List (Int × Int)} (ok : TmOk now L) (lim : Int) : GSpec prog true n_ratlineref10_Ints [.iv (intsIV (dueL now L lim)), .iv (intsIV (dueL now L lim))] [] (vb true) [] := by
  have := ref10_Ints_spec (dueL now L lim) (dueL now L lim) (by have := due_len (now := now) (L := L) lim; have := ok.len; omega)
  simpa using this

set_option maxRecDepth 8000 in
set_option maxHeartbeats 16000000 in
theorem TimerPlays_spec (script : List Ac) (limit : Int) : GSpec prog true n_ratlinelaw13_TimerPlays [.iv (acsIV script), vi limit] [] (vb true) [] := by
  refine gspec1 ratlinelaw13_TimerPlays_is (by simp) (by decide) rfl ?_
  simp -dsimp [ratlinelaw13_TimerPlays, acsIV]
  refine call_pure awake_spec (by simp) (by simp) ?_
  simp -dsimp
  refine call_newH New_spec rfl (by simp) (by simp) (by simp) (by simp) ?_
  simp -dsimp
  refine loop_idxL [9, 52, 63, 42, 96, 99, 105, 107] (min script.length 100) (fun i => ⟨[(8, vi i), (7, .ptr 7 0), (6, .ptr 3 0), (1, vi limit), (0, .iv (.lst 3 (acsC script)))], (7, .box ((wCs (playsT (script.take i)).1 (playsT (script.take i)).2).map .iv)) :: tm3 (playsT (script.take i)).1 (playsT (script.take i)).2⟩) (fun _ => True) ?_ trivial ?_
  · refine (le_own (j := 7) (i := 1) (id := 100) (sz := 2) rfl rfl rfl (by decide)).trans (LeTo.le (D := [100]) ?_)
    simp -dsimp [St.add, playsT, wtC]
  · intro i hi _
    have hi100 : i ≤ 100 := by omega
    obtain ⟨hk, hkl⟩ := plays_ok (l := script.take i) (by simp; omega)
    have htl : (script.take i).length ≤ i := by simp; omega
    by_cases hil : i < min script.length 100
    · have hil1 : i < script.length := by omega
      obtain ⟨a, ha⟩ := some_at hil1
      have hiw := wrap_in (n := (i : Int) + 1) (by omega)
      have hnx : playsT (script.take (i + 1)) = stepT (playsT (script.take i)) a := by rw [take_next' ha, plays_snoc]
      obtain ⟨hk2, _⟩ := plays_ok (l := script.take (i + 1)) (by simp; omega)
      have hi3 : (i : Int) < script.length := by omega
      have hi4 : (i : Int) < 100 := by omega
      have hci : (acsC script)[i]'(by simp; exact hil1) = a.cells := by
        have h1 : (acsC script)[i]? = some a.cells := by simp [ha]
        exact (List.getElem?_eq_some_iff.1 h1).2
      rw [hnx] at hk2
      rw [hnx]
      generalize playsT (script.take i) = s at hk hkl hk2
      obtain ⟨now, L⟩ := s
      simp only at hk hkl
      have hcs : (lowK a.kind = 0) ∨ (¬lowK a.kind = 0 ∧ lowK a.kind = 1) ∨ (¬lowK a.kind = 0 ∧ ¬lowK a.kind = 1 ∧ lowK a.kind = 2) ∨ (¬lowK a.kind = 0 ∧ ¬lowK a.kind = 1 ∧ ¬lowK a.kind = 2) := by omega
      rcases hcs with k0 | ⟨k0, k1⟩ | ⟨k0, k1, k2⟩ | ⟨k0, k1, k2⟩
      case' inl =>
        have es : stepT (now, L) a = (passN now a.ticks, L) := by simp [stepT, k0]
        rw [es] at hk2
        rw [es]
        unfold lowK at k0
        simp -dsimp [ratlinelaw13_TimerPlays_l24, hil1, hi3, hi4, hci, k0, -ratlinelaw13_TimerPlays_t21]
        refine call_mut (Pass_at hk a.ticks) rfl (by simp) (by simp) (by simp) (by simp) (by simp) (by simp) (by simp) ?_
        simp -dsimp [-ratlinelaw13_TimerPlays_t21]
        refine call_newC (box_at (wPass_spec hk a.ticks) 52 (by simp [AV.shal, AV.shal2, AV.shal1]) (fun ρ => by simp [AV.ren, AV.ren2, AV.ren1])) (by decide) rfl (by simp) (by simp) ?_
        simp -dsimp [-ratlinelaw13_TimerPlays_t21]
        generalize passN now a.ticks = now' at hk2
      case' inr.inl =>
        have es : stepT (now, L) a = (now, startL now L a.owner) := by simp [stepT, k0, k1]
        rw [es] at hk2
        rw [es]
        unfold lowK at k0 k1
        simp -dsimp [ratlinelaw13_TimerPlays_l24, hil1, hi3, hi4, hci, k0, k1, -ratlinelaw13_TimerPlays_t21]
        refine call_mut (Start_at now L a.owner) rfl (by simp) (by simp) (by simp) (by simp) (by simp) (by simp) (by simp) ?_
        simp -dsimp [-ratlinelaw13_TimerPlays_t21]
        refine call_newC (box_at (wStart_spec hk a.owner) 63 (by simp [AV.shal, AV.shal2, AV.shal1]) (fun ρ => by simp [AV.ren, AV.ren2, AV.ren1])) (by decide) rfl (by simp) (by simp) ?_
        simp -dsimp [-ratlinelaw13_TimerPlays_t21]
        generalize startL now L a.owner = L' at hk2
      case' inr.inr.inl =>
        have es : stepT (now, L) a = (now, startL now L a.owner) := by simp [stepT, k0, k1, k2]
        rw [es] at hk2
        rw [es]
        unfold lowK at k0 k1 k2
        simp -dsimp [ratlinelaw13_TimerPlays_l24, hil1, hi3, hi4, hci, k0, k1, k2, -ratlinelaw13_TimerPlays_t21]
        refine call_mut (Start_at now L a.owner) rfl (by simp) (by simp) (by simp) (by simp) (by simp) (by simp) (by simp) ?_
        simp -dsimp [-ratlinelaw13_TimerPlays_t21]
        refine call_newC (box_at (wStart_spec hk a.owner) 63 (by simp [AV.shal, AV.shal2, AV.shal1]) (fun ρ => by simp [AV.ren, AV.ren2, AV.ren1])) (by decide) rfl (by simp) (by simp) ?_
        simp -dsimp [-ratlinelaw13_TimerPlays_t21]
        generalize startL now L a.owner = L' at hk2
      case' inr.inr.inr =>
        have es : stepT (now, L) a = (now, stopL L a.owner) := by simp [stepT, k0, k1, k2]
        rw [es] at hk2
        rw [es]
        unfold lowK at k0 k1 k2
        simp -dsimp [ratlinelaw13_TimerPlays_l24, hil1, hi3, hi4, hci, k0, k1, k2, -ratlinelaw13_TimerPlays_t21]
        refine call_mut (Stop_at hk a.owner) rfl (by simp) (by simp) (by simp) (by simp) (by simp) (by simp) (by simp) ?_
        simp -dsimp [-ratlinelaw13_TimerPlays_t21]
        refine call_newC (box_at (wStop_spec hk a.owner) 42 (by simp [AV.shal, AV.shal2, AV.shal1]) (fun ρ => by simp [AV.ren, AV.ren2, AV.ren1])) (by decide) rfl (by simp) (by simp) ?_
        simp -dsimp [-ratlinelaw13_TimerPlays_t21]
        generalize stopL L a.owner = L' at hk2
      all_goals
        refine call_pure (Since_spec hk2 a.owner) (by simp [tmIV]) (by simp [tmIV]) ?_
        simp -dsimp [-ratlinelaw13_TimerPlays_t21]
        refine call_pure (wSince_spec hk2 a.owner) (by simp) (by simp) ?_
        simp -dsimp [-ratlinelaw13_TimerPlays_t21]
        have d1 := timer_Due_spec hk2 limit 96
        have d2 := timer_Due_spec hk2 0 105
        have w1 := wDue_spec hk2 limit 99
        have w2 := wDue_spec hk2 0 107
        have i1 := Ints_at hk2 limit
        have i2 := Ints_at hk2 0
        simp -dsimp [ratlinelaw13_TimerPlays_t21]
        repeat' first
          | apply And.intro
          | (refine call_pure (d := 79) (Now_at hk2) (by simp [tmIV]) (by simp [tmIV]) ?_; simp -dsimp)
          | (refine call_new d1 (by decide) (by simp [tmIV]) (by simp [tmIV]) ?_; simp -dsimp)
          | (refine call_new w1 (by decide) (by simp) (by simp) ?_; simp -dsimp)
          | (refine call_pure (d := 100) i1 (by simp [intsIV, List.take_of_length_le]) (by simp [intsIV]) ?_; simp -dsimp)
          | (refine call_new d2 (by decide) (by simp [tmIV]) (by simp [tmIV]) ?_; simp -dsimp)
          | (refine call_new w2 (by decide) (by simp) (by simp) ?_; simp -dsimp)
          | (refine call_pure (d := 108) i2 (by simp [intsIV, List.take_of_length_le]) (by simp [intsIV]) ?_; simp -dsimp [hiw])
        all_goals exact hil
    · have hie : i = min script.length 100 := by omega
      have hcond : ¬i < script.length ∨ (i < script.length ∧ ¬(i : Int) < 100) := by omega
      rcases hcond with hc1 | ⟨hc1, hc2⟩
      · simp -dsimp [ratlinelaw13_TimerPlays_l24, hc1]
      · simp -dsimp [ratlinelaw13_TimerPlays_l24, hc1, hc2]
end Go.Rt
end
