/- Contracts of functions of the program, and what they lean on. Conditions: those of each theorem. -/
import Derived.Test.YtaongilgapocfaaPD

set_option linter.unusedVariables false
set_option linter.unusedSimpArgs false

/- CycleTurns as a contract. -/
section
namespace Go.Rt
open Go.Vm

/-- what hands back an empty row holds on to nothing -/
theorem GSpec.empty {P : Program} {f : FuncId} {args : List AV} {z : Nat} (h : GSpec P false f args [] (.iv (.lst z [])) []) : GSpec P true f args [] (.iv (.lst z [])) [] := by
  refine ⟨h.1, fun A ψ w vs a b c d e f g => (h.2 A ψ w vs a b c d e f g).mono ?_⟩
  rintro r w' ⟨v, ψ', h1, h2, h3, h4, h5, h6, h7, h8, h9, h10⟩
  refine ⟨v, ψ', h1, h2, h3, h4, h5, fun id o b ho => (by cases ho), h7, h8, fun id o ho => (by cases ho), ?_⟩
  cases h10 with
  | iv _ _ h =>
    refine .iv _ _ ?_
    generalize hx : IV.lst z [] = x at h
    cases h <;> try cases hx
    · exact .lnil _
    · exact .lst z [] 0 0 _ _ (fun _ _ => undef) (by simp) (by simp) (by simp) (by simp [at2]) (by simp [at2])
theorem egs_take_len (l : List Eg) {n : Nat} (h : l.length ≤ n) : List.take n (egsC l) = egsC l := List.take_of_length_le (by simpa using h)
theorem turn_snoc {l : List Eg} {k : Nat} {e : Eg} (he : l[l.length - 1 - k]? = some e) (hk : k < l.length) : turnE (l.drop (l.length - (k + 1))) = turnE (l.drop (l.length - k)) ++ [e.turn] := by
  have h1 : l.length - (k + 1) = l.length - 1 - k := by omega
  have h2 : l.drop (l.length - 1 - k) = e :: l.drop (l.length - k) := by
    rw [drop_at he]; congr 2; omega
  unfold turnE
  rw [h1, h2, List.reverse_cons, List.map_append]; rfl
theorem turnE_len (l : List Eg) : (turnE l).length = l.length := by simp [turnE]

set_option maxHeartbeats 40000000 in
theorem CycleTurns_spec (l : List Eg) (hl0 : l.length < 2 ^ 63) (row : List Int) (hr0 : row.length < 2 ^ 63) : GSpec prog true n_ratlinelaw21_CycleTurns [.iv (egsIV l), .iv (intsIV row)] [] (vb true) [] := by
  refine gspec1 ratlinelaw21_CycleTurns_is (by simp) (by decide) rfl ?_
  simp -dsimp [ratlinelaw21_CycleTurns]
  refine call_pure awake_spec (by simp) (by simp) ?_
  by_cases hl : 40 < l.length
  · have hl' : (40 : Int) < l.length := by omega
    simp -dsimp [egsIV, hl']
  · have hl' : ¬(40 : Int) < l.length := by omega
    by_cases hr : 20 < row.length
    · have hr' : (20 : Int) < row.length := by omega
      simp -dsimp [egsIV, intsIV, hl', hr']
    · have hr' : ¬(20 : Int) < row.length := by omega
      have hw0 := wrap_in (n := (l.length : Int) - 1) (by omega)
      simp -dsimp [egsIV, intsIV, hl', hr', hw0]
      refine loop_idx [] [8, 56] l.length (fun k => ⟨[(7, vi ((l.length : Int) - 1 - k)), (6, .sl 6 8 0 k), (0, .iv (egsIV l)), (1, .iv (intsIV row))], [(6, .list 8 (egsC (turnE (l.drop (l.length - k)))))]⟩) (fun k => ∀ e, e ∈ l.drop (l.length - k) → ofK allK e = true) ?_ (by simp) ?_
      · simp [egsIV, intsIV, turnE, egsC]
      · intro k hk hq
        by_cases hkl : k < l.length
        · obtain ⟨e, he⟩ : ∃ e, l[l.length - 1 - k]? = some e := some_at (by omega)
          have hts := turn_snoc he hkl
          have hw := wrap_in (n := (l.length : Int) - 1 - k - 1) (by omega)
          have hge : (0 : Int) ≤ (l.length : Int) - 1 - k := by omega
          obtain ⟨j, hj⟩ : ∃ j : Nat, l.length - 1 - k = j := ⟨_, rfl⟩
          have hj2 : (l.length : Int) - 1 - k = j := by omega
          rw [hj] at he
          have hjl : j < l.length := by omega
          have h2 : l.drop (l.length - (k + 1)) = e :: l.drop (l.length - k) := by
            rw [show l.length - (k + 1) = j by omega, drop_at he]; congr 2; omega
          by_cases h1 : e.kind < 1
          · simp -dsimp [ratlinelaw21_CycleTurns_l17, egsIV, hj2, he, Eg.cells, setRange, h1]
          · by_cases h5 : 5 < e.kind
            · simp -dsimp [ratlinelaw21_CycleTurns_l17, egsIV, hj2, he, Eg.cells, setRange, h1, h5]
            · rw [hj2] at hw
              simp -dsimp [ratlinelaw21_CycleTurns_l17, egsIV, hj2, he, Eg.cells, setRange, h1, h5, hw]
              refine ⟨by rw [turnE_len]; simp; omega, by omega, by omega, hkl, ⟨by omega, ?_⟩, ?_⟩
              · rw [hts]; simp [egsC, Eg.cells, Eg.turn]
              · rw [h2]
                intro x hx
                rcases List.mem_cons.1 hx with rfl | hx
                · simp only [ofK, allK, decide_eq_true_eq]
                  have : x.kind = 1 ∨ x.kind = 2 ∨ x.kind = 3 ∨ x.kind = 4 ∨ x.kind = 5 := by omega
                  simpa using this
                · exact hq x hx
        · have hke : k = l.length := by omega
          subst hke
          rw [Nat.sub_self, List.drop_zero] at hq
          rw [Nat.sub_self, List.drop_zero]
          have hn1 : (l.length : Int) - 1 - l.length = -1 := by omega
          have htk : List.take l.length (egsC (turnE l)) = egsC (turnE l) := egs_take_len _ (by rw [turnE_len]; exact Nat.le_refl _)
          have htl := turnE_len l
          simp -dsimp [ratlinelaw21_CycleTurns_l17, egsIV, hn1]
          refine call_newH all_spec rfl (by simp) (by simp) (by simp) (by simp) ?_
          simp -dsimp
          refine call_newH all_spec rfl (by simp) (by simp) (by simp) (by simp) ?_
          simp -dsimp
          refine call_newH (Find_spec (l := l) (by omega) (fs := [1, 2, 3, 4, 5]) (rs := [1, 2, 3, 4, 5]) (by decide) (by decide)) rfl (by simp [egsIV]) (by simp) (by simp) (by simp) ?_
          simp -dsimp
          refine call_newH all_spec rfl (by simp) (by simp) (by simp) (by simp) ?_
          simp -dsimp
          refine call_newH all_spec rfl (by simp) (by simp) (by simp) (by simp) ?_
          simp -dsimp
          refine call_newH (Find_spec (l := turnE l) (by omega) (fs := [1, 2, 3, 4, 5]) (rs := [1, 2, 3, 4, 5]) (by decide) (by decide)) rfl (by simp [egsIV, htk]) (by simp) (by simp) (by simp) ?_
          have hcd : (0 < (fndE l [1, 2, 3, 4, 5] [1, 2, 3, 4, 5]).length) ↔ (0 < (fndE (turnE l) [1, 2, 3, 4, 5] [1, 2, 3, 4, 5]).length) := by
            rw [List.length_pos_iff, List.length_pos_iff]; exact turn_cycle l
          generalize (fndE l [1, 2, 3, 4, 5] [1, 2, 3, 4, 5]) = c at *
          generalize (fndE (turnE l) [1, 2, 3, 4, 5] [1, 2, 3, 4, 5]) = d at *
          have hcd2 : (0 < (c.length : Int)) ↔ (0 < (d.length : Int)) := by omega
          simp -dsimp [egsIV]
          refine ⟨hcd, fun _ => ?_⟩
          refine loop_idx [] [104] (row.length - 1) (fun i => ⟨[(13, vi ((i : Int) + 1)), (12, .sl 12 8 0 i), (1, .iv (intsIV row))], [(12, .list 8 (egsC (pthE row i)))]⟩) (fun i => (row.take (i + 1)).Nodup) ?_ ?_ ?_
          · simp [egsIV, intsIV, pthE, egsC]
          · cases row <;> simp
          · intro i hi hnd
            by_cases hil : i + 1 < row.length
            · obtain ⟨x, hx⟩ := some_at hil
              have hlt : (i : Int) + 1 < row.length := by omega
              simp -dsimp [ratlinelaw21_CycleTurns_l33, intsIV, hlt]
              refine loop_idx [] [] (i + 1) (fun k => ⟨[(14, vi k), (13, vi ((i : Int) + 1)), (12, .sl 12 8 0 i), (1, .iv (intsIV row))], [(12, .list 8 (egsC (pthE row i)))]⟩) (fun k => Upto k fun j => ∀ y, row[j]? = some y → y ≠ x) ?_ upto_zero ?_
              · simp [intsIV]
              · intro k hk hq2
                by_cases hkl : k < i + 1
                · obtain ⟨y, hy⟩ : ∃ y, row[k]? = some y := some_at (by omega)
                  have hlt2 : (k : Int) < (i : Int) + 1 := by omega
                  have hw := wrap_in (n := (k : Int) + 1) (by omega)
                  by_cases hyx : y = x
                  · simp -dsimp [ratlinelaw21_CycleTurns_l30, intsIV, hlt2, hx, hy, hyx]
                    omega
                  · simp -dsimp [ratlinelaw21_CycleTurns_l30, intsIV, hlt2, hx, hy, hyx, hw]
                    exact ⟨by omega, hkl, hq2.succ fun w hw => by rw [hy] at hw; cases hw; exact hyx⟩
                · have hke : k = i + 1 := by omega
                  subst hke
                  have hlt2 : ¬((i : Int) + 1 < (i : Int) + 1) := by omega
                  obtain ⟨z, hz⟩ : ∃ z, row[i]? = some z := some_at (by omega)
                  have hwi := wrap_in (n := (i : Int)) (by omega)
                  have hwi2 := wrap_in (n := (i : Int) + 1 + 1) (by omega)
                  have hpl := pthE_len row i
                  have hpn : egsC (pthE row i) ++ [[ci z, ci x, ci 1, ci 0, cb false, ci 0, .v (.string ⟨#[]⟩), cb false]] = egsC (pthE row (i + 1)) := by
                    rw [pthE_next]; simp [egsC, Eg.cells, egK, at0, hx, hz]
                  simp -dsimp [ratlinelaw21_CycleTurns_l30, intsIV, hlt2, hx, hz, hwi, hwi2, hpl, hpn]
                  refine ⟨by omega, by omega, by omega, by omega, ?_⟩
                  rw [take_next hx, List.nodup_append]
                  refine ⟨hnd, by simp, fun p hp q hq => ?_⟩
                  rw [List.mem_singleton] at hq; subst hq
                  obtain ⟨j, hj⟩ := List.getElem?_of_mem hp
                  have hjl := (List.getElem?_eq_some_iff.1 hj).1
                  rw [List.length_take] at hjl
                  rw [List.getElem?_take_of_lt (by omega)] at hj
                  exact hq2 j (by omega) p hj
            · have hnlt : ¬(i : Int) + 1 < row.length := by omega
              by_cases hr2 : row.length < 2
              · have hr2' : (row.length : Int) < 2 := by omega
                simp -dsimp [ratlinelaw21_CycleTurns_l33, intsIV, hnlt, hr2']
              · have hr2' : ¬(row.length : Int) < 2 := by omega
                have hie : i = row.length - 1 := by omega
                have htk2 : List.take i (egsC (pthE row i)) = egsC (pthE row i) := egs_take_len _ (by rw [pthE_len]; exact Nat.le_refl _)
                have hnd2 : row.Nodup := by rwa [List.take_of_length_le (by omega)] at hnd
                have hnone := path_none hnd2
                rw [← hie] at hnone
                have hfn : GSpec prog false n_cycle_Find [.iv (egsIV (pthE row i)), .iv (intsIV [1, 2, 3, 4, 5]), .iv (intsIV [1, 2, 3, 4, 5])] [] (.iv (egsIV [])) [] := by
                  have := Find_spec (l := pthE row i) (fs := [1, 2, 3, 4, 5]) (rs := [1, 2, 3, 4, 5]) (by rw [pthE_len]; omega) (by decide) (by decide)
                  rwa [show fndE (pthE row i) [1, 2, 3, 4, 5] [1, 2, 3, 4, 5] = [] from hnone] at this
                have hfn := GSpec.empty hfn
                simp -dsimp [ratlinelaw21_CycleTurns_l33, intsIV, hnlt, hr2']
                refine call_newH all_spec rfl (by simp) (by simp) (by simp) (by simp) ?_
                simp -dsimp
                refine call_newH all_spec rfl (by simp) (by simp) (by simp) (by simp) ?_
                simp -dsimp
                refine call_pure hfn (by simp [egsIV, htk2]) (by simp) ?_
                obtain ⟨z, hz⟩ : ∃ z, row[i]? = some z := some_at (by omega)
                obtain ⟨a, ha⟩ : ∃ a, row[0]? = some a := some_at (by omega)
                have hw3 : IntKind.i64.wrap ((row.length : Int) - 1) = (i : Int) := by rw [show (row.length : Int) - 1 = i by omega]; exact wrap_in (by omega)
                have hpl := pthE_len row i
                have hrg : egsC (pthE row i) ++ [[ci z, ci a, ci 4, ci 0, cb false, ci 0, .v (.string ⟨#[]⟩), cb false]] = egsC (rngE row) := by
                  unfold rngE; rw [← hie]; simp [egsC, Eg.cells, egK, at0, hz, ha]
                have hrl := rngE_len (row := row) (by omega)
                have htk3 : List.take (i + 1) (egsC (rngE row)) = egsC (rngE row) := egs_take_len _ (by omega)
                obtain ⟨hr1, hr3⟩ := ring_whole hnd2 (by omega)
                simp -dsimp [htk2, hw3, hz, ha, hpl, hrg]
                refine ⟨by omega, by omega, ?_⟩
                refine call_newH reads_spec rfl (by simp) (by simp) (by simp) (by simp) ?_
                simp -dsimp
                refine call_newH all_spec rfl (by simp) (by simp) (by simp) (by simp) ?_
                simp -dsimp
                refine call_newH (Find_spec (l := rngE row) (by omega) (fs := [4]) (rs := [1, 2, 3, 4, 5]) (by decide) (by decide)) rfl (by simp [egsIV, htk3]) (by simp) (by simp) (by simp) ?_
                have hr1' : (fndE (rngE row) [4] [1, 2, 3, 4, 5]).length = row.length := hr1
                have hr3' : VP (fndE (rngE row) [4] [1, 2, 3, 4, 5]) := hr3
                generalize fndE (rngE row) [4] [1, 2, 3, 4, 5] = wh at *
                simp -dsimp [egsIV, hr1']
                refine call_pure (Valid_yes hr3' (by omega)) (by simp [egsIV]) (by simp) ?_
                simp -dsimp
end Go.Rt
end
