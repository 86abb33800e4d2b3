/- Contracts of functions of the program, and what they lean on. Conditions: those of each theorem. -/
import Derived.Test.YtaongilgapocfaaPF

set_option linter.unusedVariables false
set_option linter.unusedSimpArgs false

/- CycleSorts as a contract. -/
section
namespace Go.Rt
open Go.Vm

def amongE (l : List Eg) (row : List Int) : List Eg := l.filter fun e => decide (e.frm ∈ row ∧ e.to ∈ row)
def Eg.wr (e : Eg) : Eg := { e with kind := 1 }
theorem someE_eq (l : List Eg) (row : List Int) : someE l row = (amongE l row).map Eg.wr := rfl
theorem among_snoc (l : List Eg) (e : Eg) (row : List Int) : amongE (l ++ [e]) row = amongE l row ++ if e.frm ∈ row ∧ e.to ∈ row then [e] else [] := by
  unfold amongE
  rw [List.filter_append]
  congr 1
  by_cases h : e.frm ∈ row ∧ e.to ∈ row <;> simp [h]
theorem among_len (l : List Eg) (row : List Int) : (amongE l row).length ≤ l.length := List.length_filter_le _ _
/-- the first so many changed -/
def wrTo (l : List Eg) (j : Nat) : List Eg := (l.take j).map Eg.wr ++ l.drop j
theorem wrTo_zero (l : List Eg) : wrTo l 0 = l := by simp [wrTo]
theorem wrTo_all (l : List Eg) : wrTo l l.length = l.map Eg.wr := by simp [wrTo]
theorem wrTo_len (l : List Eg) (j : Nat) : (wrTo l j).length = l.length := by simp [wrTo]; omega
theorem wrTo_at {l : List Eg} {j : Nat} {e : Eg} (h : l[j]? = some e) : (wrTo l j)[j]? = some e := by
  have hl := (List.getElem?_eq_some_iff.1 h).1
  unfold wrTo
  rw [List.getElem?_append_right (by simp; omega)]
  simp only [List.length_map, List.length_take, List.getElem?_drop]
  rw [show j + (j - min j l.length) = j by omega]; exact h
theorem wrTo_next {l : List Eg} {j : Nat} {e : Eg} (h : l[j]? = some e) : (wrTo l j).set j e.wr = wrTo l (j + 1) := by
  have hl := (List.getElem?_eq_some_iff.1 h).1
  unfold wrTo
  rw [List.set_append_right _ _ (by simp; omega), take_next h, drop_at h]
  simp only [List.length_map, List.length_take, List.map_append, List.map_cons, List.map_nil]
  rw [show j - min j l.length = 0 by omega]
  simp

set_option maxHeartbeats 40000000 in
theorem CycleSorts_spec (l : List Eg) (hl0 : l.length < 2 ^ 63) (row : List Int) (hr0 : row.length < 2 ^ 63) : GSpec prog true n_ratlinelaw21_CycleSorts [.iv (egsIV l), .iv (intsIV row)] [] (vb true) [] := by
  refine gspec1 ratlinelaw21_CycleSorts_is (by simp) (by decide) rfl ?_
  simp -dsimp [ratlinelaw21_CycleSorts]
  refine call_pure awake_spec (by simp) (by simp) ?_
  by_cases hl : 60 < l.length
  · have hl' : (60 : Int) < l.length := by omega
    simp -dsimp [egsIV, hl']
  · have hl' : ¬(60 : Int) < l.length := by omega
    by_cases hr : 40 < row.length
    · have hr' : (40 : Int) < row.length := by omega
      simp -dsimp [egsIV, intsIV, hl', hr']
    · have hr' : ¬(40 : Int) < row.length := by omega
      simp -dsimp [egsIV, intsIV, hl', hr']
      refine loop_idx [] [76] l.length (fun i => ⟨[(7, vi i), (6, .sl 6 8 0 (amongE (l.take i) row).length), (0, .iv (egsIV l)), (1, .iv (intsIV row))], [(6, .list 8 (egsC (amongE (l.take i) row)))]⟩) (fun _ => True) ?_ trivial ?_
      · simp [egsIV, intsIV, amongE, egsC]
      · intro i hi _
        by_cases hil : i < l.length
        · obtain ⟨e, he⟩ := some_at hil
          have htn : l.take (i + 1) = l.take i ++ [e] := take_next he
          rw [htn, among_snoc]
          have hal := among_len (l.take i) row
          have hal2 : (l.take i).length ≤ l.length := by simp; omega
          generalize amongE (l.take i) row = am at *
          simp -dsimp [ratlinelaw21_CycleSorts_l20, egsIV]
          refine ⟨fun _ => ?_, fun h => absurd h (by omega)⟩
          refine loop_idx [] [] row.length (fun k => ⟨[(10, vi k), (8, vb (decide (e.frm ∈ row.take k))), (9, vb (decide (e.to ∈ row.take k))), (7, vi i), (6, .sl 6 8 0 am.length), (0, .iv (egsIV l)), (1, .iv (intsIV row))], [(6, .list 8 (egsC am))]⟩) (fun _ => True) ?_ trivial ?_
          · simp [egsIV, intsIV]
          · intro k hk _
            by_cases hkl : k < row.length
            · obtain ⟨x, hx⟩ := some_at hkl
              have hw := wrap_in (n := (k : Int) + 1) (by omega)
              have h1 : decide (e.frm ∈ row.take (k + 1)) = (decide (e.frm ∈ row.take k) || (x == e.frm)) := by
                rw [take_next hx, Bool.eq_iff_iff]
                simp only [decide_eq_true_eq, List.mem_append, List.mem_singleton, Bool.or_eq_true, beq_iff_eq]
                exact or_congr Iff.rfl eq_comm
              have h2 : decide (e.to ∈ row.take (k + 1)) = (decide (e.to ∈ row.take k) || (x == e.to)) := by
                rw [take_next hx, Bool.eq_iff_iff]
                simp only [decide_eq_true_eq, List.mem_append, List.mem_singleton, Bool.or_eq_true, beq_iff_eq]
                exact or_congr Iff.rfl eq_comm
              rw [h1, h2]
              generalize decide (e.frm ∈ row.take k) = b1
              generalize decide (e.to ∈ row.take k) = b2
              cases b1 <;> cases b2
              all_goals
                simp -dsimp [ratlinelaw21_CycleSorts_l16, intsIV, egsIV, he, hx, Eg.cells, setRange, hw]
              all_goals exact fun h => absurd h (by omega)
            · have hke : k = row.length := by omega
              subst hke
              have hw := wrap_in (n := (i : Int) + 1) (by omega)
              rw [List.take_length]
              by_cases h1 : e.frm ∈ row
              · by_cases h2 : e.to ∈ row
                · have hsn : egsC am ++ [[ci e.frm, ci e.to, ci e.kind, ci e.table, cb e.key.text, ci e.key.n, .v (.string e.key.s), cb e.cursor]] = egsC (am ++ [e]) := by simp [egsC, Eg.cells]
                  simp -dsimp [ratlinelaw21_CycleSorts_l16, intsIV, egsIV, h1, h2, he, Eg.cells, setRange, hw, hsn]
                  exact ⟨by omega, by omega, hil⟩
                · simp -dsimp [ratlinelaw21_CycleSorts_l16, intsIV, egsIV, h1, h2, hw]
                  exact hil
              · simp -dsimp [ratlinelaw21_CycleSorts_l16, intsIV, egsIV, h1, hw]
                exact hil
        · have hie : i = l.length := by omega
          subst hie
          rw [List.take_length]
          have hal := among_len l row
          have hse := someE_eq l row
          have hsc := sort_cycle l row
          generalize amongE l row = am at *
          simp -dsimp [ratlinelaw21_CycleSorts_l20, egsIV]
          refine loop_idx [] [] am.length (fun j => ⟨[(11, vi j), (6, .sl 6 8 0 am.length), (0, .iv (egsIV l)), (1, .iv (intsIV row))], [(6, .list 8 (egsC (wrTo am j)))]⟩) (fun _ => True) ?_ trivial ?_
          · simp [egsIV, intsIV, wrTo_zero]
          · intro j hj _
            by_cases hjl : j < am.length
            · obtain ⟨e, he⟩ := some_at hjl
              have hw := wrap_in (n := (j : Int) + 1) (by omega)
              have hat := wrTo_at he
              have hnx := wrTo_next he
              have hsn : (egsC (wrTo am j)).set j [ci e.frm, ci e.to, ci 1, ci e.table, cb e.key.text, ci e.key.n, .v (.string e.key.s), cb e.cursor] = egsC (wrTo am (j + 1)) := by
                rw [← hnx]; simp [egsC, List.map_set, Eg.cells, Eg.wr]
              have hwl := wrTo_len am j
              simp -dsimp [ratlinelaw21_CycleSorts_l25, egsIV, hat, Eg.cells, setRange, hw, hwl]
              exact ⟨fun _ => ⟨hjl, hsn⟩, fun h => absurd h (by omega)⟩
            · have hje : j = am.length := by omega
              subst hje
              rw [wrTo_all, ← hse]
              have hsl : (someE l row).length = am.length := by rw [hse]; simp
              simp -dsimp [ratlinelaw21_CycleSorts_l25, egsIV]
              refine call_newH (Sorted_spec l (by omega) (row := row) (by omega)) rfl (by simp [egsIV, intsIV]) (by simp) (by simp) (by simp) ?_
              simp -dsimp [srtE]
              refine call_newH all_spec rfl (by simp) (by simp) (by simp) (by simp) ?_
              simp -dsimp
              refine call_newH all_spec rfl (by simp) (by simp) (by simp) (by simp) ?_
              simp -dsimp
              have htk : List.take am.length (egsC (someE l row)) = egsC (someE l row) := egs_take_len _ (by omega)
              refine call_newH (Find_spec (l := someE l row) (by omega) (fs := [1, 2, 3, 4, 5]) (rs := [1, 2, 3, 4, 5]) (by decide) (by decide)) rfl (by simp [egsIV, htk]) (by simp) (by simp) (by simp) ?_
              have hsc' : (topo (edP l) row).isSome = decide (fndE (someE l row) [1, 2, 3, 4, 5] [1, 2, 3, 4, 5] = []) := hsc
              generalize fndE (someE l row) [1, 2, 3, 4, 5] [1, 2, 3, 4, 5] = c at *
              cases htp : topo (edP l) row with
              | none =>
                rw [htp] at hsc'
                have hc : c ≠ [] := by simpa using hsc'.symm
                simp -dsimp [egsIV, hc, intsIV]
              | some s =>
                rw [htp] at hsc'
                have hc : c = [] := by simpa using hsc'.symm
                have hsf := sort_fwd htp
                have hsl2 := sort_len htp
                have hso := fun x => sort_once (x := x) htp
                simp -dsimp [egsIV, hc, intsIV]
                refine loop_idx [] [] row.length (fun i => ⟨[(15, vi i), (12, .iv (intsIV s)), (0, .iv (egsIV l)), (1, .iv (intsIV row))], []⟩) (fun _ => True) ?_ trivial ?_
                · simp [egsIV, intsIV]
                · intro i hi _
                  by_cases hil : i < row.length
                  · obtain ⟨x, hx⟩ := some_at hil
                    have hsx := hso x (List.mem_of_getElem? hx)
                    have hwi := wrap_in (n := (i : Int) + 1) (by omega)
                    simp -dsimp [ratlinelaw21_CycleSorts_l44, intsIV]
                    refine ⟨fun _ => ?_, fun h => absurd h (by omega)⟩
                    refine loop_idx [] [] s.length (fun k => ⟨[(17, vi k), (16, vi ((s.take k).count x)), (15, vi i), (12, .iv (intsIV s)), (0, .iv (egsIV l)), (1, .iv (intsIV row))], []⟩) (fun _ => True) ?_ trivial ?_
                    · simp [egsIV, intsIV]
                    · intro k hk _
                      by_cases hkl : k < s.length
                      · obtain ⟨y, hy⟩ := some_at hkl
                        have hw := wrap_in (n := (k : Int) + 1) (by omega)
                        have hct : (s.take (k + 1)).count x = (s.take k).count x + if y = x then 1 else 0 := by
                          rw [take_next hy, List.count_append, List.count_singleton]; simp
                        have hcl : (s.take k).count x ≤ s.length := by
                          have h1 := List.count_le_length (a := x) (l := s.take k)
                          have h2 : (s.take k).length ≤ s.length := by simp; omega
                          omega
                        rw [hct]
                        generalize (s.take k).count x = m at *
                        have hwm := wrap_in (n := (m : Int) + 1) (by omega)
                        by_cases hyx : y = x
                        · simp -dsimp [ratlinelaw21_CycleSorts_l40, intsIV, hx, hy, hyx, hw, hwm]
                          exact fun h => absurd h (by omega)
                        · simp -dsimp [ratlinelaw21_CycleSorts_l40, intsIV, hx, hy, hyx, hw]
                          exact fun h => absurd h (by omega)
                      · have hke : k = s.length := by omega
                        subst hke
                        rw [List.take_length, hsx]
                        simp -dsimp [ratlinelaw21_CycleSorts_l40, intsIV, hwi]
                        exact hil
                  · have hie : i = row.length := by omega
                    subst hie
                    simp -dsimp [ratlinelaw21_CycleSorts_l44, intsIV]
                    have hrs : GSpec prog false n_cycle_Respects [.iv (egsIV l), .iv (intsIV s)] [] (vb true) [] := by
                      have := Respects_spec l s (by omega) (by omega)
                      rwa [hsf] at this
                    refine call_newH hrs rfl (by simp [egsIV, intsIV]) (by simp) (by simp) (by simp) ?_
                    simp -dsimp
                    omega
end Go.Rt
end
