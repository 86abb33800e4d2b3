/- Contracts of functions of the program, and what they lean on. Conditions: those of each theorem. -/
import Derived.Test.YtoiegcefpofheaaPH
import Derived.Test.YtoiegcefpofheaaPF
import Derived.Test.YtoiegcefpofheaaPA

set_option linter.unusedVariables false
set_option linter.unusedSimpArgs false

/- Who waits for nobody, and who waits for themselves. -/
section
namespace Go.Rt
open Go.Vm

theorem rowAt_set' {e : List (List Int)} {i : Nat} (hi : i < e.length) (l : List Int) : rowAt (e.set i l) (i : Int) = l := by
  rw [rowAt_set hi, if_pos rfl]
theorem free_cycle {e : List (List Int)} {i : Nat} (hr : rowAt e (i : Int) = []) (k : Int) : (i : Int) ∉ refCyc e k := by
  intro hm
  have hne : refCyc e k ≠ [] := fun h => by rw [h] at hm; cases hm
  have hc := refCyc_is hne
  obtain ⟨j, hj⟩ := List.getElem?_of_mem hm
  have hpos := List.length_pos_iff.2 hne
  obtain ⟨b, hb⟩ : ∃ b, (refCyc e k)[(j + 1) % (refCyc e k).length]? = some b := some_at (Nat.mod_lt _ hpos)
  have := hc.step j _ b hj hb
  rw [hr] at this
  cases this
theorem free_nil {e : List (List Int)} {i : Nat} (hr : rowAt e (i : Int) = []) : refCyc e (i : Int) = [] :=
  Classical.byContradiction fun hne => free_cycle hr (i : Int) (List.mem_of_getElem? (refCyc_is hne).head)
theorem free_ends {e : List (List Int)} {i : Nat} (hi : i < e.length) (hr : rowAt e (i : Int) = []) : Ends e (i : Int) :=
  .mk _ (by omega) fun k hk => by rw [hr] at hk; cases hk
theorem self_cycle {e : List (List Int)} {i : Nat} (hi : i < e.length) (hr : (i : Int) ∈ rowAt e (i : Int)) : refCyc e (i : Int) = [(i : Int)] := by
  unfold refCyc
  rw [if_pos ⟨by omega, by omega⟩]
  have h0 : wayM e 0 [(i : Int)] = [(i : Int)] := by
    show (if (i : Int) ∈ rowAt e (lastI [(i : Int)]) then [(i : Int)] else []) = _
    rw [show lastI [(i : Int)] = (i : Int) from rfl, if_pos hr]
  have h1 : firstTo (fun n => wayM e n [(i : Int)]) 1 = [(i : Int)] := by
    rw [firstTo_next, if_pos (by rfl)]; exact h0
  show firstTo (fun n => wayM e n [(i : Int)]) e.length = _
  rw [firstTo_stays (j := 1) (by rw [h1]; simp) (by omega), h1]
theorem self_stuck {e : List (List Int)} {i : Nat} (hi : i < e.length) (hr : (i : Int) ∈ rowAt e (i : Int)) : ¬Ends e (i : Int) := by
  have : ∀ x, Ends e x → x ≠ (i : Int) := by
    intro x hx
    induction hx with
    | mk j h0 h ih =>
      rintro rfl
      exact ih _ hr (by omega) (by omega) rfl
  exact fun h => this _ h rfl

theorem rowsC_set (e : List (List Int)) (i : Nat) (l : List Int) : (rowsC e).set i [.lst 1 (intsC l)] = rowsC (e.set i l) := by
  simp [rowsC, List.map_set, intsIV]
theorem at2_rowsC {e : List (List Int)} {i j : Nat} {c : IV} : at2 (rowsC e) i j = some c ↔ j = 0 ∧ ∃ l, e[i]? = some l ∧ c = intsIV l := by
  unfold at2 rowsC
  rw [List.getElem?_map]
  cases h : e[i]? with
  | none => simp
  | some l =>
    cases j with
    | zero => simp [eq_comm]
    | succ j => simp
/-- a row that is nil is an empty one -/
theorem le_rows {s : St} {id : Nat} {e : List (List Int)} {i z : Nat} (hi : i < e.length) (ho : Vm.look s.hp id = some (.list 1 ((rowsC e).set i [.lst z []]))) : Le s (s.add id (.list 1 (rowsC (e.set i [])))) := by
  refine le_list ho (fun h => ?_) (by simp) (fun x hx => ?_) fun a b c hc => ?_
  · have := congrArg List.length h
    simp at this
    subst this
    simp at hi
  · obtain ⟨l, _, rfl⟩ := List.mem_map.1 hx; rfl
  · obtain ⟨rfl, l, h1, rfl⟩ := at2_rowsC.1 hc
    rw [List.getElem?_set] at h1
    by_cases hai : i = a
    · subst hai
      rw [if_pos rfl, if_pos hi] at h1
      cases h1
      refine ⟨.lst z [], ?_, fun A w v h => riv_empty h⟩
      unfold at2
      rw [List.getElem?_set, if_pos rfl, if_pos (by simpa using hi)]
      rfl
    · rw [if_neg hai] at h1
      refine ⟨intsIV l, ?_, fun A w v h => h⟩
      unfold at2
      rw [List.getElem?_set, if_neg hai, rowsC_get, h1]
      rfl
theorem bits_1023 (x : Int) : ∃ q : Nat, binV .and (.int .i64 x) (.int .i64 1023) = some (.int .i64 q) ∧ q ≤ 1023 := by
  refine ⟨(BitVec.ofInt 64 x &&& BitVec.ofInt 64 1023).toNat, ?_, ?_⟩
  · show some (Value.int .i64 (IntKind.i64.wrap ((BitVec.ofInt 64 x &&& BitVec.ofInt 64 1023).toNat : Int))) = _
    rw [wrap_in]
    have : (BitVec.ofInt 64 x &&& BitVec.ofInt 64 1023).toNat ≤ 1023 := by rw [BitVec.toNat_and]; exact Nat.and_le_right
    omega
  · rw [BitVec.toNat_and]; exact Nat.and_le_right
end Go.Rt
end
