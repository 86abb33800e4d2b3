/- Contracts of functions of the program, and what they lean on. Conditions: those of each theorem. -/
import Derived.Test.YtoiegcefpofheaaPB
import Derived.Test.YtoiegcefpofheaaPA
import Derived.Test.YtoiegcefpofheaaSH

set_option linter.unusedVariables false
set_option linter.unusedSimpArgs false

/- Contracts: rows of numbers. -/
section
namespace Go.Rt
open Go.Vm

theorem take_next' {α : Type} {l : List α} {i : Nat} {x : α} (h : l[i]? = some x) : l.take (i + 1) = l.take i ++ [x] := by
  rw [List.take_add_one, h]; rfl
theorem ref10_Ints_spec (a b : List Int) (hl : a.length < 2 ^ 63) : GSpec prog true n_ratlineref10_Ints [.iv (intsIV a), .iv (intsIV b)] [] (vb (decide (a = b))) [] := by
  refine gspec1 ratlineref10_Ints_is (by simp) (by decide) rfl ?_
  by_cases hlen : a.length = b.length
  · have hlen' : (a.length : Int) = b.length := by omega
    simp -dsimp [ratlineref10_Ints, intsIV, hlen']
    refine loop_idx [] [] b.length (fun i => ⟨[(5, vi i), (0, .iv (.lst 1 (intsC a))), (1, .iv (.lst 1 (intsC b)))], []⟩) (fun i => a.take i = b.take i) ?_ ?_ ?_
    · simp -dsimp
    · simp
    · intro i hi hq
      simp -dsimp [ratlineref10_Ints_l8, hlen']
      refine ⟨fun hlt => ?_, fun hge => ?_⟩
      · obtain ⟨x, hx⟩ : ∃ x, a[i]? = some x := some_at (by omega)
        obtain ⟨y, hy⟩ := some_at hlt
        have hw := wrap_in (n := (i : Int) + 1) (by omega)
        simp -dsimp [hx, hy, hw]
        refine ⟨fun g e => ?_, fun g => ⟨hlt, by rw [take_next' hx, take_next' hy, hq, g]⟩⟩
        subst e; rw [hx] at hy; cases hy; exact g rfl
      · rw [List.take_of_length_le (by omega), List.take_of_length_le hge] at hq
        simpa using hq
  · have hne : ¬a = b := fun g => hlen (by rw [g])
    have hlen' : ¬(a.length : Int) = b.length := by omega
    simp -dsimp [ratlineref10_Ints, intsIV, hlen', hne]

theorem law12_in_spec (l : List Int) (n : Int) (hl : l.length < 2 ^ 63) : GSpec prog true n_ratlinelaw12_in [.iv (intsIV l), vi n] [] (vb (decide (n ∈ l))) [] := by
  refine gspec1 ratlinelaw12_in_is (by simp) (by decide) rfl ?_
  simp -dsimp [ratlinelaw12_in, intsIV]
  refine loop_idx [] [] l.length (fun i => ⟨[(5, vi i), (0, .iv (.lst 1 (intsC l))), (1, vi n)], []⟩) (fun i => n ∉ l.take i) ?_ ?_ ?_
  · simp -dsimp
  · simp
  · intro i hi hq
    simp -dsimp [ratlinelaw12_in_l6]
    refine ⟨fun hlt => ?_, fun hge => ?_⟩
    · obtain ⟨x, hx⟩ := some_at hlt
      have hw := wrap_in (n := (i : Int) + 1) (by omega)
      simp -dsimp [hx, hw]
      refine ⟨fun g => by subst g; exact List.mem_of_getElem? hx, fun g => ⟨hlt, ?_⟩⟩
      rw [take_next' hx]; simp [hq]; exact fun e => g e.symm
    · rw [List.take_of_length_le hge] at hq
      simpa using hq
theorem ref12_in_spec (l : List Int) (n : Int) (hl : l.length < 2 ^ 63) : GSpec prog true n_ratlineref12_in [.iv (intsIV l), vi n] [] (vb (decide (n ∈ l))) [] := by
  refine gspec1 ratlineref12_in_is (by simp) (by decide) rfl ?_
  simp -dsimp [ratlineref12_in, intsIV]
  refine loop_idx [] [] l.length (fun i => ⟨[(5, vi i), (0, .iv (.lst 1 (intsC l))), (1, vi n)], []⟩) (fun i => n ∉ l.take i) ?_ ?_ ?_
  · simp -dsimp
  · simp
  · intro i hi hq
    simp -dsimp [ratlineref12_in_l6]
    refine ⟨fun hlt => ?_, fun hge => ?_⟩
    · obtain ⟨x, hx⟩ := some_at hlt
      have hw := wrap_in (n := (i : Int) + 1) (by omega)
      simp -dsimp [hx, hw]
      refine ⟨fun g => by subst g; exact List.mem_of_getElem? hx, fun g => ⟨hlt, ?_⟩⟩
      rw [take_next' hx]; simp [hq]; exact fun e => g e.symm
    · rw [List.take_of_length_le hge] at hq
      simpa using hq

/-- rows of numbers -/
def rowsC (e : List (List Int)) : List (List IV) := e.map fun l => [intsIV l]
def rowsIV (e : List (List Int)) : IV := .lst 1 (rowsC e)
@[simp] theorem rowsC_len (e : List (List Int)) : (rowsC e).length = e.length := by simp [rowsC]
@[simp] theorem rowsC_get (e : List (List Int)) (i : Nat) : (rowsC e)[i]? = (e[i]?).map fun l => [.lst 1 (intsC l)] := by simp [rowsC, intsIV]

def Small (e : List (List Int)) (many : Nat) : Prop := e.length ≤ many ∧ ∀ l, l ∈ e → l.length ≤ 20
theorem law12_small_spec (e : List (List Int)) (many : Nat) (hl : e.length < 2 ^ 63) : GSpec prog true n_ratlinelaw12_small [.iv (rowsIV e), vi many] [] (vb (ofP (Small e many))) [] := by
  refine gspec1 ratlinelaw12_small_is (by simp) (by decide) rfl ?_
  by_cases h1 : (many : Int) < e.length
  · simp -dsimp [ratlinelaw12_small, rowsIV, h1]
    exact fun g => by have := g.1; omega
  · simp -dsimp [ratlinelaw12_small, rowsIV, h1]
    refine loop_idx [] [] e.length (fun i => ⟨[(5, vi i), (0, .iv (.lst 1 (rowsC e)))], []⟩) (fun i => ∀ l, l ∈ e.take i → l.length ≤ 20) ?_ ?_ ?_
    · simp -dsimp
    · simp
    · intro i hi hq
      simp -dsimp [ratlinelaw12_small_l8]
      refine ⟨fun hlt => ?_, fun hge => ?_⟩
      · obtain ⟨x, hx⟩ := some_at hlt
        have hw := wrap_in (n := (i : Int) + 1) (by omega)
        simp -dsimp [hx, hw]
        refine ⟨fun g g2 => ?_, fun g => ⟨hlt, ?_⟩⟩
        · have := g2.2 x (List.mem_of_getElem? hx); omega
        · rw [take_next' hx]
          intro l hm
          rcases List.mem_append.1 hm with hm | hm
          · exact hq l hm
          · simp only [List.mem_singleton] at hm; subst hm; omega
      · rw [List.take_of_length_le hge] at hq
        exact ⟨by omega, hq⟩

theorem cmp_isNaN_spec (a : Int) : GSpec prog true n_cmp_isNaN_int [vi a] [] (vb false) [] := by
  refine gspec1 cmp_isNaN_int_is (by simp) (by decide) rfl ?_
  simp -dsimp [cmp_isNaN_int]
theorem slices_isNaN_spec (a : Int) : GSpec prog true n_slices_isNaN_int [vi a] [] (vb false) [] := by
  refine gspec1 slices_isNaN_int_is (by simp) (by decide) rfl ?_
  simp -dsimp [slices_isNaN_int]
theorem cmp_Less_spec (a b : Int) : GSpec prog true n_cmp_Less_int [vi a, vi b] [] (vb (decide (a < b))) [] := by
  refine gspec1 cmp_Less_int_is (by simp) (by decide) rfl ?_
  simp -dsimp [cmp_Less_int]
  refine call_pure (cmp_isNaN_spec a) (by simp) (by simp) ?_
  simp -dsimp

/-- an age -/
def ag (ages : List Int) (i : Int) : Int := (ages[i.toNat]?).getD 0
def vicStep (ages : List Int) (best n : Int) : Int := if 0 ≤ n ∧ n < ages.length ∧ (best < 0 ∨ ag ages best < ag ages n ∨ (ag ages n = ag ages best ∧ best < n)) then n else best
def vic (cycle ages : List Int) : Int := cycle.foldl (vicStep ages) (-1)
def VicOk (ages : List Int) (best : Int) : Prop := best = -1 ∨ (0 ≤ best ∧ best < ages.length)
theorem vicStep_ok {ages : List Int} {best n : Int} (h : VicOk ages best) : VicOk ages (vicStep ages best n) := by
  unfold vicStep
  split
  · rename_i g; exact .inr ⟨g.1, g.2.1⟩
  · exact h
theorem vic_next {l : List Int} {i : Nat} {x : Int} (h : l[i]? = some x) (ages : List Int) : vic (l.take (i + 1)) ages = vicStep ages (vic (l.take i) ages) x := by
  unfold vic; rw [take_next' h, List.foldl_append]; rfl
theorem ag_at {ages : List Int} {i : Int} (h0 : 0 ≤ i) (h1 : i < ages.length) : ages[i.toNat]? = some (ag ages i) := by
  obtain ⟨x, hx⟩ : ∃ x, ages[i.toNat]? = some x := some_at (by omega)
  unfold ag; rw [hx]; rfl

theorem Victim_1_spec (ages : List Int) (a b : Int) (ha : 0 ≤ a ∧ a < ages.length) (hb : 0 ≤ b ∧ b < ages.length) :
    GSpec prog true n_waits_Victim_1 [vi a, vi b, .iv (.pt [intsIV ages])] [] (vb (decide (ag ages b < ag ages a ∨ (ag ages a = ag ages b ∧ b < a)))) [] := by
  refine gspec1 waits_Victim_1_is (by simp) (by decide) rfl ?_
  have h1 := ag_at ha.1 ha.2
  have h2 := ag_at hb.1 hb.2
  simp -dsimp [waits_Victim_1, intsIV, ha.1, hb.1, h1, h2]
  refine ⟨fun g => ⟨fun g2 => ?_, fun g2 => ⟨g, fun g3 => absurd g3 g2⟩⟩, fun g => .inl g⟩
  have : ¬ag ages b < ag ages a := by omega
  simp [this, g2]
theorem ok_Victim_1 : okFn prog n_waits_Victim_1 = true := by kernel_rfl

theorem vic_ok (l ages : List Int) : VicOk ages (vic l ages) := by
  have : ∀ (l : List Int) (b : Int), VicOk ages b → VicOk ages (l.foldl (vicStep ages) b) := by
    intro l
    induction l with
    | nil => intro b h; exact h
    | cons x l ih => intro b h; exact ih _ (vicStep_ok h)
  exact this l _ (.inl rfl)

theorem Victim_spec (cycle ages : List Int) (hc : cycle.length < 2 ^ 63) : GSpec prog true n_waits_Victim [.iv (intsIV cycle), .iv (intsIV ages)] [] (vi (vic cycle ages)) [] := by
  refine gspec1 waits_Victim_is (by simp) (by decide) rfl ?_
  simp -dsimp [waits_Victim, intsIV]
  refine loop_idx [] [] cycle.length (fun i => ⟨[(12, vi i), (11, vi cycle.length), (10, .iv (.lst 1 (intsC cycle))), (6, .fn n_waits_Victim_1 [] [.ptr 3 0]), (5, vi (vic (cycle.take i) ages)), (3, .ptr 3 0)], [(3, .box [.iv (.lst 1 (intsC ages))])]⟩) (fun _ => True) ?_ trivial ?_
  · simp -dsimp [vic]
  · intro i hi _
    have hok := vic_ok (cycle.take i) ages
    generalize hb : vic (cycle.take i) ages = best at hok
    simp -dsimp [waits_Victim_l9]
    refine ⟨fun hlt => ?_, fun hge => ?_⟩
    · obtain ⟨n, hn⟩ := some_at hlt
      have hw := wrap_in (n := (i : Int) + 1) (by omega)
      have hnx : vic (cycle.take (i + 1)) ages = vicStep ages best n := by rw [vic_next hn, hb]
      by_cases h0 : 0 ≤ n
      · by_cases h1 : n < ages.length
        · by_cases h2 : best < 0
          · have hv : vicStep ages best n = n := if_pos ⟨h0, h1, .inl h2⟩
            simp -dsimp [hn, h0, h1, h2, hw, hnx, hv]
            exact hlt
          · have hb2 : 0 ≤ best ∧ best < ages.length := by rcases hok with h | h <;> omega
            simp -dsimp [hn, h0, h1, h2, hw]
            refine ⟨ok_Victim_1, call_purev (Victim_1_spec ages n best ⟨h0, h1⟩ hb2) (by simp) (by simp [intsIV]) (by simp) ?_⟩
            by_cases ho : ag ages best < ag ages n ∨ (ag ages n = ag ages best ∧ best < n)
            · have hv : vicStep ages best n = n := if_pos ⟨h0, h1, .inr ho⟩
              simp -dsimp [decide_eq_true ho, hw, hnx, hv]
              exact hlt
            · have hv : vicStep ages best n = best := if_neg fun g => g.2.2.elim h2 ho
              simp -dsimp [decide_eq_false ho, hw, hnx, hv]
              exact hlt
        · have hv : vicStep ages best n = best := if_neg fun g => h1 g.2.1
          simp -dsimp [hn, h0, h1, hw, hnx, hv]
          exact hlt
      · have hv : vicStep ages best n = best := if_neg fun g => h0 g.1
        simp -dsimp [hn, h0, hw, hnx, hv]
        exact hlt
    · rw [List.take_of_length_le hge] at hb
      rw [hb]

set_option maxRecDepth 5000 in
theorem ref12_Victim_spec (cycle ages : List Int) (hc : cycle.length < 2 ^ 63) : GSpec prog true n_ratlineref12_Victim [.iv (intsIV cycle), .iv (intsIV ages)] [] (vi (vic cycle ages)) [] := by
  refine gspec1 ratlineref12_Victim_is (by simp) (by decide) rfl ?_
  simp -dsimp [ratlineref12_Victim, intsIV]
  refine loop_idx [] [] cycle.length (fun i => ⟨[(6, vi i), (5, vi (vic (cycle.take i) ages)), (0, .iv (.lst 1 (intsC cycle))), (1, .iv (.lst 1 (intsC ages)))], []⟩) (fun _ => True) ?_ trivial ?_
  · simp -dsimp [vic]
  · intro i hi _
    have hok := vic_ok (cycle.take i) ages
    generalize hb : vic (cycle.take i) ages = best at hok
    simp -dsimp [ratlineref12_Victim_l9]
    refine ⟨fun hlt => ?_, fun hge => ?_⟩
    · obtain ⟨n, hn⟩ := some_at hlt
      have hw := wrap_in (n := (i : Int) + 1) (by omega)
      have hnx : vic (cycle.take (i + 1)) ages = vicStep ages best n := by rw [vic_next hn, hb]
      by_cases h0 : n < 0
      · have hv : vicStep ages best n = best := if_neg fun g => by have := g.1; omega
        simp -dsimp [hn, h0, hw, hnx, hv]
        exact hlt
      · have h0' : 0 ≤ n := by omega
        by_cases h1 : (ages.length : Int) ≤ n
        · have hv : vicStep ages best n = best := if_neg fun g => by have := g.2.1; omega
          simp -dsimp [hn, h0, h1, hw, hnx, hv]
          exact hlt
        · have h1' : n < ages.length := by omega
          by_cases h2 : best < 0
          · have hv : vicStep ages best n = n := if_pos ⟨h0', h1', .inl h2⟩
            simp -dsimp [hn, h0, h1, h2, hw, hnx, hv]
            exact hlt
          · have hb2 : 0 ≤ best ∧ best < ages.length := by rcases hok with h | h <;> omega
            have g1 := ag_at h0' h1'
            have g2 := ag_at hb2.1 hb2.2
            by_cases ho : ag ages best < ag ages n
            · have hv : vicStep ages best n = n := if_pos ⟨h0', h1', .inr (.inl ho)⟩
              simp -dsimp [hn, h0, h1, h2, hw, hnx, hv, g1, g2, ho, h0', hb2.1]
              exact hlt
            · by_cases he : ag ages n = ag ages best
              · by_cases hbn : best < n
                · have hv : vicStep ages best n = n := if_pos ⟨h0', h1', .inr (.inr ⟨he, hbn⟩)⟩
                  simp -dsimp [hn, h0, h1, h2, hw, hnx, hv, g1, g2, he, hbn, h0', hb2.1]
                  exact hlt
                · have hv : vicStep ages best n = best := if_neg fun g => g.2.2.elim h2 fun g => g.elim ho fun g => hbn g.2
                  simp -dsimp [hn, h0, h1, h2, hw, hnx, hv, g1, g2, he, hbn, h0', hb2.1]
                  exact hlt
              · have hv : vicStep ages best n = best := if_neg fun g => g.2.2.elim h2 fun g => g.elim ho fun g => he g.1
                simp -dsimp [hn, h0, h1, h2, hw, hnx, hv, g1, g2, ho, he, h0', hb2.1]
                exact hlt
    · rw [List.take_of_length_le hge] at hb
      rw [hb]
end Go.Rt
end

/- Contracts: rows that are sorted, turned, looked through. -/
section
namespace Go.Rt
open Go.Vm

theorem sortI_len (l : List Int) : (sortI l).length = l.length := List.length_mergeSort _
theorem slices_Sort_spec (xs : List Int) (hl : xs.length < 2 ^ 62) : GSpec prog false n_slices_Sort_int_int [.sl 1000 1 0 xs.length] [(1000, .list 1 (intsC xs))] (.tup []) [(1000, .list 1 (intsC (sortI xs)))] :=
  gspec_rowF sortI sortI_len (by simp [sortI]) (fun blk off cap zs w hH hb hs => Go.Proofs.Try.slices_Sort_int blk off cap zs w hH hb hs) (fun p cap w => Go.Proofs.Any.slices_Sort_int_none Go.Proofs.Try.lays189 p cap w) xs hl
theorem slices_Reverse_spec (xs : List Int) (hl : xs.length < 2 ^ 62) : GSpec prog false n_slices_Reverse_int_int [.sl 1000 1 0 xs.length] [(1000, .list 1 (intsC xs))] (.tup []) [(1000, .list 1 (intsC xs.reverse))] :=
  gspec_rowF List.reverse (fun l => List.length_reverse) rfl (fun blk off cap zs w hH hb hs => (Go.Proofs.Try.slices_Reverse_int blk off cap zs w hH (by omega)).mono fun e w' ⟨h1, n, h2⟩ => ⟨h1, n, #[], by rw [h2, Go.Sort.grow_empty]⟩)
    (fun p cap w => Go.Proofs.Any.slices_Reverse_int_empty Go.Proofs.Try.lays112 p cap w) xs hl
end Go.Rt
end

/- Contracts: copies, and what is looked for. -/
section
namespace Go.Rt
open Go.Vm

theorem intsC_flat (l : List Int) : ∀ x ∈ intsC l, ∀ y ∈ x, y.flat = true := by
  intro x hx y hy
  obtain ⟨i, _, rfl⟩ := List.mem_map.1 hx
  simp only [List.mem_singleton] at hy
  subst hy; rfl
theorem Clone_nil : GSpec prog true n_slices_Clone_int_int [.iv (.lst 1 [])] [] (.iv (.lst 1 [])) [] := by
  refine gspec1D [2, 5] slices_Clone_int_int_is (by simp) (by decide) rfl ?_
  simp -dsimp [slices_Clone_int_int]
theorem Clone_some {l : List Int} (h : l ≠ []) (hl : l.length < 2 ^ 40) (d : Nat) : GSpec prog true n_slices_Clone_int_int [.iv (intsIV l)] [] (.sl d 1 0 l.length) [(d, .list 1 (intsC l))] := by
  have hs : GSpec prog true n_slices_Clone_int_int [.iv (intsIV l)] [] (.sl 5 1 0 (intsC l).length) [(5, .list 1 (intsC l))] := by
    refine gspecN 5 1 (intsC l) slices_Clone_int_int_is (by simp) (by decide) (intsC_flat l) ?_
    have hne : intsC l ≠ [] := by simpa [intsC] using h
    simp -dsimp [slices_Clone_int_int, intsIV, hne]
    omega
  rw [intsC_len] at hs
  exact hs.fresh d rfl fun ρ => rfl

theorem bin_shr1 (m : Nat) : binV .shr (.int .u64 (m : Int)) (.int .u64 1) = some (.int .u64 ((m / 2 : Nat) : Int)) := by
  have : shift2 .shr .u64 (m : Int) 1 = ((m / 2 : Nat) : Int) := by
    simp only [shift2]
    have e : min (1 : Int).toNat IntKind.u64.bits = 1 := by decide
    rw [e, Int.fdiv_eq_ediv_of_nonneg _ (by decide)]
    omega
  simp only [binV, this]
  rfl

set_option maxHeartbeats 1000000 in
theorem BinarySearch_spec (l : List Int) (hl : l.length < 2 ^ 62) (t : Int) (hs : l.Pairwise (· ≤ ·)) : ∃ k : Nat, GSpec prog true n_slices_BinarySearch_int_int [.iv (intsIV l), vi t] [] (.tup [vi k, vb (decide (t ∈ l))]) [] := by
  obtain ⟨k, hk, h1, h2⟩ : ∃ k : Nat, k ≤ l.length ∧ (∀ (i : Nat) (x : Int), i < k → l[i]? = some x → x < t) ∧ (∀ (i : Nat) (x : Int), k ≤ i → l[i]? = some x → t ≤ x) := by
    clear hl
    induction l with
    | nil => exact ⟨0, Nat.le_refl _, fun i x h => by omega, fun i x _ h => by simp at h⟩
    | cons a r ih =>
      obtain ⟨hs1, hs2⟩ := List.pairwise_cons.1 hs
      by_cases ha : a < t
      · obtain ⟨k, hk, h1, h2⟩ := ih hs2
        refine ⟨k + 1, by simp only [List.length_cons]; omega, fun i x hi hx => ?_, fun i x hi hx => ?_⟩
        · cases i with
          | zero => simp at hx; subst hx; exact ha
          | succ i => exact h1 i x (by omega) (by simpa using hx)
        · cases i with
          | zero => omega
          | succ i => exact h2 i x (by omega) (by simpa using hx)
      · refine ⟨0, Nat.zero_le _, fun i x h => by omega, fun i x _ hx => ?_⟩
        have := List.mem_of_getElem? hx
        rcases List.mem_cons.1 this with rfl | h
        · omega
        · have := hs1 x h; omega
  refine ⟨k, gspec2 slices_BinarySearch_int_int_is (by simp) (by decide) rfl rfl ?_⟩
  simp -dsimp [slices_BinarySearch_int_int, intsIV]
  refine loop_any (fun m s => ∃ i j : Nat, m = j - i ∧ i ≤ k ∧ k ≤ j ∧ j ≤ l.length ∧ s = ⟨[(8, vi j), (7, vi i), (6, vi l.length), (0, .iv (.lst 1 (intsC l))), (1, vi t)], []⟩) ⟨_, ⟨[(8, vi l.length), (7, vi (0 : Nat)), (6, vi l.length), (0, .iv (.lst 1 (intsC l))), (1, vi t)], []⟩, LeTo.le (D := []) (by simp), 0, l.length, rfl, Nat.zero_le _, hk, Nat.le_refl _, rfl⟩ ?_
  rintro m s ⟨i, j, rfl, hi, hj, hjl, rfl⟩
  by_cases hij : i < j
  · have hw := wrap_in (n := (i : Int) + j) (by omega)
    have hu : IntKind.u64.wrap ((i : Int) + j) = ((i + j : Nat) : Int) := by rw [IntKind.wrap_u64]; omega
    have hsh := bin_shr1 (i + j)
    obtain ⟨x, hx⟩ : ∃ x, l[(i + j) / 2]? = some x := some_at (by omega)
    have hv := wrap_in (n := (((i + j) / 2 : Nat) : Int)) (by omega)
    have hm1 := wrap_in (n := (((i + j) / 2 : Nat) : Int) + 1) (by omega)
    generalize hmid : (i + j) / 2 = mid at hsh hx hv hm1
    generalize hij2 : ((i + j : Nat) : Int) = ij at hu hsh
    simp -dsimp [slices_BinarySearch_int_int_l8, hij, hw, hu, hsh, hv, hx]
    refine call_pure (cmp_Less_spec x t) (by simp) (by simp) ?_
    simp -dsimp [hm1]
    refine ⟨fun g => ?_, fun g => ?_⟩
    · have hmk : mid < k := Nat.lt_of_not_le fun h => by have := h2 mid x h hx; omega
      exact ⟨j - (mid + 1), by omega, ⟨[(8, vi j), (7, vi ((mid + 1 : Nat))), (6, vi l.length), (0, .iv (.lst 1 (intsC l))), (1, vi t)], []⟩, LeTo.le (D := []) (by simp), mid + 1, j, rfl, by omega, hj, hjl, rfl⟩
    · have hmk : k ≤ mid := Nat.le_of_not_lt fun h => by have := h1 mid x h hx; omega
      exact ⟨mid - i, by omega, ⟨[(8, vi mid), (7, vi i), (6, vi l.length), (0, .iv (.lst 1 (intsC l))), (1, vi t)], []⟩, LeTo.le (D := []) (by simp), i, mid, rfl, hi, hmk, by omega, rfl⟩
  · have hik : i = k := by omega
    have hjk : j = k := by omega
    subst hik hjk
    have hnot : (∀ x, l[j]? = some x → x ≠ t) → t ∉ l := fun g hm => by
      obtain ⟨i, hti⟩ := List.getElem?_of_mem hm
      rcases Nat.lt_trichotomy i j with h | h | h
      · have := h1 i t h hti; omega
      · rw [h] at hti; exact g t hti rfl
      · obtain ⟨y, hy⟩ : ∃ y, l[j]? = some y := some_at (by have := (List.getElem?_eq_some_iff.1 hti).1; omega)
        have h3 := h2 j y (Nat.le_refl _) hy
        have h4 : y ≤ t := by
          have hy' := List.getElem?_eq_some_iff.1 hy
          have hi' := List.getElem?_eq_some_iff.1 hti
          have := List.pairwise_iff_getElem.1 hs j i hy'.1 hi'.1 h
          rw [hy'.2, hi'.2] at this; exact this
        exact g y hy (by omega)
    by_cases hjl2 : j < l.length
    · obtain ⟨y, hy⟩ := some_at hjl2
      have hjl3 : (j : Int) < l.length := by omega
      by_cases hyt : y = t
      · have hm : t ∈ l := by rw [← hyt]; exact List.mem_of_getElem? hy
        simp -dsimp [slices_BinarySearch_int_int_l8, hy, hyt, hm]
        exact hjl2
      · have hm : t ∉ l := hnot fun x hx => by rw [hy] at hx; cases hx; exact hyt
        simp -dsimp [slices_BinarySearch_int_int_l8, hy, hyt, hm]
        intro _
        refine call_pure (slices_isNaN_spec y) (by simp) (by simp) ?_
        simp -dsimp [hm]
    · have hm : t ∉ l := hnot fun x hx => by have := (List.getElem?_eq_some_iff.1 hx).1; omega
      have hjl3 : ¬(j : Int) < l.length := by omega
      simp -dsimp [slices_BinarySearch_int_int_l8, hjl3, hm]
end Go.Rt
end

/- A search by layers, as data. No program in sight. -/
section
namespace Go.Rt
open Go.Vm

abbrev Fm := List (Int × Int)
def fmAt (f : Fm) (k : Int) : Option Int := (f.find? fun p => decide (p.1 = k)).map (·.2)
theorem fmAt_append (f : Fm) (k i q : Int) : fmAt (f ++ [(k, i)]) q = (fmAt f q).or (if k = q then some i else none) := by
  unfold fmAt
  rw [List.find?_append]
  cases h : List.find? (fun p => decide (p.1 = q)) f with
  | some p => simp
  | none => by_cases e : k = q <;> simp [List.find?, e]
abbrev skF : Sk := (false, [.i .i64], false)
def gF (f : Fm) : List Value → Option (List IV)
  | [.int .i64 k] => (fmAt f k).map fun i => [ci i]
  | _ => none
theorem gF_set {f : Fm} {k : Int} (h : fmAt f k = none) (i : Int) : gset (gF f) [.int .i64 k] (some [ci i]) = gF (f ++ [(k, i)]) := by
  funext q
  simp only [gset]
  split
  · rename_i e; subst e
    simp only [gF, fmAt_append, h]
    simp
  · rename_i hne
    unfold gF
    split
    · rename_i q'
      rw [fmAt_append, if_neg (by rintro rfl; exact hne rfl)]
      simp
    · rfl
theorem gF_nil : (fun _ => none : List Value → Option (List IV)) = gF [] := by
  funext q; unfold gF; split <;> rfl

/-- a row of another row -/
def rowAt (e : List (List Int)) (i : Int) : List Int := (e[i.toNat]?).getD []
def stepK (n : Nat) (i : Int) (st : Fm × List Int) (k : Int) : Fm × List Int := if 0 ≤ k ∧ k < n ∧ fmAt st.1 k = none then (st.1 ++ [(k, i)], st.2 ++ [k]) else st
def procL (n : Nat) (i : Int) (l : List Int) (st : Fm × List Int) : Fm × List Int := l.foldl (stepK n i) st
def layS (e : List (List Int)) (circle : List Int) (st : Fm × List Int) : Fm × List Int := circle.foldl (fun st i => procL e.length i (sortI (rowAt e i)) st) st
def layerF (e : List (List Int)) (start : Int) : List Int → Fm × List Int → Option Int × (Fm × List Int)
  | [], st => (none, st)
  | i :: r, st => if start ∈ rowAt e i then (some i, st) else layerF e start r (procL e.length i (sortI (rowAt e i)) st)
def bfs (e : List (List Int)) (start : Int) : Nat → List Int → Fm → Option (Option Int × Fm)
  | _, [], f => some (none, f)
  | 0, _ :: _, _ => none
  | k + 1, c :: r, f => match layerF e start (c :: r) (f, []) with
    | (some i, st) => some (some i, st.1)
    | (none, st) => bfs e start k st.2 st.1
def chain (f : Fm) : Nat → Int → Option (List Int)
  | 0, i => if i < 0 then some [] else none
  | k + 1, i => if i < 0 then some [] else (chain f k ((fmAt f i).getD 0)).map fun l => i :: l

theorem layS_next {c : List Int} {j : Nat} {i : Int} (h : c[j]? = some i) (e : List (List Int)) (st : Fm × List Int) : layS e (c.take (j + 1)) st = procL e.length i (sortI (rowAt e i)) (layS e (c.take j) st) := by
  unfold layS; rw [take_next' h, List.foldl_append]; rfl
theorem procL_next {l : List Int} {j : Nat} {k : Int} (h : l[j]? = some k) (n : Nat) (i : Int) (st : Fm × List Int) : procL n i (l.take (j + 1)) st = stepK n i (procL n i (l.take j) st) k := by
  unfold procL; rw [take_next' h, List.foldl_append]; rfl
theorem layerF_at {e : List (List Int)} {start : Int} {c : List Int} {j : Nat} {i : Int} (h : c[j]? = some i) (st : Fm × List Int) :
    layerF e start (c.drop j) st = if start ∈ rowAt e i then (some i, st) else layerF e start (c.drop (j + 1)) (procL e.length i (sortI (rowAt e i)) st) := by
  have hl := (List.getElem?_eq_some_iff.1 h).1
  rw [List.drop_eq_getElem_cons hl, (List.getElem?_eq_some_iff.1 h).2]
  rfl
theorem layerF_end (e : List (List Int)) (start : Int) (st : Fm × List Int) : layerF e start [] st = (none, st) := rfl

/-- all that is met is one of the rows -/
def Inn (n : Nat) (l : List Int) : Prop := ∀ i, i ∈ l → 0 ≤ i ∧ i < n
theorem stepK_inn {n : Nat} {i k : Int} {st : Fm × List Int} (h : Inn n st.2) : Inn n (stepK n i st k).2 := by
  unfold stepK
  split
  · rename_i g
    intro x hx
    rcases List.mem_append.1 hx with hx | hx
    · exact h x hx
    · simp only [List.mem_singleton] at hx; subst hx; exact ⟨g.1, g.2.1⟩
  · exact h
theorem procL_inn {n : Nat} {i : Int} (l : List Int) : ∀ {st : Fm × List Int}, Inn n st.2 → Inn n (procL n i l st).2 := by
  induction l with
  | nil => intro st h; exact h
  | cons k l ih => intro st h; exact ih (stepK_inn h)
theorem layS_inn {e : List (List Int)} (c : List Int) : ∀ {st : Fm × List Int}, Inn e.length st.2 → Inn e.length (layS e c st).2 := by
  induction c with
  | nil => intro st h; exact h
  | cons k l ih => intro st h; exact ih (procL_inn _ h)
/-- no more are met than can be -/
theorem range_len : ∀ (n : Nat) {l : List Int}, l.Nodup → Inn n l → l.length ≤ n
  | 0, l, _, h => by
    cases l with
    | nil => simp
    | cons a r => have := h a List.mem_cons_self; omega
  | n + 1, l, hd, h => by
    by_cases hm : (n : Int) ∈ l
    · have h1 := range_len n (l := l.erase n) (hd.erase _) fun x hx => by
        have h2 := (hd.mem_erase_iff).1 hx
        have := h x h2.2
        have : x ≠ (n : Int) := h2.1
        omega
      rw [List.length_erase_of_mem hm] at h1
      have := List.length_pos_iff.2 (List.ne_nil_of_mem hm)
      omega
    · have := range_len n (l := l) hd fun x hx => by
        have := h x hx
        have : x ≠ (n : Int) := fun e => hm (e ▸ hx)
        omega
      omega
theorem fmAt_none {f : Fm} {k : Int} : fmAt f k = none ↔ k ∉ f.map (·.1) := by
  unfold fmAt
  rw [Option.map_eq_none_iff, List.find?_eq_none]
  simp only [decide_eq_true_eq, List.mem_map, not_exists, not_and]
structure GoodF (n : Nat) (f : Fm) : Prop where
  nodup : (f.map (·.1)).Nodup
  inn : Inn n (f.map (·.1))
theorem GoodF.len {n : Nat} {f : Fm} (h : GoodF n f) : f.length ≤ n := by have := range_len n h.nodup h.inn; simpa using this
def Cnt (n m : Nat) (st : Fm × List Int) : Prop := GoodF n st.1 ∧ st.1.length = m + st.2.length
theorem stepK_cnt {n m : Nat} {i k : Int} {st : Fm × List Int} (h : Cnt n m st) : Cnt n m (stepK n i st k) := by
  unfold stepK
  split
  · rename_i g
    refine ⟨⟨?_, ?_⟩, ?_⟩
    · rw [List.map_append, List.nodup_append]
      refine ⟨h.1.nodup, by simp, fun a ha b hb => ?_⟩
      simp only [List.map_cons, List.map_nil, List.mem_singleton] at hb
      subst hb
      rintro rfl
      exact fmAt_none.1 g.2.2 ha
    · intro x hx
      rw [List.map_append] at hx
      rcases List.mem_append.1 hx with hx | hx
      · exact h.1.inn x hx
      · simp only [List.map_cons, List.map_nil, List.mem_singleton] at hx; subst hx; exact ⟨g.1, g.2.1⟩
    · simp only [List.length_append, List.length_singleton]; have := h.2; omega
  · exact h
theorem procL_cnt {n m : Nat} {i : Int} (l : List Int) : ∀ {st : Fm × List Int}, Cnt n m st → Cnt n m (procL n i l st) := by
  induction l with
  | nil => intro st h; exact h
  | cons k l ih => intro st h; exact ih (stepK_cnt h)
theorem layS_cnt {e : List (List Int)} {m : Nat} (c : List Int) : ∀ {st : Fm × List Int}, Cnt e.length m st → Cnt e.length m (layS e c st) := by
  induction c with
  | nil => intro st h; exact h
  | cons k l ih => intro st h; exact ih (procL_cnt _ h)
theorem Cnt.len {n m : Nat} {st : Fm × List Int} (h : Cnt n m st) : st.2.length ≤ n := by have := h.1.len; have := h.2; omega
end Go.Rt
end

/- Contracts: a cycle by layers. -/
section
namespace Go.Rt
open Go.Vm

theorem Sort_none : GSpec prog true n_slices_Sort_int_int [.iv (.lst 1 [])] [] (.tup []) [] :=
  gspec_none fun p cap w => Go.Proofs.Any.slices_Sort_int_none Go.Proofs.Try.lays189 p cap w
structure RowsOk (e : List (List Int)) : Prop where
  len : e.length ≤ 1000
  rows : ∀ l, l ∈ e → l.length ≤ 1000
theorem sortI_sorted (l : List Int) : (sortI l).Pairwise (· ≤ ·) := by
  have := List.pairwise_mergeSort (le := fun x y : Int => decide (x ≤ y)) (by intro a b c; simp; omega) (by intro a b; simp; omega) l
  exact this.imp (by simp)
theorem sortI_mem (l : List Int) (t : Int) : t ∈ sortI l ↔ t ∈ l := List.mem_mergeSort
theorem sortI_nil : sortI [] = [] := by simp [sortI]

theorem Reverse_18 (xs : List Int) (hl : xs.length < 2 ^ 62) : GSpec prog false n_slices_Reverse_int_int [.sl 18 1 0 xs.length] [(18, .list 1 (intsC xs))] (.tup []) [(18, .list 1 (intsC xs.reverse))] :=
  (slices_Reverse_spec xs hl).ren (Ren.swaps [(1000, 18)]) rfl
theorem Sort_46 (xs : List Int) (hl : xs.length < 2 ^ 62) : GSpec prog false n_slices_Sort_int_int [.sl 46 1 0 xs.length] [(46, .list 1 (intsC xs))] (.tup []) [(46, .list 1 (intsC (sortI xs)))] :=
  (slices_Sort_spec xs hl).ren (Ren.swaps [(1000, 46)]) rfl
theorem list_le {sz : Nat} {xs ys : List (List IV)} (h : xs.length ≤ ys.length) : (Ob.list sz xs).le (Ob.list sz ys) := Ob.le_of rfl rfl h
def cyP (e : List (List Int)) (start : Int) (k : Nat) (circle : List Int) (f : Fm) (res : Option Int × Fm) : Prop :=
  bfs e start k circle f = some res ∧ Inn e.length circle ∧ GoodF e.length f ∧ circle.length ≤ 1000

set_option maxHeartbeats 4000000 in
theorem Cycle_some {e : List (List Int)} (he : RowsOk e) {start : Int} (hst : 0 ≤ start ∧ start < e.length) {K K2 : Nat} {r : Option Int} {g : Fm} {out : List Int}
    (hb : bfs e start K [start] [(start, -1)] = some (r, g)) (hc : chain g K2 (r.getD (-1)) = some out) (ho : out.length ≤ 2000) :
    GSpec prog true n_waits_Cycle [.iv (rowsIV e), vi start] [] (.sl 18 1 0 (intsC out.reverse).length) [(18, .list 1 (intsC out.reverse))] := by
  refine gspecN 18 1 (intsC out.reverse) waits_Cycle_is (by simp) (by decide) (intsC_flat _) ?_
  have n1 : ¬start < 0 := by omega
  have n2 : ¬(e.length : Int) ≤ start := by omega
  have hmap : gset (fun _ => none) [Value.int .i64 start] (some [ci (-1)]) = gF [(start, -1)] := by
    rw [gF_nil]; exact gF_set (f := []) rfl (-1)
  simp -dsimp [waits_Cycle, rowsIV, n1, n2, hmap]
  refine loop_any (fun k s => ∃ (circle : List Int) (f : Fm), cyP e start k circle f (r, g) ∧
    s = ⟨[(6, .iv (.lst 1 (intsC circle))), (5, .mpr 28), (7, vi (-1)), (0, .iv (rowsIV e)), (1, vi start)], [(28, .map skF (gF f))]⟩) ?_ ?_
  · refine ⟨K, _, LeTo.le (D := [32, 4]) ?_, [start], [(start, -1)], ⟨hb, ?_, ⟨by simp, ?_⟩, by simp⟩, rfl⟩
    · simp [intsC, rowsIV]
    · intro i hi; simp at hi; subst hi; exact hst
    · intro i hi; simp at hi; subst hi; exact hst
  · rintro k s ⟨circle, f, ⟨h1, h2, h3, h4⟩, rfl⟩
    by_cases hcl : circle = []
    · subst hcl
      simp -dsimp [waits_Cycle_l29, intsC]
      have hr : r = none ∧ g = f := by cases k <;> simp [bfs] at h1 <;> exact ⟨h1.1.symm, h1.2.symm⟩
      obtain ⟨hr, rfl⟩ := hr
      rw [hr] at hc
      refine loop_any (fun k s => ∃ (pre rest : List Int) (cur : Int), chain g k cur = some rest ∧ out = pre ++ rest ∧
        s = ⟨[(18, .sl 18 1 0 pre.length), (5, .mpr 28), (19, vi cur)], [(18, .list 1 (intsC pre)), (28, .map skF (gF g))]⟩) ⟨K2, _, LeTo.le (D := [8, 46, 4]) ?_, [], out, _, hc, rfl, rfl⟩ ?_
      · simp [intsC, hr]
      · rintro k s ⟨pre, rest, cur, g1, g2, rfl⟩
        by_cases hcur : cur < 0
        · have hrest : rest = [] := by cases k <;> simp [chain, hcur] at g1 <;> exact g1
          have hcur2 : ¬0 ≤ cur := by omega
          subst hrest
          rw [List.append_nil] at g2
          subst g2
          simp -dsimp [waits_Cycle_l35, hcur2]
          refine call_mut (Reverse_18 out (by omega)) rfl (by simp) (by simp) (by simp) (by simp) (by simp) (by simp [list_le]) (by simp) ?_
          simp -dsimp [intsC]
        · obtain ⟨k, rfl⟩ : ∃ m, k = m + 1 := by
            cases k with
            | zero => simp [chain, hcur] at g1
            | succ m => exact ⟨m, rfl⟩
          have hcur2 : 0 ≤ cur := by omega
          simp only [chain, hcur, if_false] at g1
          obtain ⟨rest', g3, g4⟩ := Option.map_eq_some_iff.1 g1
          subst g4
          have hlen : pre.length < 2000 := by rw [g2] at ho; simp at ho; omega
          cases hf : fmAt g cur with
          | none =>
            rw [hf] at g3
            have hq : gF g [.int .i64 cur] = none := by simp [gF, hf]
            simp -dsimp [waits_Cycle_l35, hcur2, hq]
            refine ⟨by omega, by omega, k, by omega, _, LeTo.le (D := [97]) ?_, pre ++ [cur], rest', 0, g3, by simp [g2], rfl⟩
            simp [intsC]
          | some q =>
            rw [hf] at g3
            have hq : gF g [.int .i64 cur] = some [ci q] := by simp [gF, hf]
            simp -dsimp [waits_Cycle_l35, hcur2, hq]
            refine ⟨by omega, by omega, k, by omega, _, LeTo.le (D := [97]) ?_, pre ++ [cur], rest', q, g3, by simp [g2], rfl⟩
            simp [intsC]
    · have hpos := List.length_pos_iff.2 hcl
      simp -dsimp [waits_Cycle_l29, hcl, hpos]
      obtain ⟨k, rfl⟩ : ∃ m, k = m + 1 := by
        cases k with
        | zero => cases circle with
          | nil => exact absurd rfl hcl
          | cons a b => simp [bfs] at h1
        | succ m => exact ⟨m, rfl⟩
      have h1' : (match layerF e start circle (f, []) with | (some i, st) => some (some i, st.1) | (none, st) => bfs e start k st.2 st.1) = some (r, g) := by
        cases circle with
        | nil => exact absurd rfl hcl
        | cons a b => exact h1
      have hcnt : ∀ j, Cnt e.length f.length (layS e (circle.take j) (f, [])) := fun j => layS_cnt _ ⟨h3, by simp⟩
      have hinn : ∀ j, Inn e.length (layS e (circle.take j) (f, [])).2 := fun j => layS_inn _ (by intro i hi; simp at hi)
      refine loop_idx [4, 46] [46, 84] circle.length (fun j => ⟨[(38, vi j), (37, vi circle.length), (36, .iv (.lst 1 (intsC circle))), (8, .sl 8 1 0 (layS e (circle.take j) (f, [])).2.length), (5, .mpr 28), (7, vi (-1)), (0, .iv (rowsIV e)), (1, vi start)],
        [(8, .list 1 (intsC (layS e (circle.take j) (f, [])).2)), (28, .map skF (gF (layS e (circle.take j) (f, [])).1))]⟩)
        (fun j => layerF e start (circle.drop j) (layS e (circle.take j) (f, [])) = layerF e start circle (f, [])) ?_ ?_ ?_
      · simp [layS, intsC, rowsIV]
      · simp [layS]
      · intro j hj hQ
        by_cases hjl : j < circle.length
        · obtain ⟨i, hi⟩ := some_at hjl
          rw [layerF_at hi] at hQ
          have hinn1 := h2 i (List.mem_of_getElem? hi)
          obtain ⟨row, hrow⟩ : ∃ row, e[i.toNat]? = some row := some_at (by omega)
          have hra : rowAt e i = row := by simp [rowAt, hrow]
          have hrl := he.rows row (List.mem_of_getElem? hrow)
          obtain ⟨b, hbs⟩ := BinarySearch_spec (sortI row) (by rw [sortI_len]; omega) start (sortI_sorted row)
          rw [hra] at hQ
          have hnext := layS_next hi e (f, [])
          rw [hra] at hnext
          have hc1 := hcnt j
          have hi1 := hinn j
          obtain ⟨i', rfl⟩ : ∃ i' : Nat, i = i' := ⟨i.toNat, by omega⟩
          simp only [Int.toNat_natCast] at hrow
          generalize hst : layS e (circle.take j) (f, []) = st at *
          obtain ⟨f1, nx⟩ := st
          have htk : List.take row.length (List.map (fun i => [ci i]) (sortI row)) = List.map (fun i => [ci i]) (sortI row) := List.take_of_length_le (by simp [sortI_len])
          have htk2 : List.take row.length (intsC (sortI row)) = intsC (sortI row) := htk
          have hjw := wrap_in (n := (j : Int) + 1) (by omega)
          simp -dsimp [waits_Cycle_l27, rowsIV, hi, hrow]
          have hcl27 : (i' : Nat) < e.length := by omega
          refine ⟨fun _ => ?_, fun h => absurd h (by omega)⟩
          by_cases hre : row = []
          · have hns : start ∉ row := by simp [hre]
            have hns2 : start ∉ sortI row := by simp [sortI_mem, hns]
            rw [if_neg hns] at hQ
            refine call_pure Clone_nil (by simp [intsC, hre]) (by simp) ?_
            simp -dsimp
            refine call_pure Sort_none (by simp) (by simp) ?_
            simp -dsimp
            refine call_pure hbs (by simp [intsIV, intsC, hre, sortI_nil]) (by simp) ?_
            simp -dsimp [hns2]
            refine loop_idx [46] [84] (sortI row).length (fun q => ⟨[(59, vi q), (58, vi (sortI row).length), (57, .iv (.lst 1 (intsC (sortI row)))), (10, vi i'), (38, vi j), (37, vi circle.length), (36, .iv (.lst 1 (intsC circle))),
              (8, .sl 8 1 0 (procL e.length i' ((sortI row).take q) (f1, nx)).2.length), (5, .mpr 28), (7, vi (-1)), (0, .iv (rowsIV e)), (1, vi start)],
              [(8, .list 1 (intsC (procL e.length i' ((sortI row).take q) (f1, nx)).2)), (28, .map skF (gF (procL e.length i' ((sortI row).take q) (f1, nx)).1))]⟩) (fun _ => True) ?_ trivial ?_
            · simp [procL, rowsIV, intsC, sortI_len, hre, sortI_nil, htk]
            · intro q hq _
              by_cases hql : q < (sortI row).length
              · obtain ⟨x, hx⟩ := some_at hql
                have hn := procL_next hx e.length i' (f1, nx)
                have hcq := procL_cnt (i := i') ((sortI row).take q) hc1
                have hlenq := hcq.len
                have hel := he.len
                generalize hst2 : procL e.length i' ((sortI row).take q) (f1, nx) = st2 at *
                obtain ⟨f2, nx2⟩ := st2
                simp only at hlenq
                have hqw := wrap_in (n := (q : Int) + 1) (by have := sortI_len row; omega)
                by_cases x0 : x < 0
                · have hs : stepK e.length i' (f2, nx2) x = (f2, nx2) := by unfold stepK; rw [if_neg (by omega)]
                  rw [hs] at hn
                  simp -dsimp [waits_Cycle_l25, rowsIV, hx, x0, hqw, hn]
                  exact fun h => absurd h (by omega)
                · by_cases x1 : (e.length : Int) ≤ x
                  · have hs : stepK e.length i' (f2, nx2) x = (f2, nx2) := by unfold stepK; rw [if_neg (by omega)]
                    rw [hs] at hn
                    simp -dsimp [waits_Cycle_l25, rowsIV, hx, x0, x1, hqw, hn]
                    exact fun h => absurd h (by omega)
                  · cases hf : fmAt f2 x with
                    | none =>
                      have hs : stepK e.length i' (f2, nx2) x = (f2 ++ [(x, (i' : Int))], nx2 ++ [x]) := by unfold stepK; rw [if_pos ⟨by omega, by omega, hf⟩]
                      rw [hs] at hn
                      have hg : gF f2 [.int .i64 x] = none := by simp [gF, hf]
                      have hg2 := gF_set hf i'
                      simp -dsimp [waits_Cycle_l25, rowsIV, hx, x0, x1, hqw, hn, hg, hg2]
                      exact ⟨fun _ => ⟨by omega, by omega, hql, by simp [intsC]⟩, fun h => absurd h (by omega)⟩
                    | some z =>
                      have hs : stepK e.length i' (f2, nx2) x = (f2, nx2) := by unfold stepK; rw [if_neg (by rw [hf]; simp)]
                      rw [hs] at hn
                      have hg : gF f2 [.int .i64 x] = some [ci z] := by simp [gF, hf]
                      simp -dsimp [waits_Cycle_l25, rowsIV, hx, x0, x1, hqw, hn, hg]
                      exact fun h => absurd h (by omega)
              · have hqe : q = (sortI row).length := by omega
                subst hqe
                simp -dsimp [waits_Cycle_l25, hjw]
                rw [hnext]
                exact ⟨hjl, ⟨⟨rfl, rfl⟩, rfl, rfl⟩, hQ⟩
          · refine call_new (Clone_some hre (by omega) 46) (by decide) (by simp [intsIV]) (by simp) ?_
            simp -dsimp
            refine call_mut (Sort_46 row (by omega)) rfl (by simp) (by simp) (by simp) (by simp) (by simp) (by simp [list_le, sortI_len]) (by simp) ?_
            simp -dsimp
            refine call_pure hbs (by simp [intsIV, htk2, sortI_len]) (by simp) ?_
            by_cases hin : start ∈ row
            · have hin2 : start ∈ sortI row := by simp [sortI_mem, hin]
              simp -dsimp [hin2]
              rw [if_pos hin] at hQ
              rw [← hQ] at h1'
              simp only [Option.some.injEq, Prod.mk.injEq] at h1'
              obtain ⟨hr, hfg⟩ : r = some ↑i' ∧ g = f1 := ⟨h1'.1.symm, h1'.2.symm⟩
              subst hfg
              rw [hr] at hc
              refine loop_any (fun k s => ∃ (pre rest : List Int) (cur : Int), chain g k cur = some rest ∧ out = pre ++ rest ∧
                s = ⟨[(18, .sl 18 1 0 pre.length), (5, .mpr 28), (19, vi cur)], [(18, .list 1 (intsC pre)), (28, .map skF (gF g))]⟩) ⟨K2, _, LeTo.le (D := [8, 46, 4]) ?_, [], out, _, hc, rfl, rfl⟩ ?_
              · simp [intsC, hr]
              · rintro k s ⟨pre, rest, cur, g1, g2, rfl⟩
                by_cases hcur : cur < 0
                · have hrest : rest = [] := by cases k <;> simp [chain, hcur] at g1 <;> exact g1
                  have hcur2 : ¬0 ≤ cur := by omega
                  subst hrest
                  rw [List.append_nil] at g2
                  subst g2
                  simp -dsimp [waits_Cycle_l35, hcur2]
                  refine call_mut (Reverse_18 out (by omega)) rfl (by simp) (by simp) (by simp) (by simp) (by simp) (by simp [list_le]) (by simp) ?_
                  simp -dsimp [intsC]
                · obtain ⟨k, rfl⟩ : ∃ m, k = m + 1 := by
                    cases k with
                    | zero => simp [chain, hcur] at g1
                    | succ m => exact ⟨m, rfl⟩
                  have hcur2 : 0 ≤ cur := by omega
                  simp only [chain, hcur, if_false] at g1
                  obtain ⟨rest', g3, g4⟩ := Option.map_eq_some_iff.1 g1
                  subst g4
                  have hlen : pre.length < 2000 := by rw [g2] at ho; simp at ho; omega
                  cases hf : fmAt g cur with
                  | none =>
                    rw [hf] at g3
                    have hq : gF g [.int .i64 cur] = none := by simp [gF, hf]
                    simp -dsimp [waits_Cycle_l35, hcur2, hq]
                    refine ⟨by omega, by omega, k, by omega, _, LeTo.le (D := [97]) ?_, pre ++ [cur], rest', 0, g3, by simp [g2], rfl⟩
                    simp [intsC]
                  | some q =>
                    rw [hf] at g3
                    have hq : gF g [.int .i64 cur] = some [ci q] := by simp [gF, hf]
                    simp -dsimp [waits_Cycle_l35, hcur2, hq]
                    refine ⟨by omega, by omega, k, by omega, _, LeTo.le (D := [97]) ?_, pre ++ [cur], rest', q, g3, by simp [g2], rfl⟩
                    simp [intsC]
            · have hin2 : start ∉ sortI row := by simp [sortI_mem, hin]
              rw [if_neg hin] at hQ
              simp -dsimp [hin2]
              refine loop_idx [46] [84] (sortI row).length (fun q => ⟨[(59, vi q), (58, vi (sortI row).length), (57, .iv (.lst 1 (intsC (sortI row)))), (10, vi i'), (38, vi j), (37, vi circle.length), (36, .iv (.lst 1 (intsC circle))),
                (8, .sl 8 1 0 (procL e.length i' ((sortI row).take q) (f1, nx)).2.length), (5, .mpr 28), (7, vi (-1)), (0, .iv (rowsIV e)), (1, vi start)],
                [(8, .list 1 (intsC (procL e.length i' ((sortI row).take q) (f1, nx)).2)), (28, .map skF (gF (procL e.length i' ((sortI row).take q) (f1, nx)).1))]⟩) (fun _ => True) ?_ trivial ?_
              · simp [procL, rowsIV, intsC, sortI_len, hre, sortI_nil, htk]
              · intro q hq _
                by_cases hql : q < (sortI row).length
                · obtain ⟨x, hx⟩ := some_at hql
                  have hn := procL_next hx e.length i' (f1, nx)
                  have hcq := procL_cnt (i := i') ((sortI row).take q) hc1
                  have hlenq := hcq.len
                  have hel := he.len
                  generalize hst2 : procL e.length i' ((sortI row).take q) (f1, nx) = st2 at *
                  obtain ⟨f2, nx2⟩ := st2
                  simp only at hlenq
                  have hqw := wrap_in (n := (q : Int) + 1) (by have := sortI_len row; omega)
                  by_cases x0 : x < 0
                  · have hs : stepK e.length i' (f2, nx2) x = (f2, nx2) := by unfold stepK; rw [if_neg (by omega)]
                    rw [hs] at hn
                    simp -dsimp [waits_Cycle_l25, rowsIV, hx, x0, hqw, hn]
                    exact fun h => absurd h (by omega)
                  · by_cases x1 : (e.length : Int) ≤ x
                    · have hs : stepK e.length i' (f2, nx2) x = (f2, nx2) := by unfold stepK; rw [if_neg (by omega)]
                      rw [hs] at hn
                      simp -dsimp [waits_Cycle_l25, rowsIV, hx, x0, x1, hqw, hn]
                      exact fun h => absurd h (by omega)
                    · cases hf : fmAt f2 x with
                      | none =>
                        have hs : stepK e.length i' (f2, nx2) x = (f2 ++ [(x, (i' : Int))], nx2 ++ [x]) := by unfold stepK; rw [if_pos ⟨by omega, by omega, hf⟩]
                        rw [hs] at hn
                        have hg : gF f2 [.int .i64 x] = none := by simp [gF, hf]
                        have hg2 := gF_set hf i'
                        simp -dsimp [waits_Cycle_l25, rowsIV, hx, x0, x1, hqw, hn, hg, hg2]
                        exact ⟨fun _ => ⟨by omega, by omega, hql, by simp [intsC]⟩, fun h => absurd h (by omega)⟩
                      | some z =>
                        have hs : stepK e.length i' (f2, nx2) x = (f2, nx2) := by unfold stepK; rw [if_neg (by rw [hf]; simp)]
                        rw [hs] at hn
                        have hg : gF f2 [.int .i64 x] = some [ci z] := by simp [gF, hf]
                        simp -dsimp [waits_Cycle_l25, rowsIV, hx, x0, x1, hqw, hn, hg]
                        exact fun h => absurd h (by omega)
                · have hqe : q = (sortI row).length := by omega
                  subst hqe
                  simp -dsimp [waits_Cycle_l25, hjw]
                  rw [hnext]
                  exact ⟨hjl, ⟨⟨rfl, rfl⟩, rfl, rfl⟩, hQ⟩
        · have hje : j = circle.length := by omega
          subst hje
          have hc1 := hcnt circle.length
          have hi1 := hinn circle.length
          have hel := he.len
          rw [List.drop_length, layerF_end] at hQ
          rw [← hQ] at h1'
          simp only [List.take_length] at hc1 hi1 h1'
          simp -dsimp [waits_Cycle_l27]
          refine ⟨k, by omega, _, LeTo.le (D := [8]) ?_, (layS e circle (f, [])).2, (layS e circle (f, [])).1, ⟨h1', hi1, hc1.1, by have := hc1.len; omega⟩, rfl⟩
          simp [rowsIV]
          exact List.take_of_length_le (by simp)

theorem Cycle_none (e : List (List Int)) {start : Int} (hst : ¬(0 ≤ start ∧ start < e.length)) (d : Nat) :
    GSpec prog true n_waits_Cycle [.iv (rowsIV e), vi start] [] (.sl d 1 0 0) [(d, .list 1 [])] := by
  have h : GSpec prog true n_waits_Cycle [.iv (rowsIV e), vi start] [] (.sl 4 1 0 ([] : List (List IV)).length) [(4, .list 1 [])] := by
    refine gspecN 4 1 [] waits_Cycle_is (by simp) (by decide) (by simp) ?_
    by_cases h1 : start < 0
    · simp -dsimp [waits_Cycle, rowsIV, h1]
    · have h2 : (e.length : Int) ≤ start := by omega
      simp -dsimp [waits_Cycle, rowsIV, h1, h2]
  exact h.fresh d rfl fun ρ => rfl
end Go.Rt
end
