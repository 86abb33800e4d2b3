/- Contracts of functions of the program, and what they lean on. Conditions: those of each theorem. -/
import Derived.Test.YtoiegcefpofheaaPC
import Derived.Test.YtoiegcefpofheaaPA

set_option linter.unusedVariables false
set_option linter.unusedSimpArgs false

/- Who is stuck, as data: counts, who waits for whom, who is free. -/
section
namespace Go.Rt
open Go.Vm

def lAt (l : List Int) (i : Int) : Int := (l[i.toNat]?).getD 0
def stepB (n i : Nat) (st : List Int × List (List Int)) (k : Int) : List Int × List (List Int) :=
  if 0 ≤ k ∧ k < n then (st.1.set i (IntKind.i64.wrap (lAt st.1 i + 1)), st.2.set k.toNat (rowAt st.2 k ++ [(i : Int)])) else st
def rowB (n i : Nat) (row : List Int) (st : List Int × List (List Int)) : List Int × List (List Int) := row.foldl (stepB n i) st
def outB (n : Nat) (st : (List Int × List (List Int)) × List Int) (p : List Int × Nat) : (List Int × List (List Int)) × List Int :=
  (rowB n p.2 p.1 st.1, if lAt (rowB n p.2 p.1 st.1).1 p.2 = 0 then st.2 ++ [(p.2 : Int)] else st.2)
def partB (e : List (List Int)) (j : Nat) : (List Int × List (List Int)) × List Int := (e.zipIdx.take j).foldl (outB e.length) ((List.replicate e.length 0, List.replicate e.length []), [])
def stepD (st : List Int × List Int) (k : Int) : List Int × List Int :=
  (st.1.set k.toNat (IntKind.i64.wrap (lAt st.1 k - 1)), if IntKind.i64.wrap (lAt st.1 k - 1) = 0 then st.2 ++ [k] else st.2)
def rowD (l : List Int) (st : List Int × List Int) : List Int × List Int := l.foldl stepD st
def drain (back : List (List Int)) : Nat → List Int → List Int → List Int → Option (List Int)
  | _, _, [], ends => some ends
  | 0, _, _ :: _, _ => none
  | k + 1, left, i :: free, ends => drain back k (rowD (rowAt back i) (left, free)).1 (rowD (rowAt back i) (left, free)).2 (ends ++ [i])
def leftOut (n : Nat) (ends : List Int) : List Int := ((List.range n).map fun i : Nat => (i : Int)).filter fun i => decide (i ∉ ends)

theorem partB_next {e : List (List Int)} {j : Nat} {row : List Int} (h : e[j]? = some row) : partB e (j + 1) = outB e.length (partB e j) (row, j) := by
  unfold partB
  rw [take_next' (x := (row, j)) (by rw [List.getElem?_zipIdx, h]; simp), List.foldl_append]; rfl
theorem rowB_next {l : List Int} {j : Nat} {k : Int} (h : l[j]? = some k) (n i : Nat) (st : List Int × List (List Int)) : rowB n i (l.take (j + 1)) st = stepB n i (rowB n i (l.take j) st) k := by
  unfold rowB; rw [take_next' h, List.foldl_append]; rfl
theorem rowD_next {l : List Int} {j : Nat} {k : Int} (h : l[j]? = some k) (st : List Int × List Int) : rowD (l.take (j + 1)) st = stepD (rowD (l.take j) st) k := by
  unfold rowD; rw [take_next' h, List.foldl_append]; rfl

/-- what holds while the rows are read: c bounds each list's length -/
structure BOk (n c : Nat) (st : List Int × List (List Int)) : Prop where
  left : st.1.length = n
  back : st.2.length = n
  len : ∀ b ∈ st.2, b.length ≤ c
  inn : ∀ b ∈ st.2, Inn n b
theorem BOk.up {n c c' : Nat} {st : List Int × List (List Int)} (h : BOk n c st) (hc : c ≤ c') : BOk n c' st := ⟨h.left, h.back, fun b hb => Nat.le_trans (h.len b hb) hc, h.inn⟩
theorem stepB_ok {n c i : Nat} (hi : i < n) {st : List Int × List (List Int)} (h : BOk n c st) (k : Int) : BOk n (c + 1) (stepB n i st k) := by
  unfold stepB
  split
  · rename_i g
    have hkl : k.toNat < st.2.length := by rw [h.back]; omega
    have hrow : rowAt st.2 k = st.2[k.toNat] := by unfold rowAt; rw [List.getElem?_eq_getElem hkl]; rfl
    have hm : rowAt st.2 k ∈ st.2 := by rw [hrow]; exact List.getElem_mem hkl
    refine ⟨by simpa using h.left, by simpa using h.back, fun b hb => ?_, fun b hb => ?_⟩
    · rcases List.mem_or_eq_of_mem_set hb with hb | rfl
      · exact Nat.le_succ_of_le (h.len b hb)
      · have := h.len _ hm
        simp only [List.length_append, List.length_singleton]; omega
    · rcases List.mem_or_eq_of_mem_set hb with hb | rfl
      · exact h.inn b hb
      · intro x hx
        rcases List.mem_append.1 hx with hx | hx
        · exact h.inn _ hm x hx
        · simp only [List.mem_singleton] at hx; omega
  · exact h.up (Nat.le_succ _)
theorem rowB_ok {n i : Nat} (hi : i < n) : ∀ (l : List Int) {c : Nat} {st : List Int × List (List Int)}, BOk n c st → BOk n (c + l.length) (rowB n i l st)
  | [], c, st, h => h
  | k :: l, c, st, h => by
    have := rowB_ok hi l (stepB_ok hi h k)
    have e : c + 1 + l.length = c + (k :: l).length := by simp only [List.length_cons]; omega
    rw [e] at this
    exact this
theorem partB_ok {e : List (List Int)} {m : Nat} (hr : ∀ l, l ∈ e → l.length ≤ m) : ∀ j, j ≤ e.length → BOk e.length (j * m) (partB e j).1 ∧ (partB e j).2.length ≤ j ∧ Inn e.length (partB e j).2
  | 0, _ => by
    refine ⟨⟨by simp [partB], by simp [partB], fun b hb => ?_, fun b hb => ?_⟩, by simp [partB], fun i hi => by simp [partB] at hi⟩
    · simp only [partB, List.take_zero, List.foldl_nil] at hb; rw [List.eq_of_mem_replicate hb]; simp
    · simp only [partB, List.take_zero, List.foldl_nil] at hb; rw [List.eq_of_mem_replicate hb]; intro i hi; simp at hi
  | j + 1, hj => by
    obtain ⟨row, hrow⟩ := some_at (l := e) (i := j) (by omega)
    obtain ⟨h1, h2, h3⟩ := partB_ok hr j (by omega)
    rw [partB_next hrow]
    have hm : row.length ≤ m := hr row (List.mem_of_getElem? hrow)
    have e1 : (j + 1) * m = j * m + m := Nat.succ_mul j m
    refine ⟨(rowB_ok (by omega) row h1).up (by omega), ?_, ?_⟩
    · simp only [outB]
      split
      · simp only [List.length_append, List.length_singleton]; omega
      · omega
    · simp only [outB]
      split
      · intro x hx
        rcases List.mem_append.1 hx with hx | hx
        · exact h3 x hx
        · simp only [List.mem_singleton] at hx; omega
      · exact h3

/-- the same while who is free is taken -/
structure DOk (n c : Nat) (st : List Int × List Int) : Prop where
  left : st.1.length = n
  len : st.2.length ≤ c
  inn : Inn n st.2
theorem stepD_ok {n c : Nat} {st : List Int × List Int} (h : DOk n c st) {k : Int} (hk : 0 ≤ k ∧ k < n) : DOk n (c + 1) (stepD st k) := by
  unfold stepD
  refine ⟨by simpa using h.left, ?_, ?_⟩
  · simp only
    split
    · have := h.len; simp only [List.length_append, List.length_singleton]; omega
    · have := h.len; omega
  · simp only
    split
    · intro x hx
      rcases List.mem_append.1 hx with hx | hx
      · exact h.inn x hx
      · simp only [List.mem_singleton] at hx; omega
    · exact h.inn
theorem rowD_ok {n : Nat} : ∀ (l : List Int) {c : Nat} {st : List Int × List Int}, DOk n c st → Inn n l → DOk n (c + l.length) (rowD l st)
  | [], c, st, h, _ => h
  | k :: l, c, st, h, hl => by
    have := rowD_ok l (stepD_ok h (hl k List.mem_cons_self)) fun i hi => hl i (List.mem_cons_of_mem _ hi)
    have e : c + 1 + l.length = c + (k :: l).length := by simp only [List.length_cons]; omega
    rw [e] at this
    exact this

def gE (l : List Int) : List Value → Option (List IV)
  | [.int .i64 k] => if k ∈ l then some [ci 1] else none
  | _ => none
theorem gE_nil : (fun _ => none : List Value → Option (List IV)) = gE [] := by
  funext q; unfold gE; split <;> simp
theorem gE_set (l : List Int) (k : Int) : gset (gE l) [.int .i64 k] (some [ci 1]) = gE (l ++ [k]) := by
  funext q
  simp only [gset]
  split
  · rename_i e; subst e; simp [gE]
  · rename_i hne
    unfold gE
    split
    · rename_i q'
      have : q' ≠ k := by rintro rfl; exact hne rfl
      simp [this]
    · rfl
theorem leftOut_next (ends : List Int) (j : Nat) : leftOut (j + 1) ends = if (j : Int) ∈ ends then leftOut j ends else leftOut j ends ++ [(j : Int)] := by
  unfold leftOut
  rw [List.range_succ, List.map_append, List.filter_append]
  by_cases h : (j : Int) ∈ ends <;> simp [h]
end Go.Rt
end

/- Contracts: who is stuck. -/
section
namespace Go.Rt
open Go.Vm

theorem intsC_set (l : List Int) (i : Nat) (y : Int) : (intsC l).set i [ci y] = intsC (l.set i y) := by simp [intsC, List.map_set]
theorem lAt_get {l : List Int} {i : Nat} {x : Int} (h : l[i]? = some x) : lAt l (i : Int) = x := by simp [lAt, h]
theorem rowAt_get {l : List (List Int)} {i : Nat} {x : List Int} (h : l[i]? = some x) : rowAt l (i : Int) = x := by simp [rowAt, h]

@[simp] theorem mapc_listo {f : AV → AV} {sz : Nat} {xs : List (List (List IV))} {hole : Option Nat} : Ob.mapc f (.listo sz xs hole) = .listo sz xs hole := rfl
theorem leftOut_len (n : Nat) (ends : List Int) : (leftOut n ends).length ≤ n := by
  unfold leftOut
  refine Nat.le_trans (List.length_filter_le _ _) ?_
  simp
set_option maxHeartbeats 4000000 in
theorem Stuck_spec {e : List (List Int)} (he : RowsOk e) {K : Nat} (hK : K ≤ 1000000) {ends : List Int}
    (hd : drain (partB e e.length).1.2 K (partB e e.length).1.1 (partB e e.length).2 [] = some ends) :
    GSpec prog true n_waits_Stuck [.iv (rowsIV e)] [] (.sl 14 1 0 (intsC (leftOut e.length ends)).length) [(14, .list 1 (intsC (leftOut e.length ends)))] := by
  refine gspecN 14 1 (intsC (leftOut e.length ends)) waits_Stuck_is (by simp) (by decide) (intsC_flat _) ?_
  have hn := he.len
  have hAll := partB_ok he.rows e.length (Nat.le_refl _)
  simp -dsimp [waits_Stuck, rowsIV]
  refine ⟨by omega, by omega, by omega, by omega, ?_⟩
  refine loop_idx [2] [56, 67] e.length (fun j => ⟨[(24, vi j), (23, vi e.length), (22, .iv (rowsIV e)), (5, .sl 5 1 0 (partB e j).2.length), (4, .sl 21 1 0 e.length), (3, .sl 18 1 0 e.length), (0, .iv (rowsIV e))],
    [(5, .list 1 (intsC (partB e j).2)), (21, .listo 1 ((partB e j).1.2.map intsC) none), (18, .list 1 (intsC (partB e j).1.1))]⟩) (fun _ => True) ?_ trivial ?_
  · simp [rowsIV, partB, intsC]
  · intro j hj _
    obtain ⟨hB, hF, hFi⟩ := partB_ok he.rows j hj
    by_cases hjl : j < e.length
    · obtain ⟨row, hrow⟩ := some_at hjl
      have hrl := he.rows row (List.mem_of_getElem? hrow)
      have hnext := partB_next hrow
      have hjw := wrap_in (n := (j : Int) + 1) (by omega)
      have hB2 : ∀ q, BOk e.length (j * 1000 + 1000) (rowB e.length j (row.take q) (partB e j).1) := fun q => (rowB_ok hjl (row.take q) hB).up (by simp only [List.length_take]; omega)
      generalize hst : partB e j = st at *
      obtain ⟨LB, F⟩ := st
      simp only at hF hFi hB2 hB
      simp -dsimp [waits_Stuck_l18, rowsIV, hrow]
      refine ⟨fun _ => ?_, fun h => absurd h (by omega)⟩
      refine loop_idx [] [56] row.length (fun q => ⟨[(31, vi q), (30, vi row.length), (29, .iv (.lst 1 (intsC row))), (24, vi j), (23, vi e.length), (22, .iv (rowsIV e)), (6, vi j), (5, .sl 5 1 0 F.length), (4, .sl 21 1 0 e.length), (3, .sl 18 1 0 e.length), (0, .iv (rowsIV e))],
        [(5, .list 1 (intsC F)), (21, .listo 1 ((rowB e.length j (row.take q) LB).2.map intsC) none), (18, .list 1 (intsC (rowB e.length j (row.take q) LB).1))]⟩) (fun _ => True) ?_ trivial ?_
      · simp [rowB, rowsIV]
      · intro q hq _
        have hBq := hB2 q
        by_cases hql : q < row.length
        · have hql2 : ¬row.length ≤ q := by omega
          obtain ⟨k, hk⟩ := some_at hql
          have hqn := rowB_next hk e.length j LB
          have hqw := wrap_in (n := (q : Int) + 1) (by omega)
          generalize hst2 : rowB e.length j (row.take q) LB = st2 at *
          obtain ⟨L, B⟩ := st2
          obtain ⟨b1, b2, b3, b4⟩ := hBq
          simp only at b1 b2 b3 b4
          by_cases hkr : 0 ≤ k ∧ k < e.length
          · obtain ⟨k', rfl⟩ : ∃ k' : Nat, k = k' := ⟨k.toNat, by omega⟩
            obtain ⟨x, hx⟩ : ∃ x, L[j]? = some x := some_at (by omega)
            obtain ⟨b, hb⟩ : ∃ b, B[k']? = some b := some_at (by omega)
            have hbl := b3 b (List.mem_of_getElem? hb)
            have hs : stepB e.length j (L, B) k' = (L.set j (IntKind.i64.wrap (x + 1)), B.set k' (b ++ [(j : Int)])) := by
              unfold stepB; rw [if_pos hkr]; simp only [lAt_get hx, rowAt_get hb, Int.toNat_natCast]
            rw [hs] at hqn
            have hk2 : (k' : Int) < e.length := hkr.2
            simp -dsimp [waits_Stuck_l14, hk, hqw, hqn, rowsIV, hx, hb, hk2, intsC_set, hql2]
            exact fun _ => ⟨hjl, by omega, by omega, hql, by simp [intsC]⟩
          · have hs : stepB e.length j (L, B) k = (L, B) := by unfold stepB; rw [if_neg hkr]
            rw [hs] at hqn
            by_cases hk0 : 0 ≤ k
            · have hk1 : ¬k < e.length := by omega
              simp -dsimp [waits_Stuck_l14, hk, hqw, hqn, rowsIV, hk0, hk1, hql2]
            · simp -dsimp [waits_Stuck_l14, hk, hqw, hqn, rowsIV, hk0, hql2]
        · have hqe : q = row.length := by omega
          subst hqe
          simp only [List.take_length] at hBq ⊢
          have hnext' : partB e (j + 1) = (rowB e.length j row LB, if lAt (rowB e.length j row LB).1 j = 0 then F ++ [(j : Int)] else F) := hnext
          generalize hst2 : rowB e.length j row LB = st2 at *
          obtain ⟨L, B⟩ := st2
          obtain ⟨b1, b2, b3, b4⟩ := hBq
          simp only at b1 b2 b3 b4
          obtain ⟨x, hx⟩ : ∃ x, L[j]? = some x := some_at (by omega)
          simp only [lAt_get hx] at hnext'
          by_cases hx0 : x = 0
          · subst hx0
            simp only [if_true] at hnext'
            simp -dsimp [waits_Stuck_l14, hx, hnext', rowsIV, hjw]
            exact ⟨hjl, by omega, by omega, hjl, by simp [intsC]⟩
          · simp only [hx0, if_false] at hnext'
            simp -dsimp [waits_Stuck_l14, hx, hx0, hnext', rowsIV, hjw]
            exact hjl
    · have hje : j = e.length := by omega
      subst hje
      simp -dsimp [waits_Stuck_l18]
      obtain ⟨⟨b1, b2, b3, b4⟩, hFl, hFi⟩ := hAll
      generalize partB e e.length = stp at *
      obtain ⟨⟨L, B⟩, F⟩ := stp
      simp only at hd b1 b2 b3 b4 hFl hFi
      refine loop_any (fun k s => ∃ (lo : Nat) (fl left free ends1 : List Int), drain B k left free ends1 = some ends ∧ DOk e.length (1000 + (K - k) * 1000000) (left, free) ∧ k ≤ K ∧ fl.drop lo = free ∧ lo + free.length = fl.length ∧
        s = ⟨[(5, .sl 5 1 lo free.length), (4, .iv (rowsIV B)), (3, .sl 18 1 0 e.length), (10, .mpr 70), (0, .iv (rowsIV e))],
          [(5, .list 1 (intsC fl)), (70, .map skF (gE ends1)), (18, .list 1 (intsC left))]⟩) ?_ ?_
      · refine ⟨K, _, LeTo.le (D := [21]) ?_, 0, F, L, F, [], hd, ⟨b1, by simp; omega, hFi⟩, Nat.le_refl _, rfl, by simp, rfl⟩
        simp [rowsIV, gE_nil, intsC, rowsC]
        rw [List.take_of_length_le (by simp; omega)]
        rfl
      · rintro k s ⟨lo, fl, left, free, ends1, g1, g2, g3, g4, g5, rfl⟩
        cases free with
        | nil =>
          have he1 : ends1 = ends := by cases k <;> simpa [drain] using g1
          subst he1
          simp -dsimp [waits_Stuck_l32, rowsIV]
          refine loop_idx [5, 18] [117] e.length (fun j => ⟨[(108, vi j), (107, vi e.length), (14, .sl 14 1 0 (leftOut j ends1).length), (10, .mpr 70), (0, .iv (rowsIV e))],
            [(14, .list 1 (intsC (leftOut j ends1))), (70, .map skF (gE ends1))]⟩) (fun _ => True) ?_ trivial ?_
          · simp [leftOut, intsC, rowsIV]
          · intro j hj _
            by_cases hjl : j < e.length
            · have hjl2 : ¬e.length ≤ j := by omega
              have hjw := wrap_in (n := (j : Int) + 1) (by omega)
              have hlo := leftOut_len j ends1
              have hnx := leftOut_next ends1 j
              by_cases hje : (j : Int) ∈ ends1
              · have hg : gE ends1 [.int .i64 (j : Int)] = some [ci 1] := by simp [gE, hje]
                rw [if_pos hje] at hnx
                simp -dsimp [waits_Stuck_l40, rowsIV, hg, hjl2, hjw, hnx]
              · have hg : gE ends1 [.int .i64 (j : Int)] = none := by simp [gE, hje]
                rw [if_neg hje] at hnx
                simp -dsimp [waits_Stuck_l40, rowsIV, hg, hjl2, hjw, hnx]
                exact fun _ => ⟨by omega, by omega, hjl, by simp [intsC]⟩
            · have hje : j = e.length := by omega
              subst hje
              simp -dsimp [waits_Stuck_l40]
        | cons i r =>
          cases k with
          | zero => simp [drain] at g1
          | succ k =>
            simp only [drain] at g1
            obtain ⟨d1, d2, d3⟩ := g2
            simp only at d1 d2 d3
            have hii := d3 i List.mem_cons_self
            obtain ⟨i', rfl⟩ : ∃ i' : Nat, i = i' := ⟨i.toNat, by omega⟩
            obtain ⟨br, hbr⟩ : ∃ br, B[i']? = some br := some_at (by omega)
            have hbrl := b3 br (List.mem_of_getElem? hbr)
            have hbri := b4 br (List.mem_of_getElem? hbr)
            simp only [rowAt_get hbr] at g1
            have hdl := congrArg List.length g4
            simp only [List.length_drop, List.length_cons] at hdl g5
            have hget : fl[lo]? = some (i' : Int) := by
              have := congrArg (fun l => l[0]?) g4
              simpa using this
            have hdrop : fl.drop (lo + 1) = r := by
              have := congrArg (List.drop 1) g4
              simpa [Nat.add_comm] using this
            have hKk : K - k = (K - (k + 1)) + 1 := by omega
            simp only [List.length_cons] at d2
            have hD0 : DOk e.length (1000 + (K - (k + 1)) * 1000000) (left, r) := ⟨d1, by show r.length ≤ _; omega, fun x hx => d3 x (List.mem_cons_of_mem _ hx)⟩
            have hDq : ∀ q, DOk e.length (1000 + (K - k) * 1000000) (rowD (br.take q) (left, r)) := fun q => by
              have := rowD_ok (br.take q) hD0 fun x hx => hbri x (List.mem_of_mem_take hx)
              refine ⟨this.left, Nat.le_trans this.len ?_, this.inn⟩
              simp only [List.length_take]
              omega
            simp -dsimp [waits_Stuck_l32, rowsIV, hget, hbr, gE_set]
            refine ⟨by omega, ?_⟩
            refine loop_any (fun m s => ∃ (q lo : Nat) (fl : List Int), m = br.length - q ∧ q ≤ br.length ∧ fl.drop lo = (rowD (br.take q) (left, r)).2 ∧ lo + (rowD (br.take q) (left, r)).2.length = fl.length ∧
              s = ⟨[(86, vi q), (85, vi br.length), (84, .iv (.lst 1 (intsC br))), (5, .sl 5 1 lo (rowD (br.take q) (left, r)).2.length), (4, .iv (rowsIV B)), (3, .sl 18 1 0 e.length), (10, .mpr 70), (0, .iv (rowsIV e))],
                [(5, .list 1 (intsC fl)), (70, .map skF (gE (ends1 ++ [(i' : Int)]))), (18, .list 1 (intsC (rowD (br.take q) (left, r)).1))]⟩) ?_ ?_
            · refine ⟨_, _, LeTo.le (D := []) ?_, 0, lo + 1, fl, rfl, Nat.zero_le _, by simpa [rowD] using hdrop, by simp [rowD]; omega, rfl⟩
              simp [rowsIV, rowD]
            · rintro m s ⟨q, lo2, fl2, rfl, hq, f1, f2, rfl⟩
              have hdq := hDq q
              by_cases hql : q < br.length
              · have hql2 : ¬br.length ≤ q := by omega
                obtain ⟨x, hx⟩ := some_at hql
                have hxr := hbri x (List.mem_of_getElem? hx)
                have hqn := rowD_next hx (left, r)
                have hqw := wrap_in (n := (q : Int) + 1) (by omega)
                have hm : br.length - (q + 1) < br.length - q := by omega
                generalize rowD (br.take q) (left, r) = st2 at *
                obtain ⟨L2, F2⟩ := st2
                obtain ⟨c1, c2, c3⟩ := hdq
                simp only at c1 c2 c3 f1 f2
                obtain ⟨x', rfl⟩ : ∃ x' : Nat, x = x' := ⟨x.toNat, by omega⟩
                obtain ⟨y, hy⟩ : ∃ y, L2[x']? = some y := some_at (by omega)
                have hs : stepD (L2, F2) x' = (L2.set x' (IntKind.i64.wrap (y - 1)), if IntKind.i64.wrap (y - 1) = 0 then F2 ++ [(x' : Int)] else F2) := by
                  unfold stepD; simp only [lAt_get hy, Int.toNat_natCast]
                rw [hs] at hqn
                have hx2 : (x' : Int) < e.length := hxr.2
                have hy2 : ∀ v, (L2.set x' v)[x']? = some v := fun v => by rw [List.getElem?_set, if_pos rfl, if_pos (by omega)]
                by_cases hy0 : IntKind.i64.wrap (y - 1) = 0
                · rw [if_pos hy0, hy0] at hqn
                  simp -dsimp [waits_Stuck_l31, rowsIV, hx, hy, hy0, hqw, hql2, intsC_set, hx2, hy2]
                  intro _
                  refine ⟨f2, by omega, by omega, br.length - (q + 1), by omega, _, LeTo.le (D := [103]) ?_, q + 1, rfl, hql, 0, F2 ++ [(x' : Int)], by rw [hqn]; simp, by rw [hqn]; simp, rfl⟩
                  have hdd : List.drop lo2 (intsC fl2) = intsC F2 := by rw [← f1]; simp [intsC, List.map_drop]
                  simp [rowsIV, hqn, hdd]
                  simp [intsC]
                · rw [if_neg hy0] at hqn
                  simp -dsimp [waits_Stuck_l31, rowsIV, hx, hy, hy0, hqw, hql2, intsC_set, hx2, hy2]
                  intro _
                  refine ⟨br.length - (q + 1), by omega, _, LeTo.le (D := []) ?_, q + 1, rfl, hql, lo2, fl2, by rw [hqn]; exact f1, by rw [hqn]; exact f2, rfl⟩
                  simp [rowsIV, hqn]
              · have hqe : q = br.length := by omega
                subst hqe
                simp only [List.take_length] at hdq f1 f2 ⊢
                simp -dsimp [waits_Stuck_l31, rowsIV]
                refine ⟨k, by omega, _, LeTo.le (D := []) ?_, lo2, fl2, _, _, _, g1, hdq, by omega, f1, f2, rfl⟩
                simp [rowsIV]
end Go.Rt
end

/- Contracts: the document's examples. -/
section
namespace Go.Rt
open Go.Vm

theorem sortI_21 : sortI [2, 1] = [1, 2] := by simp [sortI, List.mergeSort, List.MergeSort.Internal.splitInTwo, List.merge]
theorem sortI_1 (x : Int) : sortI [x] = [x] := by simp [sortI]
def exE : List (List Int) := [[2, 1], [0], [0]]
theorem ex_bfs : bfs exE 0 5 [0] [(0, -1)] = some (some 1, [(0, -1), (1, 0), (2, 0)]) := by
  simp [bfs, layerF, exE, rowAt, sortI_21, procL, stepK, fmAt]
theorem ex_chain : chain [(0, -1), (1, 0), (2, 0)] 5 1 = some [1, 0] := by decide
def exS : List (List Int) := [[1], [1], []]
theorem ex_part : partB exS 3 = (([1, 1, 0], [[], [0, 1], []]), [2]) := by decide
theorem ex_drain : drain [[], [0, 1], []] 5 [1, 1, 0] [2] [] = some [2] := by decide
theorem ex_left : leftOut 3 [2] = [0, 1] := by decide
theorem exE_ok : RowsOk exE := ⟨by decide, by decide⟩
theorem exS_ok : RowsOk exS := ⟨by decide, by decide⟩
theorem ex_Cycle (d : Nat) : GSpec prog true n_waits_Cycle [.iv (rowsIV exE), vi 0] [] (.sl d 1 0 2) [(d, .list 1 (intsC [0, 1]))] :=
  (Cycle_some exE_ok (by decide) ex_bfs (out := [1, 0]) ex_chain (by decide)).fresh d rfl fun ρ => rfl
theorem ex_Stuck (d : Nat) : GSpec prog true n_waits_Stuck [.iv (rowsIV exS)] [] (.sl d 1 0 2) [(d, .list 1 (intsC [0, 1]))] := by
  have := Stuck_spec exS_ok (K := 5) (by decide) (ends := [2]) (by
    have : exS.length = 3 := rfl
    rw [this, ex_part]; exact ex_drain)
  have e : leftOut exS.length [2] = [0, 1] := ex_left
  rw [e] at this
  exact this.fresh d rfl fun ρ => rfl
theorem awake_spec : GSpec prog true n_ratlinelaw12_awake [] [] (vb true) [] := by
  refine gspec1 ratlinelaw12_awake_is (by simp) (by decide) rfl ?_
  simp -dsimp [ratlinelaw12_awake]
  refine call_new (ex_Cycle 7) (by decide) (by simp [exE, rowsIV, rowsC, intsIV, intsC]) (by simp) ?_
  simp -dsimp
  refine call_le (le_list (id := 10) (sz := 1) (xs' := rowsC exS) (by simp; rfl) (by simp) (by simp [exS]) (by simp [exS, rowsC]) ?_) ?_
  · intro i j c' hc
    match i, j, hc with
    | 0, 0, hc => exact ⟨_, rfl, fun A w v h => by simp [at2, exS, rowsC, intsIV, intsC] at hc; rw [← hc]; exact h⟩
    | 1, 0, hc => exact ⟨_, rfl, fun A w v h => by simp [at2, exS, rowsC, intsIV, intsC] at hc; rw [← hc]; exact h⟩
    | 2, 0, hc => exact ⟨_, rfl, fun A w v h => by simp [at2, exS, rowsC, intsIV, intsC] at hc; rw [← hc]; exact riv_empty h⟩
    | 0, j + 1, hc => simp [at2, exS, rowsC] at hc
    | 1, j + 1, hc => simp [at2, exS, rowsC] at hc
    | 2, j + 1, hc => simp [at2, exS, rowsC] at hc
    | i + 3, j, hc => simp [at2, exS, rowsC] at hc
  refine call_new (ex_Stuck 11) (by decide) (by simp [exS, rowsIV, rowsC, intsIV, intsC]) (by simp) ?_
  simp -dsimp
  refine call_pure (ref10_Ints_spec [0, 1] [0, 1] (by decide)) (by simp [intsIV, intsC]) (by simp [intsIV]) ?_
  simp -dsimp
  refine call_pure (ref10_Ints_spec [0, 1] [0, 1] (by decide)) (by simp [intsIV, intsC]) (by simp [intsIV]) ?_
  simp -dsimp
  refine call_pure (Victim_spec [0, 1] [5, 5] (by decide)) (by simp [intsIV, intsC]) (by simp [intsIV]) ?_
  have hv : vic [0, 1] [5, 5] = 1 := by decide
  rw [hv]
  simp -dsimp
end Go.Rt
end
