/- Contracts of functions of the program, and what they lean on. Conditions: those of each theorem. -/
import Derived.Test.YtaongilgapocfaaPC
import Derived.Test.YtaongilgapocfaaPA
import Derived.Test.YtaongilgapocfaaSort
import Derived.Test.YtaongilgapocfaaMD
import Derived.Test.YtaongilgapocfaaRows

set_option linter.unusedVariables false
set_option linter.unusedSimpArgs false

/- Contracts: rows that are sorted, with each once, cut; what is found in them. -/
section
namespace Go.Rt
open Go.Vm

theorem sortI_len (l : List Int) : (sortI l).length = l.length := List.length_mergeSort _
theorem sortI_sorted (l : List Int) : (sortI l).Pairwise (· ≤ ·) := by
  have := List.pairwise_mergeSort (le := fun x y : Int => decide (x ≤ y)) (by intro a b c; simp; omega) (by intro a b; simp; omega) l
  simpa [sortI] using this
theorem sortI_mem (l : List Int) (t : Int) : t ∈ sortI l ↔ t ∈ l := List.mem_mergeSort
theorem slices_Sort_spec (xs : List Int) (hl : xs.length < 2 ^ 62) : GSpec prog false n_slices_Sort_int_int [.sl 1000 1 0 xs.length] [(1000, .list 1 (intsC xs))] (.tup []) [(1000, .list 1 (intsC (sortI xs)))] :=
  gspec_rowF sortI sortI_len (by simp [sortI]) (fun blk off cap zs w hH hb hs => Go.Proofs.Try.slices_Sort_int blk off cap zs w hH hb hs) (fun p cap w => Go.Proofs.Any.slices_Sort_int_none Go.Proofs.Try.lays189 p cap w) xs hl
theorem Sort_16 (xs : List Int) (hl : xs.length < 2 ^ 62) : GSpec prog false n_slices_Sort_int_int [.sl 16 1 0 xs.length] [(16, .list 1 (intsC xs))] (.tup []) [(16, .list 1 (intsC (sortI xs)))] :=
  (slices_Sort_spec xs hl).ren (Ren.swaps [(1000, 16)]) rfl
theorem Sort_none : GSpec prog true n_slices_Sort_int_int [.iv (.lst 1 [])] [] (.tup []) [] :=
  gspec_none fun p cap w => Go.Proofs.Any.slices_Sort_int_none Go.Proofs.Try.lays189 p cap w
theorem Compact_none : GSpec prog true n_slices_Compact_int_int [.iv (.lst 1 [])] [] (.iv (.lst 1 [])) [] :=
  gspec_keep0 fun p cap w => Go.Proofs.Try.slices_Compact_int_empty p cap w
/-- each of a sorted row once -/
def onceI (xs : List Int) : List Int := Go.Lib.compact (sortI xs)
theorem onceI_mem {xs : List Int} {x : Int} : x ∈ onceI xs ↔ x ∈ xs := by unfold onceI; rw [compact_mem, sortI_mem]
theorem onceI_lt (xs : List Int) : (onceI xs).Pairwise (· < ·) := compact_lt (sortI_sorted xs)
theorem onceI_le (xs : List Int) : (onceI xs).length ≤ xs.length := by have := compact_le (sortI xs); rw [sortI_len] at this; exact this
theorem Compact_16 (xs : List Int) (hne : xs ≠ []) (hl : xs.length < 2 ^ 62) : ∃ js : List Int, js.length = xs.length - (onceI xs).length ∧
    GSpec prog false n_slices_Compact_int_int [.sl 16 1 0 (sortI xs).length] [(16, .list 1 (intsC (sortI xs)))] (.sl 16 1 0 (onceI xs).length) [(16, .list 1 (intsC (onceI xs ++ js)))] := by
  have hle := compact_le (sortI xs)
  have hne2 : sortI xs ≠ [] := fun h => hne (List.length_eq_zero_iff.1 (by rw [← sortI_len, h]; rfl))
  have h := gspec_cut (P := prog) (f := n_slices_Compact_int_int) (sortI xs) (Go.Lib.compact (sortI xs) ++ List.replicate ((sortI xs).length - (Go.Lib.compact (sortI xs)).length) 0) [] (Go.Lib.compact (sortI xs)).length []
    (by rw [List.length_append, List.length_replicate]; omega) hle hne2
    (fun blk off cap w hH hcap hm => Go.Proofs.Try.slices_Compact_int blk off cap (sortI xs) w hH (by rw [sortI_len]; omega) hcap)
  refine ⟨List.replicate ((sortI xs).length - (Go.Lib.compact (sortI xs)).length) 0, by rw [List.length_replicate, sortI_len]; rfl, ?_⟩
  rw [List.append_nil, List.append_nil] at h
  exact h.ren (Ren.swaps [(1000, 16)]) rfl
theorem Delete_16 (xs ys : List Int) {k : Nat} (hk : k < xs.length) (hl : xs.length < 2 ^ 62) :
    GSpec prog false n_slices_Delete_int_int [.sl 16 1 0 xs.length, vi k, vi ((k : Int) + 1)] [(16, .list 1 (intsC (xs ++ ys)))] (.sl 16 1 0 (xs.eraseIdx k).length) [(16, .list 1 (intsC (xs.eraseIdx k ++ (0 :: ys))))] := by
  have he : xs.take k ++ xs.drop (k + 1) = xs.eraseIdx k := (List.eraseIdx_eq_take_drop_succ xs k).symm
  have hlen : (xs.eraseIdx k).length = xs.length - 1 := List.length_eraseIdx_of_lt hk
  have h := gspec_cut (P := prog) (f := n_slices_Delete_int_int) xs (xs.eraseIdx k ++ [0]) ys (xs.eraseIdx k).length [.int .i64 k, .int .i64 ((k + 1 : Nat) : Int)]
    (by simp only [List.length_append, List.length_singleton, hlen]; omega) (by rw [hlen]; omega) (fun h => by rw [h] at hk; cases hk)
    (fun blk off cap w hH hcap hm => by
      have := Go.Proofs.Try.slices_Delete_int blk off cap k (k + 1) xs w hH hcap hm (by omega) (by omega)
      rw [he, show k + 1 - k = 1 by omega, ← hlen] at this
      exact this)
  rw [List.append_assoc] at h
  exact h.ren (Ren.swaps [(1000, 16)]) rfl
theorem intsC_flat (l : List Int) : ∀ x ∈ intsC l, ∀ y ∈ x, y.flat = true := by
  intro x hx y hy
  obtain ⟨i, _, rfl⟩ := List.mem_map.1 hx
  simp only [List.mem_singleton] at hy
  subst hy; rfl
theorem Clone_nil : GSpec prog true n_slices_Clone_int_int [.iv (.lst 1 [])] [] (.iv (.lst 1 [])) [] := by
  refine gspec1D [2, 5] slices_Clone_int_int_is (by simp) (by decide) rfl ?_
  simp -dsimp [slices_Clone_int_int]
theorem Clone_some {l : List Int} (h : l ≠ []) (hl : l.length < 2 ^ 40) (d : Nat) : GSpec prog true n_slices_Clone_int_int [.iv (intsIV l)] [] (.sl d 1 0 l.length) [(d, .list 1 (intsC l))] := by
  have hs : GSpec prog true n_slices_Clone_int_int [.iv (intsIV l)] [] (.sl 5 1 0 (intsC l).length) [(5, .list 1 (intsC l))] := by
    refine gspecN 5 1 (intsC l) slices_Clone_int_int_is (by simp) (by decide) (intsC_flat l) ?_
    have hne : intsC l ≠ [] := by simpa [intsC] using h
    simp -dsimp [slices_Clone_int_int, intsIV, hne]
    omega
  rw [intsC_len] at hs
  exact hs.fresh d rfl fun ρ => rfl

/-- numbers by numbers, where they are -/
def gD (D : List Int) (f : Int → Int) : List Value → Option (List IV)
  | [.int .i64 k] => if k ∈ D then some [ci (f k)] else none
  | _ => none
theorem gD_set {D : List Int} {f : Int → Int} (k v : Int) : gset (gD D f) [.int .i64 k] (some [ci v]) = gD (k :: D) fun q => if q = k then v else f q := by
  funext q
  simp only [gset]
  split
  · rename_i e; subst e; simp [gD]
  · rename_i hne
    unfold gD
    split
    · rename_i q'
      have : q' ≠ k := by rintro rfl; exact hne rfl
      simp [this]
    · rfl
theorem gD_congr {D D' : List Int} {f f' : Int → Int} (h : ∀ x, x ∈ D ↔ x ∈ D') (hf : ∀ x, x ∈ D → f x = f' x) : gD D f = gD D' f' := by
  funext q
  unfold gD
  split
  · rename_i k
    by_cases hk : k ∈ D
    · rw [if_pos hk, if_pos ((h k).1 hk), hf k hk]
    · rw [if_neg hk, if_neg fun h' => hk ((h k).2 h')]
  · rfl
theorem gD_nil {f : Int → Int} : (fun _ => none : List Value → Option (List IV)) = gD [] f := by
  funext q; unfold gD; split <;> simp
theorem gD_in {D : List Int} {f : Int → Int} {k : Int} (h : k ∈ D) : gD D f [.int .i64 k] = some [ci (f k)] := by simp [gD, h]
theorem gD_out {D : List Int} {f : Int → Int} {k : Int} (h : k ∉ D) : gD D f [.int .i64 k] = none := by simp [gD, h]
theorem ok_Sorted_1 : okFn prog n_cycle_Sorted_1 = true := by kernel_rfl
theorem Sorted_1_spec (D : List Int) (f : Int → Int) (hf : ∀ k, k ∉ D → f k = 0) (n : Int) : GSpec prog true n_cycle_Sorted_1 [vi n, .iv (.pt [.mp skF (gD D f)])] [] (vb (decide (f n = 0))) [] := by
  refine gspec1 cycle_Sorted_1_is (by simp) (by decide) rfl ?_
  by_cases h : n ∈ D
  · have := gD_in (f := f) h
    simp -dsimp [cycle_Sorted_1, this]
    rfl
  · have := gD_out (f := f) h
    have h0 := hf n h
    simp -dsimp [cycle_Sorted_1, this, h0]
theorem IndexFunc_int_spec (l : List Int) (hl : l.length < 2 ^ 62) (D : List Int) (f : Int → Int) (hf : ∀ k, k ∉ D → f k = 0) :
    GSpec prog true n_slices_IndexFunc_int_int [.iv (intsIV l), .fn n_cycle_Sorted_1 [] [.val (.pt [.mp skF (gD D f)])]] [] (vi (ixP (fun n => decide (f n = 0)) l)) [] := by
  refine gspec1 slices_IndexFunc_int_int_is (by simp) (by decide) rfl ?_
  simp -dsimp [slices_IndexFunc_int_int, intsIV]
  refine loop_idx [] [] l.length (fun i => ⟨[(8, vi i), (7, vi l.length), (0, .iv (.lst 1 (intsC l))), (1, .fn n_cycle_Sorted_1 [] [.val (.pt [.mp skF (gD D f)])])], []⟩) (fun i => Upto i fun j => ∀ e, l[j]? = some e → decide (f e = 0) = false) ?_ upto_zero ?_
  · simp -dsimp
  · intro i hi hq
    simp -dsimp [slices_IndexFunc_int_int_l7]
    refine ⟨fun hlt => ?_, fun hge => ?_⟩
    · obtain ⟨e, he⟩ := some_at hlt
      have hw := wrap_in (n := (i : Int) + 1) (by omega)
      simp -dsimp [he]
      refine ⟨ok_Sorted_1, call_purev (Sorted_1_spec D f hf e) (by simp) (by simp) (by simp) ?_⟩
      by_cases h0 : f e = 0
      · have := ixP_at (p := fun n => decide (f n = 0)) he (by simpa using h0) hq
        simp -dsimp [h0, this]
      · simp -dsimp [h0, hw]
        exact ⟨hlt, Upto.succ (fun j hj y hy => by simpa using hq j hj y hy) fun y hy => by rw [he] at hy; cases hy; exact h0⟩
    · rw [ixP_none (upto_all hge hq)]
end Go.Rt
end

/- Contracts: a row in which each edge leads forward. -/
section
namespace Go.Rt
open Go.Vm

def edP (l : List Eg) : List (Int × Int) := l.map fun e => (e.frm, e.to)
/-- how many edges lead from some to a number -/
def cnt (es : List Eg) (L : List Int) (k : Int) : Int := ((es.countP fun e => decide (e.frm ∈ L ∧ e.to = k) : Nat) : Int)
theorem cnt_nil (L : List Int) (k : Int) : cnt [] L k = 0 := rfl
theorem cnt_snoc (es : List Eg) (e : Eg) (L : List Int) (k : Int) : cnt (es ++ [e]) L k = cnt es L k + if e.frm ∈ L ∧ e.to = k then 1 else 0 := by
  unfold cnt
  rw [List.countP_append, List.countP_cons, List.countP_nil]
  simp only [decide_eq_true_eq, Nat.zero_add, Int.natCast_add]
  congr 1
  split <;> rfl
theorem cnt_le (es : List Eg) (L : List Int) (k : Int) : 0 ≤ cnt es L k ∧ cnt es L k ≤ es.length := by
  unfold cnt
  have : (es.countP fun e => decide (e.frm ∈ L ∧ e.to = k)) ≤ es.length := List.countP_le_length
  omega
theorem cnt_zero {es : List Eg} {L : List Int} {k : Int} : cnt es L k = 0 ↔ ∀ e, e ∈ es → e.to = k → e.frm ∉ L := by
  unfold cnt
  rw [Int.natCast_eq_zero, List.countP_eq_zero]
  simp only [decide_eq_true_eq, not_and]
  exact ⟨fun h e he h1 h2 => h e he h2 h1, fun h e he h1 h2 => h e he h2 h1⟩
theorem cnt_free {l : List Eg} {L : List Int} {k : Int} : decide (cnt l L k = 0) = freeE (edP l) L k := by
  rw [Bool.eq_iff_iff, decide_eq_true_eq, cnt_zero, freeE_iff]
  constructor
  · intro h e he h1 h2
    obtain ⟨x, hx, rfl⟩ := List.mem_map.1 he
    exact h x hx h1 h2
  · exact fun h e he h1 h2 => h (e.frm, e.to) (List.mem_map.2 ⟨e, he, rfl⟩) h1 h2
theorem cnt_del {L L' : List Int} {n : Int} (hn : n ∈ L) (h : ∀ x, x ∈ L' ↔ x ∈ L ∧ x ≠ n) (k : Int) (es : List Eg) : cnt es L k = cnt es L' k + cnt es [n] k := by
  induction es with
  | nil => rfl
  | cons e es ih =>
    have h1 : ∀ M, cnt (e :: es) M k = cnt es M k + if e.frm ∈ M ∧ e.to = k then 1 else 0 := fun M => by
      unfold cnt; rw [List.countP_cons]
      simp only [decide_eq_true_eq, Int.natCast_add]
      congr 1
      split <;> rfl
    rw [h1, h1, h1, ih]
    have h2 := h e.frm
    by_cases ha : e.to = k
    · by_cases hb : e.frm = n
      · have h3 : e.frm ∈ L := hb ▸ hn
        have h4 : e.frm ∉ L' := fun hc => (h2.1 hc).2 hb
        simp [ha, h3, h4, hb, hn]
        have h4' : n ∉ L' := hb ▸ h4
        simp [h4']; omega
      · have h4 : e.frm ∈ L' ↔ e.frm ∈ L := by rw [h2]; simp [hb]
        simp [ha, hb, h4]; omega
    · simp [ha]
/-- the numbers that edges from some lead to -/
def toD (es : List Eg) (L : List Int) : List Int := (es.filter fun e => decide (e.frm ∈ L)).map Eg.to
theorem toD_nil (L : List Int) : toD [] L = [] := rfl
theorem toD_snoc (es : List Eg) (e : Eg) (L : List Int) : toD (es ++ [e]) L = toD es L ++ if e.frm ∈ L then [e.to] else [] := by
  unfold toD
  rw [List.filter_append, List.map_append]
  congr 1
  by_cases h : e.frm ∈ L <;> simp [h]
theorem toD_out {es : List Eg} {L : List Int} {k : Int} (h : k ∉ toD es L) : cnt es L k = 0 := cnt_zero.2 fun e he h1 h2 =>
  h (List.mem_map.2 ⟨e, List.mem_filter.2 ⟨he, by simpa using h2⟩, h1⟩)
theorem take_ints (l r : List Int) : (intsC (l ++ r)).take l.length = intsC l := by
  unfold intsC
  rw [List.map_append, List.take_append_of_le_length (by simp), List.take_of_length_le (by simp)]
theorem lt_nodup {l : List Int} (h : l.Pairwise (· < ·)) : l.Nodup := h.imp fun h e => by omega
theorem erase_mem {l : List Int} (h : l.Nodup) {k : Nat} {n : Int} (hk : l[k]? = some n) (x : Int) : x ∈ l.eraseIdx k ↔ x ∈ l ∧ x ≠ n := by
  rw [List.mem_eraseIdx_iff_getElem?]
  constructor
  · rintro ⟨i, hi, hx⟩
    refine ⟨List.mem_of_getElem? hx, ?_⟩
    rintro rfl
    obtain ⟨h1, h2⟩ := List.getElem?_eq_some_iff.1 hk
    obtain ⟨h3, h4⟩ := List.getElem?_eq_some_iff.1 hx
    exact hi ((List.getElem_inj (xs := l) (h₀ := h3) (h₁ := h1) h).1 (by rw [h2, h4]))
  · rintro ⟨hx, hne⟩
    obtain ⟨i, hi⟩ := List.getElem?_of_mem hx
    refine ⟨i, ?_, hi⟩
    rintro rfl
    rw [hk] at hi; cases hi; exact hne rfl
theorem next_first {l : List Eg} {L : List Int} (hL : L.Pairwise (· < ·)) {k : Nat} {n : Int} (hk : L[k]? = some n) (h0 : decide (cnt l L n = 0) = true) (hn : ∀ j y, j < k → L[j]? = some y → decide (cnt l L y = 0) = false) : nextE (edP l) L = some n := by
  refine nextE_of (List.mem_of_getElem? hk) (by rw [← cnt_free]; exact h0) fun m hm hf => ?_
  obtain ⟨j, hj⟩ := List.getElem?_of_mem hm
  by_cases hjk : j < k
  · have := hn j m hjk hj
    rw [cnt_free, hf] at this; cases this
  · obtain ⟨h1, h2⟩ := List.getElem?_eq_some_iff.1 hk
    obtain ⟨h3, h4⟩ := List.getElem?_eq_some_iff.1 hj
    rw [List.pairwise_iff_getElem] at hL
    by_cases e : j = k
    · subst e; rw [hk] at hj; cases hj; omega
    · have := hL k j h1 h3 (by omega); omega

/-- the row that comes first, and whether there is one -/
def srtE (l : List Eg) (row : List Int) : AV := .tup [.iv (intsIV ((topo (edP l) row).getD [])), vb (topo (edP l) row).isSome]

set_option maxHeartbeats 4000000 in
theorem Sorted_nil (l : List Eg) (hl : l.length < 2 ^ 40) : GSpec prog false n_cycle_Sorted [.iv (egsIV l), .iv (intsIV [])] [] (srtE l []) [] := by
  refine gspec2V (by decide) cycle_Sorted_is (by simp) (by decide) ?_
  simp -dsimp [cycle_Sorted]
  refine call_pure Clone_nil (by simp [intsIV, intsC]) (by simp) ?_
  simp -dsimp
  refine call_pure Sort_none (by simp) (by simp) ?_
  simp -dsimp
  refine call_pure Compact_none (by simp) (by simp) ?_
  simp -dsimp
  refine loop_idx [4, 7, 21] [9] l.length (fun i => ⟨[(24, vi i), (23, vi l.length), (22, .iv (egsIV l)), (6, .iv (.lst 1 []))], []⟩) (fun _ => True) ?_ trivial ?_
  · simp [egsIV]
  · intro i hi _
    by_cases hil : i < l.length
    · obtain ⟨e, he⟩ := some_at hil
      have hw := wrap_in (n := (i : Int) + 1) (by omega)
      simp -dsimp [cycle_Sorted_l11, egsIV, he, Eg.cells, setRange]
      refine ⟨fun _ => ?_, fun h => absurd h (by omega)⟩
      refine call_pure (slices_Contains_spec [] (by simp) e.frm) (by simp [intsIV, intsC]) (by simp) ?_
      simp -dsimp [hw]
      exact hil
    · have hie : i = l.length := by omega
      subst hie
      simp -dsimp [cycle_Sorted_l11, egsIV]
      refine loop_any (fun k s => k = 0 ∧ s = ⟨[(10, .sl 10 1 0 0), (6, .iv (.lst 1 []))], [(10, .list 1 [])]⟩) ⟨_, _, LeTo.le (D := []) ?_, rfl, rfl⟩ ?_
      · simp
      · rintro k s ⟨rfl, rfl⟩
        simp -dsimp [cycle_Sorted_l27]
        exact ⟨[10], by simp [EndV2, AV.ivc, topo_nil, intsIV, intsC]⟩
end Go.Rt
end

/- Contracts: a row in which each edge leads forward: of some numbers. -/
section
namespace Go.Rt
open Go.Vm

set_option maxHeartbeats 8000000 in
theorem Sorted_some (l : List Eg) (hl : l.length < 2 ^ 40) {row : List Int} (hne : row ≠ []) (hr : row.length < 2 ^ 40) : GSpec prog false n_cycle_Sorted [.iv (egsIV l), .iv (intsIV row)] [] (srtE l row) [] := by
  refine gspec2V (by decide) cycle_Sorted_is (by simp) (by decide) ?_
  simp -dsimp [cycle_Sorted]
  refine call_new (Clone_some hne hr 16) (by decide) (by simp [intsIV]) (by simp) ?_
  simp -dsimp
  refine call_mut (Sort_16 row (by omega)) rfl (by simp) (by simp) (by simp) (by simp) (by simp) (by simp [list_le, sortI_len]) (by simp) ?_
  simp -dsimp
  obtain ⟨js, hjs, hC⟩ := Compact_16 row hne (by omega)
  have hle0 := onceI_le row
  have hmem0 : ∀ x, x ∈ row ↔ x ∈ onceI row := fun x => onceI_mem.symm
  have hlt0 := onceI_lt row
  refine call_mut hC rfl (by simp) (by simp [sortI_len]) (by simp) (by simp) (by simp) (by simp only [keepL_cons, keepL_nil, and_true]; exact ⟨_, rfl, list_le (by simp [sortI_len, hjs]; omega)⟩) (by simp) ?_
  simp -dsimp
  have htp0 : topo (edP l) row = topo (edP l) (onceI row) := topo_congr hmem0
  generalize onceI row = L0 at *
  have htk := take_ints L0 js
  refine loop_idx [4] [9] l.length (fun i => ⟨[(24, vi i), (23, vi l.length), (22, .iv (egsIV l)), (6, .sl 16 1 0 L0.length), (7, .ptr 7 0), (0, .iv (egsIV l))],
    [(16, .list 1 (intsC (L0 ++ js))), (7, .box [.mpr 21]), (21, .map skF (gD (toD (l.take i) L0) (cnt (l.take i) L0)))]⟩) (fun _ => True) ?_ trivial ?_
  · simp [egsIV, gD_nil (f := cnt [] L0), toD_nil]
  · intro i hi _
    by_cases hil : i < l.length
    · obtain ⟨e, he⟩ := some_at hil
      have hw := wrap_in (n := (i : Int) + 1) (by omega)
      have htn : l.take (i + 1) = l.take i ++ [e] := take_next he
      simp -dsimp [cycle_Sorted_l11, egsIV, he, Eg.cells, setRange]
      refine ⟨fun _ => ?_, fun h => absurd h (by omega)⟩
      refine call_pure (slices_Contains_spec L0 (by omega) e.frm) (by simp [intsIV, htk]) (by simp [intsIV]) ?_
      by_cases hin : e.frm ∈ L0
      · have hcl := cnt_le (l.take i) L0 e.to
        have hlt : (l.take i).length ≤ l.length := by simp; omega
        have hgs := gD_set (D := toD (l.take i) L0) (f := cnt (l.take i) L0) e.to (cnt (l.take i) L0 e.to + 1)
        have hgc : (gD (e.to :: toD (l.take i) L0) fun q => if q = e.to then cnt (l.take i) L0 e.to + 1 else cnt (l.take i) L0 q) = gD (toD (l.take (i + 1)) L0) (cnt (l.take (i + 1)) L0) := by
          rw [htn]
          refine gD_congr (fun x => by rw [toD_snoc, if_pos hin]; simp [or_comm]) fun x _ => ?_
          rw [cnt_snoc]
          by_cases hx : x = e.to
          · subst hx; simp [hin]
          · have : ¬ e.to = x := fun h => hx h.symm
            simp [hx, this]
        have hwc := wrap_in (n := cnt (l.take i) L0 e.to + 1) (by omega)
        by_cases hD : e.to ∈ toD (l.take i) L0
        · have hg := gD_in (f := cnt (l.take i) L0) hD
          simp -dsimp [hin, hg, hwc, hgs, hgc, hw]
          exact hil
        · have hg := gD_out (f := cnt (l.take i) L0) hD
          have h0 := toD_out hD
          rw [h0] at hgs hgc
          rw [hgc] at hgs
          simp only [Int.zero_add] at hgs
          have hw1 : IntKind.i64.wrap 1 = 1 := by decide
          simp -dsimp [hin, hg, hgs, hw, hw1]
          exact hil
      · have hgc : gD (toD (l.take i) L0) (cnt (l.take i) L0) = gD (toD (l.take (i + 1)) L0) (cnt (l.take (i + 1)) L0) := by
          rw [htn]
          refine gD_congr (fun x => by rw [toD_snoc, if_neg hin]; simp) fun x _ => ?_
          rw [cnt_snoc]; simp [hin]
        simp -dsimp [hin, hw, hgc]
        exact hil
    · have hie : i = l.length := by omega
      subst hie
      simp -dsimp [cycle_Sorted_l11, egsIV]
      refine loop_any (fun k s => ∃ (left js out D : List Int), left.length = k ∧ left.Pairwise (· < ·) ∧ topo (edP l) row = (topo (edP l) left).map (out ++ ·) ∧ (∀ x, x ∉ D → cnt l left x = 0) ∧ out.length + left.length ≤ row.length ∧
        s = ⟨[(10, .sl 10 1 0 out.length), (6, .sl 16 1 0 left.length), (7, .ptr 7 0), (0, .iv (egsIV l))], [(10, .list 1 (intsC out)), (16, .list 1 (intsC (left ++ js))), (7, .box [.mpr 21]), (21, .map skF (gD D (cnt l left)))]⟩)
        ⟨_, _, LeTo.le (D := []) ?_, L0, js, [], _, rfl, hlt0, by rw [htp0]; cases topo (edP l) L0 <;> simp, fun x h => toD_out h, by simpa using hle0, rfl⟩ ?_
      · simp [intsC, egsIV]
      · rintro k s ⟨left, js, out, D, rfl, hlt, htp, hD, hlen, rfl⟩
        have htk := take_ints left js
        by_cases hlf : left = []
        · subst hlf
          rw [topo_nil] at htp
          have : out.length ≤ row.length := by simpa using hlen
          simp -dsimp [cycle_Sorted_l27]
          exact ⟨[10], by simp [EndV2, AV.ivc, htp, intsIV, List.take_of_length_le]⟩
        · have hpos := List.length_pos_iff.2 hlf
          simp -dsimp [cycle_Sorted_l27, hlf, hpos]
          refine call_pure (IndexFunc_int_spec left (by omega) D (cnt l left) hD) (by simp [intsIV, htk]) (by simp [intsIV]) ?_
          rcases ixP_cases (fun n => decide (cnt l left n = 0)) left with ⟨q, n, h1, h2, h3, h4⟩ | ⟨h1, h2⟩
          · have hql := (List.getElem?_eq_some_iff.1 h1).1
            have hx : (left ++ js)[q]? = some n := by rw [List.getElem?_append_left hql]; exact h1
            have hw1 := wrap_in (n := (q : Int) + 1) (by omega)
            have hnx := next_first hlt h1 h2 h4
            have hmem := erase_mem (lt_nodup hlt) h1
            have htp2 := topo_next hnx hmem
            have hlen2 : (left.eraseIdx q).length = left.length - 1 := List.length_eraseIdx_of_lt hql
            have hnin := List.mem_of_getElem? h1
            have hdel := fun k => cnt_del hnin hmem k l
            have hge : ¬(q : Int) < 0 := by omega
            simp -dsimp [h3, hx, hge]
            refine ⟨by omega, by omega, ?_⟩
            simp -dsimp [hw1]
            refine ⟨by omega, ?_⟩
            refine call_mut (Delete_16 left js hql (by omega)) rfl (by simp) (by simp) (by simp) (by simp) (by simp) (by simp only [keepL_cons, keepL_nil, and_true]; exact ⟨_, rfl, list_le (by simp [hlen2]; omega)⟩) (by simp) ?_
            simp -dsimp
            refine loop_idx [52] [14] l.length (fun p => ⟨[(61, vi p), (60, vi l.length), (59, .iv (egsIV l)), (12, vi n), (10, .sl 10 1 0 (out.length + 1)), (6, .sl 16 1 0 (left.eraseIdx q).length), (7, .ptr 7 0), (0, .iv (egsIV l))],
              [(10, .list 1 (intsC (out ++ [n]))), (16, .list 1 (intsC (left.eraseIdx q ++ (0 :: js)))), (7, .box [.mpr 21]), (21, .map skF (gD D (fun k => cnt l left k - cnt (l.take p) [n] k)))]⟩) (fun _ => True) ?_ trivial ?_
            · simp [egsIV, intsC, cnt_nil]
            · intro p hp _
              by_cases hpl : p < l.length
              · obtain ⟨e, he⟩ := some_at hpl
                have hw := wrap_in (n := (p : Int) + 1) (by omega)
                have htn : l.take (p + 1) = l.take p ++ [e] := take_next he
                by_cases hen : e.frm = n
                · have hD2 : e.to ∈ D := Classical.byContradiction fun hc => cnt_zero.1 (hD _ hc) e (List.mem_of_getElem? he) rfl (hen ▸ hnin)
                  have c1 := cnt_le l left e.to
                  have c2 := cnt_le (l.take p) [n] e.to
                  have c3 : (l.take p).length ≤ l.length := by simp; omega
                  have hgs := gD_set (D := D) (f := fun k => cnt l left k - cnt (l.take p) [n] k) e.to (cnt l left e.to - cnt (l.take p) [n] e.to - 1)
                  have hgc : (gD (e.to :: D) fun k => if k = e.to then cnt l left e.to - cnt (l.take p) [n] e.to - 1 else cnt l left k - cnt (l.take p) [n] k) = gD D (fun k => cnt l left k - cnt (l.take (p + 1)) [n] k) := by
                    rw [htn]
                    refine gD_congr (fun x => ?_) fun x _ => ?_
                    · rw [List.mem_cons]
                      exact ⟨fun h => h.elim (fun h => h ▸ hD2) id, .inr⟩
                    · rw [cnt_snoc]
                      by_cases hx : x = e.to
                      · subst hx; simp [hen]; omega
                      · have : ¬ e.to = x := fun h => hx h.symm
                        simp [hx, this]
                  rw [hgc] at hgs
                  have hg := gD_in (f := fun k => cnt l left k - cnt (l.take p) [n] k) hD2
                  have hwc := wrap_in (n := cnt l left e.to - cnt (l.take p) [n] e.to - 1) (by omega)
                  simp -dsimp [cycle_Sorted_l26, egsIV, he, Eg.cells, setRange, hen, hg, hwc, hgs, hw]
                  exact fun h => absurd h (by omega)
                · have hgc : gD D (fun k => cnt l left k - cnt (l.take p) [n] k) = gD D (fun k => cnt l left k - cnt (l.take (p + 1)) [n] k) := by
                    rw [htn]
                    refine gD_congr (fun _ => Iff.rfl) fun x _ => ?_
                    rw [cnt_snoc]; simp [hen]
                  simp -dsimp [cycle_Sorted_l26, egsIV, he, Eg.cells, setRange, hen, hw, hgc]
                  exact fun h => absurd h (by omega)
              · have hpe : p = l.length := by omega
                subst hpe
                have hfc : (fun k => cnt l left k - cnt (l.take l.length) [n] k) = cnt l (left.eraseIdx q) := by
                  funext k
                  rw [List.take_length, hdel k]; omega
                rw [hfc]
                simp -dsimp [cycle_Sorted_l26, egsIV]
                refine ⟨left.length - 1, by omega, _, LeTo.le (D := []) ?_, left.eraseIdx q, hlen2, hlt.sublist (List.eraseIdx_sublist _ _), 0 :: js, out ++ [n], ?_, D, ?_, ?_, rfl⟩
                · simp
                · rw [htp, htp2, Option.map_map]
                  congr 1
                  funext x
                  simp
                · intro x hx
                  have h0 := hD x hx
                  rw [hdel x] at h0
                  have a1 := cnt_le l (left.eraseIdx q) x
                  have a2 := cnt_le l [n] x
                  omega
                · rw [List.length_append, List.length_singleton, hlen2]; omega
          · have hnx : nextE (edP l) left = none := by
              rw [nextE_none]
              intro n hn
              rw [← cnt_free]; exact h1 n hn
            have htp2 := topo_stuck hlf hnx
            rw [htp2] at htp
            simp -dsimp [h2]
            exact ⟨[4], by simp [EndV2, AV.ivc, htp, intsIV, intsC]⟩
end Go.Rt
end

/- The laws on numbers that are sorted, and on edges that are turned about: plain. -/
section
namespace Go.Rt
open Go.Vm

def allK : List Int := [1, 2, 3, 4, 5]
/-- the edges among some numbers, as edges of writes -/
def someE (l : List Eg) (row : List Int) : List Eg := (l.filter fun e => decide (e.frm ∈ row ∧ e.to ∈ row)).map fun e => { e with kind := 1 }
theorem someE_adj {l : List Eg} {row : List Int} {a b : Int} : Adj (grOf (someE l row) (ofK allK)) a b ↔ ∃ e, e ∈ l ∧ e.frm = a ∧ e.to = b ∧ a ∈ row ∧ b ∈ row := by
  rw [adj_iff]
  constructor
  · rintro ⟨e, h1, _, h3, h4⟩
    obtain ⟨x, hx, rfl⟩ := List.mem_map.1 h1
    rw [List.mem_filter, decide_eq_true_eq] at hx
    simp only at h3 h4
    subst h3 h4
    exact ⟨x, hx.1, rfl, rfl, hx.2.1, hx.2.2⟩
  · rintro ⟨e, h1, rfl, rfl, h4, h5⟩
    exact ⟨{ e with kind := 1 }, List.mem_map.2 ⟨e, List.mem_filter.2 ⟨h1, by simpa using ⟨h4, h5⟩⟩, rfl⟩, by simp [ofK, allK], rfl, rfl⟩
theorem mem_edP {l : List Eg} {p : Int × Int} : p ∈ edP l ↔ ∃ e, e ∈ l ∧ e.frm = p.1 ∧ e.to = p.2 := by
  unfold edP
  rw [List.mem_map]
  constructor
  · rintro ⟨e, h, rfl⟩; exact ⟨e, h, rfl, rfl⟩
  · rintro ⟨e, h, h1, h2⟩; exact ⟨e, h, by rw [h1, h2]⟩
theorem cyc_exists {l : List Eg} (hk : ∀ e, e ∈ l → ofK allK e = true) : fndE l allK allK ≠ [] ↔ ∃ s, s < (grOf l (ofK allK)).m ∧ (grOf l (ofK allK)).ok s = true ∧ cyc (grOf l (ofK allK)) s ≠ [] := by
  rw [fndE_iff]
  constructor
  · rintro ⟨e, h1, h2, h3⟩
    obtain ⟨i, he⟩ := List.getElem?_of_mem h1
    have hi : i < (grOf l (ofK allK)).m := (List.getElem?_eq_some_iff.1 he).1
    exact ⟨i, hi, by rw [gr_ok he]; exact h2, (cyc_iff hi).2 (by rw [gr_T he, gr_F he]; exact h3)⟩
  · rintro ⟨i, h1, h2, h3⟩
    obtain ⟨e, he⟩ := some_at (l := l) h1
    have := (cyc_iff h1).1 h3
    rw [gr_T he, gr_F he] at this
    exact ⟨e, List.mem_of_getElem? he, hk e (List.mem_of_getElem? he), this⟩
/-- numbers can be sorted just if there is no cycle among them -/
theorem sort_cycle (l : List Eg) (row : List Int) : (topo (edP l) row).isSome = decide (fndE (someE l row) allK allK = []) := by
  have hk : ∀ e, e ∈ someE l row → ofK allK e = true := fun e he => by
    obtain ⟨x, _, rfl⟩ := List.mem_map.1 he
    simp [ofK, allK]
  cases h : topo (edP l) row with
  | none =>
    obtain ⟨K, h1, h2, h3⟩ := topo_none h
    have hc : fndE (someE l row) allK allK ≠ [] := by
      rw [cyc_exists hk]
      refine cyc_back h1 fun n hn => ?_
      obtain ⟨p, hp, h4, h5⟩ := h3 n hn
      obtain ⟨e, he, e1, e2⟩ := mem_edP.1 hp
      exact ⟨p.1, h5, someE_adj.2 ⟨e, he, e1, e2.trans h4, h2 _ h5, h2 n hn⟩⟩
    simp [hc]
  | some s =>
    obtain ⟨h1, h2, h3⟩ := topo_some h
    have hc : fndE (someE l row) allK allK = [] := Classical.byContradiction fun hc => by
      rw [← ne_eq, cyc_exists hk] at hc
      obtain ⟨i, g1, g2, g3⟩ := hc
      refine g3 (cyc_rank (f := fun x => (s.idxOf x : Int)) (fun a b hab => ?_) g1 g2)
      obtain ⟨e, he, rfl, rfl, ha, hb⟩ := someE_adj.1 hab
      have := h3 (e.frm, e.to) (mem_edP.2 ⟨e, he, rfl, rfl⟩) ha hb
      simpa using this
    simp [hc]
/-- what is sorted is respected -/
theorem sort_fwd {l : List Eg} {row s : List Int} (h : topo (edP l) row = some s) : l.all (fwd s) = true := by
  obtain ⟨h1, h2, h3⟩ := topo_some h
  rw [List.all_eq_true]
  intro e he
  unfold fwd
  rw [decide_eq_true_eq]
  by_cases ha : e.frm ∈ s
  · by_cases hb : e.to ∈ s
    · rw [place_idx ha, place_idx hb]
      have := h3 (e.frm, e.to) (mem_edP.2 ⟨e, he, rfl, rfl⟩) ((h1 _).1 ha) ((h1 _).1 hb)
      exact .inr (.inr (by simpa using this))
    · exact .inr (.inl (place_out hb))
  · exact .inl (place_out ha)
theorem sort_once {l : List Eg} {row s : List Int} (h : topo (edP l) row = some s) {x : Int} (hx : x ∈ row) : s.count x = 1 := by
  obtain ⟨h1, h2, _⟩ := topo_some h
  have a1 := List.nodup_iff_count.1 h2 x
  have a2 := List.count_pos_iff.2 ((h1 x).2 hx)
  omega
theorem sort_len {l : List Eg} {row s : List Int} (h : topo (edP l) row = some s) : s.length ≤ row.length := by
  obtain ⟨h1, h2, _⟩ := topo_some h
  exact nodup_le h2 fun x hx => (h1 x).1 hx

/-- an edge that is turned about -/
def Eg.turn (e : Eg) : Eg := { e with frm := e.to, to := e.frm }
def turnE (l : List Eg) : List Eg := l.reverse.map Eg.turn
theorem turn_adj {l : List Eg} {a b : Int} : Adj (grOf (turnE l) (ofK allK)) a b ↔ Adj (grOf l (ofK allK)) b a := by
  rw [adj_iff, adj_iff]
  constructor
  · rintro ⟨e, h1, h2, rfl, rfl⟩
    obtain ⟨x, hx, rfl⟩ := List.mem_map.1 h1
    exact ⟨x, List.mem_reverse.1 hx, h2, rfl, rfl⟩
  · rintro ⟨e, h1, h2, rfl, rfl⟩
    exact ⟨e.turn, List.mem_map.2 ⟨e, List.mem_reverse.2 h1, rfl⟩, h2, rfl, rfl⟩
theorem rc_turn {G G' : Gr} (h : ∀ a b, Adj G a b → Adj G' b a) {a b : Int} (hr : Rc' G a b) : Rc' G' b a := by
  induction hr with
  | refl => exact .refl _
  | step g _ ih => exact ih.trans (.one (h _ _ g))
/-- edges that are turned about have cycles just where these have -/
theorem turn_cycle (l : List Eg) : fndE l allK allK ≠ [] ↔ fndE (turnE l) allK allK ≠ [] := by
  rw [fndE_iff, fndE_iff]
  constructor
  · rintro ⟨e, h1, h2, h3⟩
    exact ⟨e.turn, List.mem_map.2 ⟨e, List.mem_reverse.2 h1, rfl⟩, h2, rc_turn (fun a b hab => turn_adj.2 hab) h3⟩
  · rintro ⟨e, h1, h2, h3⟩
    obtain ⟨x, hx, rfl⟩ := List.mem_map.1 h1
    exact ⟨x, List.mem_reverse.1 hx, h2, rc_turn (fun a b hab => turn_adj.1 hab) h3⟩

/-- an edge with nothing but its ends and its kind -/
def egK (a b k : Int) : Eg := ⟨a, b, k, 0, ⟨false, 0, ⟨#[]⟩⟩, false⟩
def at0 (row : List Int) (i : Nat) : Int := (row[i]?).getD 0
/-- the edges along a row -/
def pthE (row : List Int) (n : Nat) : List Eg := (List.range n).map fun i => egK (at0 row i) (at0 row (i + 1)) 1
theorem pthE_len (row : List Int) (n : Nat) : (pthE row n).length = n := by simp [pthE]
theorem pthE_get {row : List Int} {n i : Nat} (h : i < n) : (pthE row n)[i]? = some (egK (at0 row i) (at0 row (i + 1)) 1) := by simp [pthE, h]
theorem pthE_next (row : List Int) (n : Nat) : pthE row (n + 1) = pthE row n ++ [egK (at0 row n) (at0 row (n + 1)) 1] := by
  unfold pthE; rw [List.range_succ, List.map_append]; rfl
theorem at0_inj {row : List Int} (h : row.Nodup) {i j : Nat} (hi : i < row.length) (hj : j < row.length) (he : at0 row i = at0 row j) : i = j := by
  unfold at0 at he
  rw [List.getElem?_eq_getElem hi, List.getElem?_eq_getElem hj] at he
  exact (List.getElem_inj (xs := row) (h₀ := hi) (h₁ := hj) h).1 (by simpa using he)
theorem at0_idx {row : List Int} (h : row.Nodup) {i : Nat} (hi : i < row.length) : row.idxOf (at0 row i) = i := by
  unfold at0
  rw [List.getElem?_eq_getElem hi, Option.getD_some]
  exact h.idxOf_getElem i hi
theorem path_none {row : List Int} (h : row.Nodup) : fndE (pthE row (row.length - 1)) allK allK = [] := Classical.byContradiction fun hc => by
  rw [← ne_eq, fndE_iff] at hc
  obtain ⟨e, h1, h2, h3⟩ := hc
  have key : ∀ a b, Adj (grOf (pthE row (row.length - 1)) (ofK allK)) a b → (row.idxOf a : Int) < row.idxOf b := fun a b hab => by
    obtain ⟨x, hx, _, rfl, rfl⟩ := adj_iff.1 hab
    obtain ⟨i, hi, rfl⟩ := List.mem_map.1 hx
    rw [List.mem_range] at hi
    show (row.idxOf (at0 row i) : Int) < row.idxOf (at0 row (i + 1))
    rw [at0_idx h (by omega), at0_idx h (by omega)]
    omega
  have h4 := h3.rank (f := fun x => (row.idxOf x : Int)) key
  have h5 := key e.frm e.to (adj_iff.2 ⟨e, h1, h2, rfl, rfl⟩)
  omega
/-- the edges along a row, and the one that closes it -/
def rngE (row : List Int) : List Eg := pthE row (row.length - 1) ++ [egK (at0 row (row.length - 1)) (at0 row 0) 4]
theorem rngE_len {row : List Int} (h : 2 ≤ row.length) : (rngE row).length = row.length := by
  unfold rngE; rw [List.length_append, pthE_len, List.length_singleton]; omega
theorem rngE_get {row : List Int} {i : Nat} (h : i < row.length - 1) : (rngE row)[i]? = some (egK (at0 row i) (at0 row (i + 1)) 1) := by
  unfold rngE; rw [List.getElem?_append_left (by rw [pthE_len]; exact h), pthE_get h]
theorem rngE_last (row : List Int) : (rngE row)[row.length - 1]? = some (egK (at0 row (row.length - 1)) (at0 row 0) 4) := by
  unfold rngE; rw [List.getElem?_append_right (by rw [pthE_len]; omega), pthE_len, Nat.sub_self]; rfl
theorem ring_whole {row : List Int} (h : row.Nodup) (h2 : 2 ≤ row.length) : (fndE (rngE row) [4] allK).length = row.length ∧ VP (fndE (rngE row) [4] allK) := by
  have hreach : ∀ i, i < row.length → Rc' (grOf (rngE row) (ofK allK)) (at0 row 0) (at0 row i) := by
    intro i
    induction i with
    | zero => intro _; exact .refl _
    | succ i ih =>
      intro hi
      refine (ih (by omega)).trans (.one (adj_iff.2 ⟨_, List.mem_of_getElem? (rngE_get (by omega)), by simp [ofK, allK, egK], rfl, rfl⟩))
  have hne : fndE (rngE row) [4] allK ≠ [] := fndE_iff.2 ⟨_, List.mem_of_getElem? (rngE_last row), by simp [ofK, egK], hreach _ (by omega)⟩
  refine ⟨?_, (fndE_is hne).1⟩
  obtain ⟨s, h1, h3, h4, h5, _⟩ := fnd_some (fndE_ne.1 hne)
  have hlen := rngE_len h2
  have h1' : s < row.length := by have : s < (rngE row).length := h1; omega
  have hs : s = row.length - 1 := Classical.byContradiction fun hs => by
    rw [fst_at (rngE_get (row := row) (i := s) (by omega))] at h3
    simp [ofK, egK] at h3
  subst hs
  have hf : fndE (rngE row) [4] allK = pick (rngE row) (cyc (grOf (rngE row) (ofK allK)) (row.length - 1)) := by unfold fndE; rw [h4]
  rw [hf]
  obtain ⟨D, hw, hn⟩ := cyc_is h1 h5
  generalize hp : cyc (grOf (rngE row) (ofK allK)) (row.length - 1) = p at *
  rw [pick_len hw.inn]
  have hin : ∀ k, k ∈ p → k < row.length := fun k hk => by have : k < (rngE row).length := hw.inn k hk; omega
  have hF : ∀ k, k < row.length → (grOf (rngE row) (ofK allK)).F k = at0 row k := fun k hk => by
    by_cases h : k < row.length - 1
    · rw [gr_F (rngE_get h)]; rfl
    · have : k = row.length - 1 := by omega
      subst this; rw [gr_F (rngE_last row)]; rfl
  have hT : ∀ k, k < row.length - 1 → (grOf (rngE row) (ofK allK)).T k = at0 row (k + 1) := fun k hk => by rw [gr_T (rngE_get hk)]; rfl
  have hTl : (grOf (rngE row) (ofK allK)).T (row.length - 1) = at0 row 0 := by rw [gr_T (rngE_last row)]; rfl
  have hmm : p.length ≤ row.length := by
    have := hw.lt
    have := hw.len
    have : (grOf (rngE row) (ofK allK)).m = row.length := hlen
    omega
  have hat : ∀ j, j + 1 < p.length → p[j + 1]? = some j := by
    intro j
    induction j with
    | zero =>
      intro hj
      obtain ⟨x, hx⟩ := some_at hj
      have h0 := hw.head
      rw [List.head?_eq_getElem?] at h0
      have := hw.step 0 _ x h0 hx
      rw [hF x (hin x (List.mem_of_getElem? hx)), hTl] at this
      rw [hx, at0_inj h (hin x (List.mem_of_getElem? hx)) (by omega) this]
    | succ j ih =>
      intro hj
      obtain ⟨x, hx⟩ := some_at hj
      have := hw.step (j + 1) _ x (ih (by omega)) hx
      rw [hF x (hin x (List.mem_of_getElem? hx)), hT j (by omega)] at this
      rw [hx, at0_inj h (hin x (List.mem_of_getElem? hx)) (by omega) this]
  have hpl := hw.len
  rw [hF _ (by omega)] at hn
  unfold nd lastN at hn
  rw [List.getLast?_eq_getElem?, show p.length - 1 = D by omega] at hn
  cases D with
  | zero =>
    have h0 := hw.head
    rw [List.head?_eq_getElem?] at h0
    rw [h0, Option.getD_some, hTl] at hn
    have := at0_inj h (by omega) (by omega) hn
    omega
  | succ D =>
    rw [hat D (by omega), Option.getD_some, hT D (by omega)] at hn
    have := at0_inj h (by omega) (by omega) hn
    omega
end Go.Rt
end

/- Contracts: the document's example. -/
section
namespace Go.Rt
open Go.Vm

theorem Sorted_spec (l : List Eg) (hl : l.length < 2 ^ 40) {row : List Int} (hr : row.length < 2 ^ 40) : GSpec prog false n_cycle_Sorted [.iv (egsIV l), .iv (intsIV row)] [] (srtE l row) [] := by
  by_cases h : row = []
  · subst h; exact Sorted_nil l hl
  · exact Sorted_some l hl h hr
def exL : List Eg := [egK 1 2 1, egK 2 1 4, egK 2 3 1]
theorem ex_c : fndE exL allK allK = exL.take 2 := by decide
theorem ex_d : fndE exL [1] [1] = [] := by decide
theorem ex_s : topo (edP [egK 3 1 0]) [1, 2, 3] = some [2, 3, 1] := by decide
theorem ex_v : VP (exL.take 2) := by
  refine ⟨by decide, fun i a b ha hb => ?_⟩
  have hi := (List.getElem?_eq_some_iff.1 ha).1
  have hi : i < 2 := hi
  obtain rfl | rfl : i = 0 ∨ i = 1 := by omega
  · cases ha; cases hb; decide
  · cases ha; cases hb; decide
theorem ex_r : (exL.drop 2).all (fwd [2, 3, 1]) = true := by decide
theorem ex_f1 : GSpec prog false n_cycle_Find [.iv (egsIV exL), .iv (intsIV [1, 2, 3, 4, 5]), .iv (intsIV [1, 2, 3, 4, 5])] [] (.iv (egsIV (exL.take 2))) [] := by
  have := Find_spec (l := exL) (fs := [1, 2, 3, 4, 5]) (rs := [1, 2, 3, 4, 5]) (by decide) (by decide) (by decide)
  rwa [show fndE exL [1, 2, 3, 4, 5] [1, 2, 3, 4, 5] = exL.take 2 from ex_c] at this
theorem ex_f2 : GSpec prog false n_cycle_Find [.iv (egsIV exL), .iv (intsIV [1]), .iv (intsIV [1])] [] (.iv (egsIV [])) [] := by
  have := Find_spec (l := exL) (fs := [1]) (rs := [1]) (by decide) (by decide) (by decide)
  rwa [ex_d] at this
theorem ex_st : GSpec prog false n_cycle_Sorted [.iv (egsIV [egK 3 1 0]), .iv (intsIV [1, 2, 3])] [] (.tup [.iv (intsIV [2, 3, 1]), vb true]) [] := by
  have := Sorted_spec [egK 3 1 0] (by decide) (row := [1, 2, 3]) (by decide)
  unfold srtE at this
  rwa [ex_s] at this
theorem ex_vs : GSpec prog true n_cycle_Valid [.iv (egsIV (exL.take 2))] [] (vb true) [] := by
  have := Valid_spec (exL.take 2) (by decide)
  simp only [ex_v, decide_true] at this
  exact this
theorem ex_rs : GSpec prog false n_cycle_Respects [.iv (egsIV (exL.drop 2)), .iv (intsIV [2, 3, 1])] [] (vb true) [] := by
  have := Respects_spec (exL.drop 2) [2, 3, 1] (by decide) (by decide)
  rwa [ex_r] at this
set_option maxHeartbeats 4000000 in
theorem awake_spec : GSpec prog true n_ratlinelaw21_awake [] [] (vb true) [] := by
  refine gspec1 ratlinelaw21_awake_is (by simp) (by decide) rfl ?_
  have hL : egsIV exL = .lst 8 [[ci 1, ci 2, ci 1, ci 0, cb false, ci 0, .v (.string ⟨#[]⟩), cb false], [ci 2, ci 1, ci 4, ci 0, cb false, ci 0, .v (.string ⟨#[]⟩), cb false], [ci 2, ci 3, ci 1, ci 0, cb false, ci 0, .v (.string ⟨#[]⟩), cb false]] := rfl
  have hL1 : egsIV (exL.take 2) = .lst 8 [[ci 1, ci 2, ci 1, ci 0, cb false, ci 0, .v (.string ⟨#[]⟩), cb false], [ci 2, ci 1, ci 4, ci 0, cb false, ci 0, .v (.string ⟨#[]⟩), cb false]] := rfl
  have hL2 : egsIV (exL.drop 2) = .lst 8 [[ci 2, ci 3, ci 1, ci 0, cb false, ci 0, .v (.string ⟨#[]⟩), cb false]] := rfl
  have hL3 : egsIV [egK 3 1 0] = .lst 8 [[ci 3, ci 1, ci 0, ci 0, cb false, ci 0, .v (.string ⟨#[]⟩), cb false]] := rfl
  have hI (l : List Int) : intsIV l = .lst 1 (l.map fun i => [ci i]) := rfl
  simp -dsimp [ratlinelaw21_awake]
  refine call_le (le_drops [9] (by decide) _) ?_
  refine call_newH all_spec rfl (by simp) (by simp) (by simp) (by simp) ?_
  simp -dsimp
  refine call_newH all_spec rfl (by simp) (by simp) (by simp) (by simp) ?_
  simp -dsimp
  refine call_newH ex_f1 rfl (by simp [hL]) (by simp) (by simp) (by simp) ?_
  simp -dsimp
  refine call_newH writes_spec rfl (by simp) (by simp) (by simp) (by simp) ?_
  simp -dsimp
  refine call_newH writes_spec rfl (by simp) (by simp) (by simp) (by simp) ?_
  simp -dsimp
  refine call_newH ex_f2 rfl (by simp [hL]) (by simp) (by simp) (by simp) ?_
  simp -dsimp
  refine call_le (le_drops [20, 21] (by decide) _) ?_
  refine call_newH ex_st rfl (by simp [hL3, hI]) (by simp) (by simp) (by simp) ?_
  simp -dsimp
  refine call_pure (ref20_Same_spec (exL.take 2) (exL.take 2) (by decide)) (by simp [hL1]) (by simp) ?_
  simp -dsimp [egsIV, egsC]
  refine call_pure ex_vs (by simp [egsIV, egsC]) (by simp) ?_
  simp -dsimp
  refine call_pure (ref10_Ints_spec [2, 3, 1] [2, 3, 1] (by decide)) (by simp [hI]) (by simp) ?_
  simp -dsimp
  refine call_newH ex_rs rfl (by simp [hL2]) (by simp) (by simp) (by simp) ?_
  simp -dsimp
  trace_state
end Go.Rt
end

/- Contracts: the reference's row. -/
section
namespace Go.Rt
open Go.Vm

/-- each once, in the order in which they come -/
def uq (l : List Int) : List Int := l.foldl (fun a x => if x ∈ a then a else a ++ [x]) []
theorem uq_snoc (l : List Int) (x : Int) : uq (l ++ [x]) = if x ∈ uq l then uq l else uq l ++ [x] := by unfold uq; rw [List.foldl_append]; rfl
theorem uq_nil : uq [] = [] := rfl
theorem uq_all (l : List Int) : (∀ x, x ∈ uq l ↔ x ∈ l) ∧ (uq l).Nodup ∧ (uq l).length ≤ l.length := by
  suffices h : ∀ (r : List Int), (∀ x, x ∈ uq r.reverse ↔ x ∈ r) ∧ (uq r.reverse).Nodup ∧ (uq r.reverse).length ≤ r.length by
    have := h l.reverse
    simpa using this
  intro r
  induction r with
  | nil => simp [uq_nil]
  | cons a r ih =>
    obtain ⟨h1, h2, h3⟩ := ih
    rw [List.reverse_cons, uq_snoc]
    split
    · rename_i h
      refine ⟨fun x => ?_, h2, by simp only [List.length_cons]; omega⟩
      rw [h1, List.mem_cons]
      constructor
      · exact fun hx => .inr hx
      · rintro (rfl | hx)
        · exact (h1 _).1 h
        · exact hx
    · rename_i h
      refine ⟨fun x => ?_, ?_, by simp only [List.length_append, List.length_cons, List.length_nil]; omega⟩
      · rw [List.mem_append, h1, List.mem_singleton, List.mem_cons]; exact Or.comm
      · rw [List.nodup_append]
        refine ⟨h2, by simp, fun x hx y hy => ?_⟩
        rw [List.mem_singleton] at hy; subst hy
        rintro rfl; exact h hx
def at1 (row : List Int) (i : Nat) : Int := (row[i]?).getD 0
theorem at1_of {row : List Int} {i : Nat} {x : Int} (h : row[i]? = some x) : at1 row i = x := by simp [at1, h]
/-- the place of the least one that is free -/
def bestI (E : List (Int × Int)) (left : List Int) : Nat → Int
  | 0 => -1
  | i + 1 => if freeE E left (at1 left i) = true ∧ (bestI E left i < 0 ∨ at1 left i < at1 left (bestI E left i).toNat) then i else bestI E left i
theorem bestI_is (E : List (Int × Int)) (left : List Int) : ∀ i : Nat, (bestI E left i = -1 ∧ ∀ j, j < i → freeE E left (at1 left j) = false) ∨
    ∃ b : Nat, b < i ∧ bestI E left i = b ∧ freeE E left (at1 left b) = true ∧ ∀ j, j < i → freeE E left (at1 left j) = true → at1 left b ≤ at1 left j
  | 0 => .inl ⟨rfl, fun j h => by omega⟩
  | i + 1 => by
    rcases bestI_is E left i with ⟨h1, h2⟩ | ⟨b, h1, h2, h3, h4⟩
    · cases hf : freeE E left (at1 left i) with
      | false =>
        refine .inl ⟨by simp [bestI, hf, h1], fun j hj => ?_⟩
        by_cases e : j = i
        · subst e; exact hf
        · exact h2 j (by omega)
      | true =>
        refine .inr ⟨i, by omega, by simp [bestI, hf, h1], hf, fun j hj hj2 => ?_⟩
        by_cases e : j = i
        · subst e; omega
        · rw [h2 j (by omega)] at hj2; cases hj2
    · cases hf : freeE E left (at1 left i) with
      | false =>
        refine .inr ⟨b, by omega, by simp [bestI, hf, h2], h3, fun j hj hj2 => ?_⟩
        by_cases e : j = i
        · subst e; rw [hf] at hj2; cases hj2
        · exact h4 j (by omega) hj2
      | true =>
        by_cases hlt : at1 left i < at1 left b
        · refine .inr ⟨i, by omega, by simp [bestI, hf, h2, hlt], hf, fun j hj hj2 => ?_⟩
          by_cases e : j = i
          · subst e; omega
          · have := h4 j (by omega) hj2; omega
        · refine .inr ⟨b, by omega, ?_, h3, fun j hj hj2 => ?_⟩
          · have : ¬((b : Int) < 0) := by omega
            simp [bestI, hf, h2, hlt, this]
          · by_cases e : j = i
            · subst e; omega
            · exact h4 j (by omega) hj2
theorem best_none {E : List (Int × Int)} {left : List Int} (h : ∀ j, j < left.length → freeE E left (at1 left j) = false) : nextE E left = none := by
  rw [nextE_none]
  intro n hn
  obtain ⟨j, hj⟩ := List.getElem?_of_mem hn
  rw [← at1_of hj]
  exact h j (List.getElem?_eq_some_iff.1 hj).1
theorem best_next {E : List (Int × Int)} {left : List Int} {b : Nat} {n : Int} (hb : left[b]? = some n) (h3 : freeE E left (at1 left b) = true) (h4 : ∀ j, j < left.length → freeE E left (at1 left j) = true → at1 left b ≤ at1 left j) : nextE E left = some n := by
  rw [at1_of hb] at h3 h4
  refine nextE_of (List.mem_of_getElem? hb) h3 fun m hm hf => ?_
  obtain ⟨j, hj⟩ := List.getElem?_of_mem hm
  have := h4 j (List.getElem?_eq_some_iff.1 hj).1
  rw [at1_of hj] at this
  exact this hf
theorem freeE_snoc (l : List Eg) (e : Eg) (left : List Int) (n : Int) : freeE (edP (l ++ [e])) left n = (freeE (edP l) left n && !decide (e.to = n ∧ e.frm ∈ left)) := by
  unfold freeE edP
  rw [List.map_append, List.any_append]
  simp
theorem freeE_nil (left : List Int) (n : Int) : freeE (edP []) left n = true := rfl

set_option maxHeartbeats 40000000 in
theorem RSorted_spec (l : List Eg) (hl : l.length < 2 ^ 40) {row : List Int} (hr : row.length < 2 ^ 40) : GSpec prog false n_ratlineref21_Sorted [.iv (egsIV l), .iv (intsIV row)] [] (srtE l row) [] := by
  refine gspec2V (by decide) ratlineref21_Sorted_is (by simp) (by decide) ?_
  simp -dsimp [ratlineref21_Sorted]
  refine loop_idx [4] [32] row.length (fun i => ⟨[(7, vi i), (6, .sl 6 1 0 (uq (row.take i)).length), (0, .iv (egsIV l)), (1, .iv (intsIV row))], [(6, .list 1 (intsC (uq (row.take i))))]⟩) (fun _ => True) ?_ trivial ?_
  · simp [uq_nil, intsC]
  · intro i hi _
    by_cases hil : i < row.length
    · obtain ⟨x, hx⟩ := some_at hil
      have hw := wrap_in (n := (i : Int) + 1) (by omega)
      have htn : row.take (i + 1) = row.take i ++ [x] := take_next hx
      obtain ⟨u1, u2, u3⟩ := uq_all (row.take i)
      have u3' : (row.take i).length ≤ row.length := by simp; omega
      rw [htn, uq_snoc]
      generalize uq (row.take i) = u at *
      have htk : List.take u.length (intsC u) = intsC u := List.take_of_length_le (by simp)
      simp -dsimp [ratlineref21_Sorted_l7, intsIV, hx]
      refine ⟨fun _ => ?_, fun h => absurd h (by omega)⟩
      refine call_pure (place_spec u (by omega) x) (by simp [intsIV, htk]) (by simp [intsIV]) ?_
      by_cases hin : x ∈ u
      · have hp : ¬place u x < 0 := by have := (place_nonneg (l := u) (x := x)).2 hin; omega
        simp -dsimp [hp, hin, hw]
        exact hil
      · have hp : place u x < 0 := by
          have := (place_nonneg (l := u) (x := x)).1
          by_cases h : 0 ≤ place u x
          · exact absurd (this h) hin
          · omega
        simp -dsimp [hp, hin, hw, hx]
        exact ⟨by omega, by omega, hil, by simp [intsC]⟩
    · have hie : i = row.length := by omega
      subst hie
      obtain ⟨u1, u2, u3⟩ := uq_all row
      have htp0 : topo (edP l) row = topo (edP l) (uq row) := topo_congr fun x => (u1 x).symm
      rw [List.take_length]
      generalize uq row = L0 at *
      simp -dsimp [ratlineref21_Sorted_l7, intsIV]
      refine loop_any (fun k s => ∃ (left out : List Int), left.length = k ∧ left.Nodup ∧ topo (edP l) row = (topo (edP l) left).map (out ++ ·) ∧ out.length + left.length ≤ row.length ∧
        s = ⟨[(8, .sl 8 1 0 out.length), (6, .iv (intsIV left)), (0, .iv (egsIV l))], [(8, .list 1 (intsC out))]⟩)
        ⟨_, _, LeTo.le (D := [6]) ?_, L0, [], rfl, u2, by rw [htp0]; cases topo (edP l) L0 <;> simp, by simpa using u3, rfl⟩ ?_
      · simp [intsC, egsIV, intsIV]
        exact List.take_of_length_le (by simp)
      · rintro k s ⟨left, out, rfl, hnd, htp, hlen, rfl⟩
        by_cases hlf : left = []
        · subst hlf
          rw [topo_nil] at htp
          have : out.length ≤ row.length := by simpa using hlen
          simp -dsimp [ratlineref21_Sorted_l31, intsIV, intsC]
          exact ⟨[8], by simp [EndV2, AV.ivc, htp, intsIV, List.take_of_length_le, intsC]⟩
        · have hpos := List.length_pos_iff.2 hlf
          simp -dsimp [ratlineref21_Sorted_l31, hlf, hpos, intsIV]
          refine loop_idx [] [] left.length (fun i => ⟨[(10, vi i), (9, vi (bestI (edP l) left i)), (8, .sl 8 1 0 out.length), (6, .iv (intsIV left)), (0, .iv (egsIV l))], [(8, .list 1 (intsC out))]⟩) (fun _ => True) ?_ trivial ?_
          · simp [bestI, egsIV, intsIV]
          · intro i hi _
            by_cases hil : i < left.length
            · obtain ⟨n, hn⟩ := some_at hil
              simp -dsimp [ratlineref21_Sorted_l23, intsIV]
              refine ⟨fun _ => ?_, fun h => absurd h (by omega)⟩
              refine loop_idx [] [] l.length (fun k => ⟨[(12, vi k), (11, vb (freeE (edP (l.take k)) left n)), (10, vi i), (9, vi (bestI (edP l) left i)), (8, .sl 8 1 0 out.length), (6, .iv (intsIV left)), (0, .iv (egsIV l))], [(8, .list 1 (intsC out))]⟩) (fun _ => True) ?_ trivial ?_
              · simp [freeE_nil, egsIV, intsIV]
              · intro k hk _
                by_cases hkl : k < l.length
                · obtain ⟨e, he⟩ := some_at hkl
                  have hw := wrap_in (n := (k : Int) + 1) (by omega)
                  have htn : l.take (k + 1) = l.take k ++ [e] := take_next he
                  rw [htn, freeE_snoc]
                  by_cases h1 : e.to = n
                  · simp -dsimp [ratlineref21_Sorted_l19, egsIV, intsIV, he, Eg.cells, setRange, hn, h1]
                    refine ⟨fun _ => ?_, fun h => absurd h (by omega)⟩
                    refine call_pure (place_spec left (by omega) e.frm) (by simp [intsIV]) (by simp [intsIV]) ?_
                    by_cases hin : e.frm ∈ left
                    · have hp := (place_nonneg (l := left) (x := e.frm)).2 hin
                      simp -dsimp [hp, hin, hw]
                      exact hkl
                    · have hp : ¬0 ≤ place left e.frm := fun h => hin (place_nonneg.1 h)
                      simp -dsimp [hp, hin, hw]
                      exact hkl
                  · simp -dsimp [ratlineref21_Sorted_l19, egsIV, intsIV, he, Eg.cells, setRange, hn, h1, hw]
                    exact fun h => absurd h (by omega)
                · have hke : k = l.length := by omega
                  subst hke
                  rw [List.take_length]
                  have hw := wrap_in (n := (i : Int) + 1) (by omega)
                  have hbn : bestI (edP l) left (i + 1) = if freeE (edP l) left (at1 left i) = true ∧ (bestI (edP l) left i < 0 ∨ at1 left i < at1 left (bestI (edP l) left i).toNat) then (i : Int) else bestI (edP l) left i := rfl
                  rw [at1_of hn] at hbn
                  cases hf : freeE (edP l) left n with
                  | false =>
                    rw [hf] at hbn
                    simp only [Bool.false_eq_true, false_and, if_false] at hbn
                    simp -dsimp [ratlineref21_Sorted_l19, egsIV, intsIV, hw, hbn]
                    exact hil
                  | true =>
                    rcases bestI_is (edP l) left i with ⟨g1, g2⟩ | ⟨b, g1, g2, g3, g4⟩
                    · have hbn2 : bestI (edP l) left (i + 1) = i := by rw [hbn, hf, g1]; simp
                      simp -dsimp [ratlineref21_Sorted_l19, egsIV, intsIV, hw, g1, hbn2]
                      exact hil
                    · obtain ⟨m, hm⟩ : ∃ m, left[b]? = some m := some_at (by omega)
                      have hge : ¬(b : Int) < 0 := by omega
                      rw [g2, Int.toNat_natCast, at1_of hm] at hbn
                      by_cases hlt : n < m
                      · have hbn2 : bestI (edP l) left (i + 1) = i := by rw [hbn, hf]; simp [hlt]
                        simp -dsimp [ratlineref21_Sorted_l19, egsIV, intsIV, hw, g2, hge, hn, hm, hlt, hbn2]
                        exact hil
                      · have hbn2 : bestI (edP l) left (i + 1) = b := by rw [hbn, hf]; simp [hlt, hge]
                        simp -dsimp [ratlineref21_Sorted_l19, egsIV, intsIV, hw, g2, hge, hn, hm, hlt, hbn2]
                        exact hil
            · have hie : i = left.length := by omega
              subst hie
              have hb := bestI_is (edP l) left left.length
              simp -dsimp [ratlineref21_Sorted_l23, intsIV]
              rcases hb with ⟨h1, h2⟩ | ⟨b, h1, h2, h3, h4⟩
              · have htp2 := topo_stuck hlf (best_none h2)
                rw [htp2] at htp
                simp -dsimp [h1]
                exact ⟨[4], by simp [EndV2, AV.ivc, htp, intsIV, intsC]⟩
              · have hge : ¬(b : Int) < 0 := by omega
                obtain ⟨n, hn⟩ := some_at h1
                have htp2 := topo_next (best_next hn h3 h4) (erase_mem hnd hn)
                have hlen2 : (left.eraseIdx b).length = left.length - 1 := List.length_eraseIdx_of_lt h1
                have hw1 := wrap_in (n := (b : Int) + 1) (by omega)
                have hcat : List.take b (intsC left) ++ List.take (left.length - (b + 1)) (List.drop (b + 1) (intsC left)) = intsC (left.eraseIdx b) := by
                  rw [List.take_of_length_le (l := List.drop (b + 1) (intsC left)) (by simp)]
                  unfold intsC
                  rw [← List.map_take, ← List.map_drop, ← List.map_append, List.eraseIdx_eq_take_drop_succ]
                have hn1 : (left.length : Int) - ((b : Int) + 1) = ((left.length - (b + 1) : Nat) : Int) := by omega
                have htl : List.take (b + (left.length - (b + 1))) (intsC (left.eraseIdx b)) = intsC (left.eraseIdx b) := List.take_of_length_le (by simp [hlen2]; omega)
                have hn2 : min b left.length = b := by omega
                simp -dsimp [h2, hge, hn, hw1, hn1, hn2]
                refine ⟨by omega, by omega, by omega, by omega, by omega, by omega, by omega, by omega, by omega, left.length - 1, by omega, _, LeTo.le (D := [13, 93]) ?_, left.eraseIdx b, hlen2, hnd.sublist (List.eraseIdx_sublist _ _), out ++ [n], ?_, ?_, rfl⟩
                · have hsn : intsC out ++ [[ci n]] = intsC (out ++ [n]) := by simp [intsC]
                  simp [hcat, htl, hsn, egsIV, intsIV]
                · rw [htp, htp2, Option.map_map]
                  congr 1
                  funext x
                  simp
                · rw [List.length_append, List.length_singleton, hlen2]; omega
end Go.Rt
end

/- CycleFinds, CycleRows as contracts. -/
section
namespace Go.Rt
open Go.Vm

theorem fndE_len {l : List Eg} {fs rs : List Int} : (fndE l fs rs).length ≤ l.length := by
  by_cases h : fndE l fs rs = []
  · rw [h]; simp
  · obtain ⟨s, h1, h2, h3, h4, _⟩ := fnd_some (fndE_ne.1 h)
    have hf : fndE l fs rs = pick l (cyc (grOf l (ofK rs)) s) := by unfold fndE; rw [h3]
    obtain ⟨D, hw, _⟩ := cyc_is h1 h4
    rw [hf, pick_len hw.inn, hw.len]
    exact hw.lt
set_option maxHeartbeats 40000000 in
theorem CycleFinds_spec (l : List Eg) (hl0 : l.length < 2 ^ 63) (w : Int) : GSpec prog true n_ratlinelaw21_CycleFinds [.iv (egsIV l), vi w] [] (vb true) [] := by
  refine gspec1 ratlinelaw21_CycleFinds_is (by simp) (by decide) rfl ?_
  simp -dsimp [ratlinelaw21_CycleFinds]
  refine call_pure awake_spec (by simp) (by simp) ?_
  by_cases hl : 12 < l.length
  · have hl' : (12 : Int) < l.length := by omega
    simp -dsimp [egsIV, hl']
  · have hl' : ¬(12 : Int) < l.length := by omega
    simp -dsimp [egsIV, hl']
    refine loop_idx [] [] l.length (fun i => ⟨[(9, vi i), (6, .ptr 6 0), (7, .ptr 7 0), (8, .ptr 8 0), (0, .iv (egsIV l)), (1, vi w)], [(6, .box ((knC 62).map .iv)), (7, .box ((knC 2).map .iv)), (8, .box ((knC 16).map .iv))]⟩) (fun _ => True) ?_ trivial ?_
    · simp [egsIV, knC]
    · intro i hi _
      by_cases hil : i < l.length
      · obtain ⟨e, he⟩ := some_at hil
        have hw := wrap_in (n := (i : Int) + 1) (by omega)
        by_cases h1 : e.kind < 1
        · simp -dsimp [ratlinelaw21_CycleFinds_l14, egsIV, he, Eg.cells, setRange, h1]
          exact fun h => absurd h (by omega)
        · by_cases h2 : 5 < e.kind
          · simp -dsimp [ratlinelaw21_CycleFinds_l14, egsIV, he, Eg.cells, setRange, h1, h2]
            exact fun h => absurd h (by omega)
          · simp -dsimp [ratlinelaw21_CycleFinds_l14, egsIV, he, Eg.cells, setRange, h1, h2, hw]
            exact fun h => absurd h (by omega)
      · have hie : i = l.length := by omega
        subst hie
        have hF (fs rs : List Int) (hf : fs.length < 2 ^ 62) (hr : rs.length < 2 ^ 62) := Find_spec (l := l) (by omega) hf hr
        have hR {bf br : Int} {fs rs : List Int} (hf : Bk bf fs) (hr : Bk br rs) := RFind_spec (l := l) hf hr (by omega)
        have hS (fs rs : List Int) := ref20_Same_spec (fndE l fs rs) (fndE l fs rs) (by have := fndE_len (l := l) (fs := fs) (rs := rs); omega)
        simp -dsimp [ratlinelaw21_CycleFinds_l14, egsIV]
        generalize bits2 .and .i64 w 3 = v
        by_cases v0 : v = 0
        · simp -dsimp [v0, knC]
          repeat' first
            | (refine And.intro ?_ ?_)
            | (refine call_newH all_spec rfl (by simp) (by simp) (by simp) (by simp) ?_; simp -dsimp [knC])
            | (refine call_newH (hF [1, 2, 3, 4, 5] [1, 2, 3, 4, 5] (by decide) (by decide)) rfl (by simp [egsIV]) (by simp) (by simp) (by simp) ?_; simp -dsimp [knC])
            | (refine call_newH (hR .any .any) rfl (by simp [egsIV, knC]) (by simp) (by simp) (by simp) ?_; simp -dsimp [knC])
            | (refine call_pure (hS [1, 2, 3, 4, 5] [1, 2, 3, 4, 5]) (by simp) (by simp) ?_; simp -dsimp [knC])
        · by_cases v1 : v = 1
          · simp -dsimp [v1, knC]
            repeat' first
              | (refine And.intro ?_ ?_)
              | (refine call_newH writes_spec rfl (by simp) (by simp) (by simp) (by simp) ?_; simp -dsimp [knC])
              | (refine call_newH (hF [1] [1] (by decide) (by decide)) rfl (by simp [egsIV]) (by simp) (by simp) (by simp) ?_; simp -dsimp [knC])
              | (refine call_newH (hR .ww .ww) rfl (by simp [egsIV, knC]) (by simp) (by simp) (by simp) ?_; simp -dsimp [knC])
              | (refine call_pure (hS [1] [1]) (by simp) (by simp) ?_; simp -dsimp [knC])
          · by_cases v2 : v = 2
            · simp -dsimp [v2, knC]
              repeat' first
                | (refine And.intro ?_ ?_)
                | (refine call_newH reads_spec rfl (by simp) (by simp) (by simp) (by simp) ?_; simp -dsimp [knC])
                | (refine call_newH all_spec rfl (by simp) (by simp) (by simp) (by simp) ?_; simp -dsimp [knC])
                | (refine call_newH (hF [4] [1, 2, 3, 4, 5] (by decide) (by decide)) rfl (by simp [egsIV]) (by simp) (by simp) (by simp) ?_; simp -dsimp [knC])
                | (refine call_newH (hR .rw .any) rfl (by simp [egsIV, knC]) (by simp) (by simp) (by simp) ?_; simp -dsimp [knC])
                | (refine call_pure (hS [4] [1, 2, 3, 4, 5]) (by simp) (by simp) ?_; simp -dsimp [knC])
            · simp -dsimp [v0, v1, v2, knC]
              repeat' first
                | (refine And.intro ?_ ?_)
                | (refine call_newH reads_spec rfl (by simp) (by simp) (by simp) (by simp) ?_; simp -dsimp [knC])
                | (refine call_newH writes_spec rfl (by simp) (by simp) (by simp) (by simp) ?_; simp -dsimp [knC])
                | (refine call_newH (hF [4] [1] (by decide) (by decide)) rfl (by simp [egsIV]) (by simp) (by simp) (by simp) ?_; simp -dsimp [knC])
                | (refine call_newH (hR .rw .ww) rfl (by simp [egsIV, knC]) (by simp) (by simp) (by simp) ?_; simp -dsimp [knC])
                | (refine call_pure (hS [4] [1]) (by simp) (by simp) ?_; simp -dsimp [knC])
end Go.Rt
end

/- CycleRows, CycleGoes as contracts. -/
section
namespace Go.Rt
open Go.Vm

set_option maxHeartbeats 40000000 in
theorem CycleRows_spec (l : List Eg) (hl0 : l.length < 2 ^ 63) (row : List Int) (hr0 : row.length < 2 ^ 63) : GSpec prog true n_ratlinelaw21_CycleRows [.iv (egsIV l), .iv (intsIV row)] [] (vb true) [] := by
  refine gspec1 ratlinelaw21_CycleRows_is (by simp) (by decide) rfl ?_
  simp -dsimp [ratlinelaw21_CycleRows]
  refine call_pure awake_spec (by simp) (by simp) ?_
  by_cases hl : 40 < l.length
  · have hl' : (40 : Int) < l.length := by omega
    simp -dsimp [egsIV, hl']
  · have hl' : ¬(40 : Int) < l.length := by omega
    by_cases hr : 40 < row.length
    · have hr' : (40 : Int) < row.length := by omega
      simp -dsimp [egsIV, intsIV, hl', hr']
    · have hr' : ¬(40 : Int) < row.length := by omega
      simp -dsimp [egsIV, intsIV, hl', hr']
      refine call_newH (Sorted_spec l (by omega) (row := row) (by omega)) rfl (by simp [egsIV, intsIV]) (by simp) (by simp) (by simp) ?_
      simp -dsimp [srtE]
      refine call_newH (RSorted_spec l (by omega) (row := row) (by omega)) rfl (by simp [egsIV, intsIV]) (by simp) (by simp) (by simp) ?_
      simp -dsimp [srtE]
      refine call_pure (Valid_spec l (by omega)) (by simp [egsIV]) (by simp) ?_
      simp -dsimp
      refine call_pure (RValid_spec l (by omega)) (by simp [egsIV]) (by simp) ?_
      simp -dsimp
      refine call_newH (Respects_spec l row (by omega) (by omega)) rfl (by simp [egsIV, intsIV]) (by simp) (by simp) (by simp) ?_
      simp -dsimp
      refine call_pure (RRespects_spec l row (by omega) (by omega)) (by simp [egsIV, intsIV]) (by simp) ?_
      simp -dsimp
      have hlen : ((topo (edP l) row).getD []).length < 2 ^ 63 := by
        cases h : topo (edP l) row with
        | none => simp
        | some s => have := sort_len h; simp; omega
      refine call_pure (ref10_Ints_spec ((topo (edP l) row).getD []) ((topo (edP l) row).getD []) hlen) (by simp) (by simp) ?_
      simp -dsimp

theorem Valid_yes {c : List Eg} (h : VP c) (hl : c.length < 2 ^ 62) : GSpec prog true n_cycle_Valid [.iv (egsIV c)] [] (vb true) [] := by
  have := Valid_spec c hl
  simp only [h, decide_true] at this
  exact this
set_option maxHeartbeats 40000000 in
theorem CycleGoes_spec (l : List Eg) (hl0 : l.length < 2 ^ 63) : GSpec prog true n_ratlinelaw21_CycleGoes [.iv (egsIV l)] [] (vb true) [] := by
  refine gspec1 ratlinelaw21_CycleGoes_is (by simp) (by decide) rfl ?_
  simp -dsimp [ratlinelaw21_CycleGoes]
  refine call_pure awake_spec (by simp) (by simp) ?_
  by_cases hl : 100 < l.length
  · have hl' : (100 : Int) < l.length := by omega
    simp -dsimp [egsIV, hl']
  · have hl' : ¬(100 : Int) < l.length := by omega
    simp -dsimp [egsIV, hl']
    refine call_newH reads_spec rfl (by simp) (by simp) (by simp) (by simp) ?_
    simp -dsimp
    refine call_newH all_spec rfl (by simp) (by simp) (by simp) (by simp) ?_
    simp -dsimp
    refine call_newH (Find_spec (l := l) (by omega) (fs := [4]) (rs := [1, 2, 3, 4, 5]) (by decide) (by decide)) rfl (by simp [egsIV]) (by simp) (by simp) (by simp) ?_
    simp -dsimp
    refine call_newH all_spec rfl (by simp) (by simp) (by simp) (by simp) ?_
    simp -dsimp
    refine call_newH writes_spec rfl (by simp) (by simp) (by simp) (by simp) ?_
    simp -dsimp
    refine call_newH (Find_spec (l := l) (by omega) (fs := [1, 2, 3, 4, 5]) (rs := [1]) (by decide) (by decide)) rfl (by simp [egsIV]) (by simp) (by simp) (by simp) ?_
    have hcl := fndE_len (l := l) (fs := [4]) (rs := [1, 2, 3, 4, 5])
    have hdl := fndE_len (l := l) (fs := [1, 2, 3, 4, 5]) (rs := [1])
    have hc := fndE_is (l := l) (fs := [4]) (rs := [1, 2, 3, 4, 5])
    have hd := fndE_is (l := l) (fs := [1, 2, 3, 4, 5]) (rs := [1])
    generalize fndE l [4] [1, 2, 3, 4, 5] = c at *
    generalize fndE l [1, 2, 3, 4, 5] [1] = d at *
    have hV : ∀ {x : List Eg}, VP x → x.length ≤ l.length → GSpec prog true n_cycle_Valid [.iv (.lst 8 (egsC x))] [] (vb true) [] := fun h hl => Valid_yes h (by omega)
    have hci : ∀ i e, c[i]? = some e → e ∈ l := fun i e he => by
      have := List.mem_of_getElem? he
      exact (hc (List.ne_nil_of_mem this)).2.1 e this
    have hdi : ∀ i e, d[i]? = some e → e ∈ l := fun i e he => by
      have := List.mem_of_getElem? he
      exact (hd (List.ne_nil_of_mem this)).2.1 e this
    have hdk : ∀ i e, d[i + 1]? = some e → e.kind = 1 := fun i e he => by
      have := (hd (List.ne_nil_of_mem (List.mem_of_getElem? he))).2.2.2 i e he
      simpa [ofK] using this
    have hc00 : 0 < c.length → ∃ e, c[0]? = some e ∧ e.kind = 4 := fun h => by
      obtain ⟨e, he, hk⟩ := (hc (List.length_pos_iff.1 h)).2.2.1
      exact ⟨e, he, by simpa [ofK] using hk⟩
    by_cases hc0 : c.length = 0 <;> by_cases hd0 : d.length = 0
    all_goals simp -dsimp [hc0, hd0, egsIV]
    all_goals try (intro hcp; obtain ⟨e, he, hk⟩ := hc00 hcp; refine call_pure (hV (hc (List.length_pos_iff.1 hcp)).1 hcl) (by simp) (by simp) ?_; simp -dsimp [he, Eg.cells, hk, setRange, hd0])
    all_goals try (intro hdp; refine call_pure (hV (hd (List.length_pos_iff.1 hdp)).1 hdl) (by simp) (by simp) ?_; simp -dsimp)
    all_goals
      refine loop_idx [] [] c.length (fun i => ⟨[(6, vi i), (5, .iv (egsIV d)), (4, .iv (egsIV c)), (0, .iv (egsIV l))], []⟩) (fun _ => True) (by simp [egsIV]) trivial ?_
      intro i hi _
      by_cases hil : i < c.length
      · obtain ⟨e, he⟩ := some_at hil
        have hw := wrap_in (n := (i : Int) + 1) (by omega)
        simp -dsimp [ratlinelaw21_CycleGoes_l15, egsIV, he, Eg.cells, setRange]
        refine ⟨fun _ => ?_, fun h => absurd h (by omega)⟩
        refine call_pure (law21_in_spec l e (by omega)) (by simp [egsIV, Eg.av, Eg.cells]) (by simp [Eg.av, Eg.cells]) ?_
        have := hci i e he
        simp -dsimp [this, hw]
        exact hil
      · have hie : i = c.length := by omega
        subst hie
        simp -dsimp [ratlinelaw21_CycleGoes_l15, egsIV]
        refine loop_idx [] [] d.length (fun i => ⟨[(7, vi i), (5, .iv (egsIV d)), (0, .iv (egsIV l))], []⟩) (fun _ => True) (by simp [egsIV]) trivial ?_
        intro i hi _
        by_cases hil : i < d.length
        · obtain ⟨e, he⟩ := some_at hil
          have hw := wrap_in (n := (i : Int) + 1) (by omega)
          simp -dsimp [ratlinelaw21_CycleGoes_l21, egsIV, he, Eg.cells, setRange]
          intro _
          refine call_pure (law21_in_spec l e (by omega)) (by simp [egsIV, Eg.av, Eg.cells]) (by simp [Eg.av, Eg.cells]) ?_
          have := hdi i e he
          by_cases hi0 : 0 < i
          · obtain ⟨j, rfl⟩ : ∃ j, i = j + 1 := ⟨i - 1, by omega⟩
            have hk := hdk j e he
            simp -dsimp [this, hw, he, Eg.cells, hk, setRange]
            exact ⟨by omega, hil, by have := wrap_in (n := (j : Int) + 1 + 1) (by omega); exact this⟩
          · simp -dsimp [this, hw, hi0]
            exact hil
        · have hie : i = d.length := by omega
          subst hie
          simp -dsimp [ratlinelaw21_CycleGoes_l21, egsIV]
end Go.Rt
end

/- What comes in: numbers, rows of numbers, edges. -/
section
namespace Go.Rt
open Go.Vm

theorem wf_int {P : Program} {f : Nat} {t : TypeId} {cs : List IV} {k : IntKind} (hu : P.underlying t = some (.int k)) (h : WfT P f t cs) : ∃ n, cs = [.v (.int k n)] ∧ (Lit.int k n).wf = true := by
  cases f with
  | zero => exact h.elim
  | succ f => simpa only [WfT, hu] using h
theorem wf_bool {P : Program} {f : Nat} {t : TypeId} {cs : List IV} (hu : P.underlying t = some .bool) (h : WfT P f t cs) : ∃ b, cs = [.v (.bool b)] := by
  cases f with
  | zero => exact h.elim
  | succ f => simpa only [WfT, hu] using h
theorem wf_str {P : Program} {f : Nat} {t : TypeId} {cs : List IV} (hu : P.underlying t = some .string) (h : WfT P f t cs) : ∃ s : ByteArray, cs = [.v (.string s)] ∧ s.size < 2 ^ 63 := by
  cases f with
  | zero => exact h.elim
  | succ f =>
    simp only [WfT, hu] at h
    obtain ⟨s, h1, h2⟩ := h
    refine ⟨s, h1, Nat.lt_of_le_of_lt h2 (by decide)⟩
theorem wf_slice {P : Program} {f : Nat} {t e n : Nat} {cs : List IV} (hu : P.underlying t = some (.slice e)) (hn : P.cellsOf e = n) (h : WfT P f t cs) : ∃ f', f = f' + 1 ∧ ∃ xs, cs = [.lst n xs] ∧ xs.length < 2 ^ 63 ∧ ∀ x ∈ xs, WfT P f' e x := by
  cases f with
  | zero => exact h.elim
  | succ f =>
    simp only [WfT, hu, hn] at h
    obtain ⟨xs, h1, h2, h3⟩ := h
    exact ⟨f, rfl, xs, h1, Nat.lt_of_le_of_lt h2 (by decide), h3⟩
/-- a struct's fields: type, place, size -/
def fieldsOf (P : Program) (t : TypeId) : Option (List (Nat × Nat × Nat)) := match P.underlying t with
  | some (.struct fs) => some (fs.toList.map fun f => (f.type, f.offset, P.cellsOf f.type))
  | _ => none
theorem wf_struct {P : Program} {f : Nat} {t n : Nat} {l : List (Nat × Nat × Nat)} {cs : List IV} (hu : fieldsOf P t = some l) (hn : P.cellsOf t = n) (h : WfT P f t cs) :
    ∃ f', f = f' + 1 ∧ cs.length = n ∧ ∀ p ∈ l, WfT P f' p.1 ((cs.drop p.2.1).take p.2.2) := by
  unfold fieldsOf at hu
  split at hu
  · rename_i fs hu'
    cases f with
    | zero => exact h.elim
    | succ f =>
      simp only [WfT, hu', hn] at h
      refine ⟨f, rfl, h.1, fun p hp => ?_⟩
      cases hu
      obtain ⟨fld, h1, rfl⟩ := List.mem_map.1 hp
      exact h.2 fld h1
  · cases hu
theorem cut_at {α : Type} (cs : List α) (o n : Nat) {x : List α} (h : (cs.drop o).take n = x) : cs.drop o = x ++ cs.drop (o + n) := by
  rw [← h, ← List.drop_drop, List.take_append_drop]
theorem cut_end {α : Type} {cs : List α} {o : Nat} (h : cs.length = o) : cs.drop o = [] := List.drop_eq_nil_of_le (by omega)

theorem list_choose {α β : Type} {f : α → β} {Q : α → Prop} : ∀ {xs : List β}, (∀ x, x ∈ xs → ∃ p, Q p ∧ x = f p) → ∃ ps : List α, xs = ps.map f ∧ ∀ p, p ∈ ps → Q p
  | [], _ => ⟨[], rfl, fun _ h => by cases h⟩
  | x :: r, h => by
    obtain ⟨p, h1, rfl⟩ := h x List.mem_cons_self
    obtain ⟨ps, rfl, h3⟩ := list_choose (xs := r) fun y hy => h y (List.mem_cons_of_mem _ hy)
    exact ⟨p :: ps, rfl, fun q hq => by
      rcases List.mem_cons.1 hq with rfl | hq
      · exact h1
      · exact h3 q hq⟩


theorem u4 : prog.underlying 4 = some .bool := by kernel_rfl
theorem u2 : prog.underlying 2 = some (.int .i64) := by kernel_rfl
theorem u3 : prog.underlying 3 = some (.int .i64) := by kernel_rfl
theorem u9 : prog.underlying 9 = some .string := by kernel_rfl
theorem wf_vl {f : Nat} {cs : List IV} (h : WfT prog f 25 cs) : ∃ v : Vl, cs = v.cells ∧ v.s.size < 2 ^ 63 := by
  obtain ⟨f, rfl, hl, hf⟩ := wf_struct (P := prog) (t := 25) (n := 3) (l := [(4, 0, 1), (2, 1, 1), (9, 2, 1)]) (by kernel_rfl) (by kernel_rfl) h
  obtain ⟨b, h1⟩ := wf_bool u4 (hf (4, 0, 1) (by decide))
  obtain ⟨n, h2, _⟩ := wf_int u2 (hf (2, 1, 1) (by decide))
  obtain ⟨s, h3, h4⟩ := wf_str u9 (hf (9, 2, 1) (by decide))
  refine ⟨⟨b, n, s⟩, ?_, h4⟩
  have e := cut_at cs 0 1 h1
  rw [cut_at cs 1 1 h2, cut_at cs 2 1 h3, cut_end hl] at e
  exact e
theorem wf_ints {f : Nat} {cs : List IV} (h : WfT prog f 32 cs) : ∃ l : List Int, cs = [intsIV l] ∧ l.length < 2 ^ 63 := by
  obtain ⟨f, rfl, xs, rfl, hl, hx⟩ := wf_slice (P := prog) (t := 32) (e := 3) (n := 1) (by kernel_rfl) (by kernel_rfl) h
  obtain ⟨l, rfl, _⟩ := list_choose (f := fun i : Int => [ci i]) (Q := fun _ => True) (xs := xs) fun x hm => by
    obtain ⟨n, h1, _⟩ := wf_int u3 (hx x hm); exact ⟨n, trivial, h1⟩
  exact ⟨l, rfl, by simpa using hl⟩
theorem wf_eg {f : Nat} {cs : List IV} (h : WfT prog f 29 cs) : ∃ e : Eg, cs = e.cells := by
  obtain ⟨f, rfl, hl, hf⟩ := wf_struct (P := prog) (t := 29) (n := 8) (l := [(3, 0, 1), (3, 1, 1), (3, 2, 1), (3, 3, 1), (25, 4, 3), (4, 7, 1)]) (by kernel_rfl) (by kernel_rfl) h
  obtain ⟨a, h1, _⟩ := wf_int u3 (hf (3, 0, 1) (by decide))
  obtain ⟨b, h2, _⟩ := wf_int u3 (hf (3, 1, 1) (by decide))
  obtain ⟨c, h3, _⟩ := wf_int u3 (hf (3, 2, 1) (by decide))
  obtain ⟨d, h4, _⟩ := wf_int u3 (hf (3, 3, 1) (by decide))
  obtain ⟨v, h5, _⟩ := wf_vl (hf (25, 4, 3) (by decide))
  obtain ⟨g, h6⟩ := wf_bool u4 (hf (4, 7, 1) (by decide))
  refine ⟨⟨a, b, c, d, v, g⟩, ?_⟩
  have e := cut_at cs 0 1 h1
  rw [cut_at cs 1 1 h2, cut_at cs 2 1 h3, cut_at cs 3 1 h4, cut_at cs 4 3 h5, cut_at cs 7 1 h6, cut_end hl] at e
  exact e
theorem wf_egs {f : Nat} {cs : List IV} (h : WfT prog f 22 cs) : ∃ l : List Eg, cs = [egsIV l] ∧ l.length < 2 ^ 63 := by
  obtain ⟨f, rfl, xs, rfl, hl, hx⟩ := wf_slice (P := prog) (t := 22) (e := 29) (n := 8) (by kernel_rfl) (by kernel_rfl) h
  obtain ⟨l, rfl, _⟩ := list_choose (f := fun a : Eg => a.cells) (Q := fun _ => True) (xs := xs) fun x hm => by
    obtain ⟨n, h1⟩ := wf_eg (hx x hm); exact ⟨n, trivial, h1⟩
  exact ⟨l, rfl, by simpa using hl⟩
end Go.Rt
end

/- What the rows of this chapter share. -/
section
namespace Go.Proofs.Ytaongilgapocfaa
open Go.ChangeShapes Go.WideShapes Go.ChangeAt Go.RowKit Go.Vm Go.Rt
open Go.Proofs (Try.prog)

theorem own : ownKnob Try.prog.godebug = none := by kernel_rfl
theorem laidOut : laidOutB Try.prog = true := by kernel_rfl
def tset : List TypeId := [22, 29, 25, 32, 2, 3, 4, 9]
theorem tset_ok : plainSet Try.prog tset = true := by kernel_rfl
theorem readable : ∀ t ∈ [22, 32, 3], Try.prog.readableRec t = true ∧ t < Try.prog.types.size := by
  intro t ht
  simp only [List.mem_cons, List.not_mem_nil, or_false] at ht
  rcases ht with rfl | rfl | rfl
  · exact ⟨by kernel_rfl, of_decide_eq_true (by kernel_rfl)⟩
  · exact ⟨by kernel_rfl, of_decide_eq_true (by kernel_rfl)⟩
  · exact ⟨by kernel_rfl, of_decide_eq_true (by kernel_rfl)⟩
theorem agg22 : isAggT Try.prog 22 = false := by kernel_rfl
theorem agg32 : isAggT Try.prog 32 = false := by kernel_rfl
theorem agg3 : isAggT Try.prog 3 = false := by kernel_rfl

theorem args_ei {css : List (List IV)} (h : WfArgs Try.prog [22, 3] css) : ∃ (l : List Eg) (i : Int), argsT Try.prog [22, 3] css = [.iv (egsIV l), vi i] ∧ l.length < 2 ^ 63 := by
  match css, h with
  | [cs, ds], ⟨⟨f, h1⟩, ⟨g, h2⟩, _⟩ =>
    obtain ⟨a, rfl, ha⟩ := wf_egs h1
    obtain ⟨b, rfl, _⟩ := wf_int u3 h2
    exact ⟨a, b, by simp only [argsT, agg22, agg3]; rfl, ha⟩
theorem args_el {css : List (List IV)} (h : WfArgs Try.prog [22, 32] css) : ∃ (l : List Eg) (r : List Int), argsT Try.prog [22, 32] css = [.iv (egsIV l), .iv (intsIV r)] ∧ l.length < 2 ^ 63 ∧ r.length < 2 ^ 63 := by
  match css, h with
  | [cs, ds], ⟨⟨f, h1⟩, ⟨g, h2⟩, _⟩ =>
    obtain ⟨a, rfl, ha⟩ := wf_egs h1
    obtain ⟨b, rfl, hb⟩ := wf_ints h2
    exact ⟨a, b, by simp only [argsT, agg22, agg32]; rfl, ha, hb⟩
theorem args_e {css : List (List IV)} (h : WfArgs Try.prog [22] css) : ∃ (l : List Eg), argsT Try.prog [22] css = [.iv (egsIV l)] ∧ l.length < 2 ^ 63 := by
  match css, h with
  | [cs], ⟨⟨f, h1⟩, _⟩ =>
    obtain ⟨a, rfl, ha⟩ := wf_egs h1
    exact ⟨a, by simp only [argsT, agg22]; rfl, ha⟩
end Go.Proofs.Ytaongilgapocfaa
end
