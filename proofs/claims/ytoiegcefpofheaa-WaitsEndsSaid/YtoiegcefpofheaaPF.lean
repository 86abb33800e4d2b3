/- Contracts of functions of the program, and what they lean on. Conditions: those of each theorem. -/
import Derived.Test.YtoiegcefpofheaaPD

set_option linter.unusedVariables false
set_option linter.unusedSimpArgs false

/- Who is stuck: what the counts come to. -/
section
namespace Go.Rt
open Go.Vm

theorem lAt_set {L : List Int} {i : Nat} (hi : i < L.length) (v : Int) (q : Nat) : lAt (L.set i v) (q : Int) = if q = i then v else lAt L (q : Int) := by
  simp only [lAt, Int.toNat_natCast, List.getElem?_set]
  by_cases h : i = q
  · subst h; simp [hi]
  · simp [h, Ne.symm h]
theorem rowAt_set {B : List (List Int)} {i : Nat} (hi : i < B.length) (v : List Int) (q : Nat) : rowAt (B.set i v) (q : Int) = if q = i then v else rowAt B (q : Int) := by
  simp only [rowAt, Int.toNat_natCast, List.getElem?_set]
  by_cases h : i = q
  · subst h; simp [hi]
  · simp [h, Ne.symm h]
/-- how many of a row are rows, and none of some -/
def nval (n : Nat) (ends l : List Int) : Nat := l.countP fun k : Int => decide (0 ≤ k ∧ k < n ∧ k ∉ ends)
theorem nval_le (n : Nat) (ends l : List Int) : nval n ends l ≤ l.length := List.countP_le_length
theorem wrap_small {m : Int} (h0 : -1 ≤ m) (h1 : m ≤ 2000) : IntKind.i64.wrap m = m := wrap_in (by omega)

theorem rowB_sum {n i : Nat} (hi : i < n) : ∀ (l : List Int) {L : List Int} {B : List (List Int)}, L.length = n → B.length = n → 0 ≤ lAt L i → lAt L i + l.length ≤ 1000 →
    (∀ q : Nat, lAt (rowB n i l (L, B)).1 q = if q = i then lAt L i + nval n [] l else lAt L q) ∧
    (∀ (k : Nat) (x : Int), k < n → (rowAt (rowB n i l (L, B)).2 k).count x = (rowAt B k).count x + if x = i then l.count (k : Int) else 0) := by
  intro l
  induction l with
  | nil =>
    intro L B hL hB h0 h1
    refine ⟨fun q => ?_, fun k x _ => ?_⟩
    · by_cases h : q = i
      · subst h; simp [rowB, nval]
      · simp [rowB, h]
    · simp [rowB]
  | cons a l ih =>
    intro L B hL hB h0 h1
    simp only [List.length_cons] at h1
    have hc : rowB n i (a :: l) (L, B) = rowB n i l (stepB n i (L, B) a) := rfl
    by_cases ha : 0 ≤ a ∧ a < n
    · obtain ⟨a', rfl⟩ : ∃ a' : Nat, a = a' := ⟨a.toNat, by omega⟩
      have hs : stepB n i (L, B) (a' : Int) = (L.set i (lAt L i + 1), B.set a' (rowAt B a' ++ [(i : Int)])) := by
        unfold stepB
        rw [if_pos ha]
        show (L.set i (IntKind.i64.wrap (lAt L i + 1)), B.set (a' : Int).toNat _) = _
        rw [wrap_small (by omega) (by omega)]
        rfl
      rw [hc, hs]
      have hi1 : lAt (L.set i (lAt L i + 1)) (i : Int) = lAt L i + 1 := by rw [lAt_set (by omega)]; simp
      obtain ⟨g1, g2⟩ := ih (L := L.set i (lAt L i + 1)) (B := B.set a' (rowAt B a' ++ [(i : Int)])) (by simpa using hL) (by simpa using hB) (by rw [hi1]; omega) (by rw [hi1]; omega)
      have hnv : nval n [] ((a' : Int) :: l) = nval n [] l + 1 := by
        unfold nval
        rw [List.countP_cons_of_pos (by simp; omega)]
      refine ⟨fun q => ?_, fun k x hk => ?_⟩
      · rw [g1 q, hi1, hnv]
        by_cases h : q = i
        · simp only [h, if_true]; push_cast; omega
        · simp only [h, if_false]; rw [lAt_set (by omega), if_neg h]
      · rw [g2 k x hk, rowAt_set (by omega)]
        by_cases hka : k = a'
        · subst hka
          simp only [if_true, List.count_append, List.count_cons_self]
          by_cases hx : x = i
          · subst hx; simp; omega
          · simp [hx, List.count_singleton, Ne.symm hx]
        · have : ((a' : Int) == (k : Int)) = false := by simp; omega
          simp only [hka, if_false, List.count_cons, this]
          simp
    · have hs : stepB n i (L, B) a = (L, B) := by unfold stepB; rw [if_neg ha]
      rw [hc, hs]
      obtain ⟨g1, g2⟩ := ih hL hB h0 (by omega)
      have hnv : nval n [] (a :: l) = nval n [] l := by
        unfold nval
        rw [List.countP_cons_of_neg (by simp; omega)]
      refine ⟨fun q => by rw [g1 q, hnv], fun k x hk => ?_⟩
      rw [g2 k x hk]
      have : (a == (k : Int)) = false := by simp; omega
      simp [List.count_cons, this]

structure BInv (e : List (List Int)) (j : Nat) (st : (List Int × List (List Int)) × List Int) : Prop where
  left : ∀ q : Nat, lAt st.1.1 q = if q < j then (nval e.length [] (rowAt e q) : Int) else 0
  back : ∀ (k : Nat) (x : Int), k < e.length → (rowAt st.1.2 k).count x = if 0 ≤ x ∧ x < j then (rowAt e x).count (k : Int) else 0
  free : ∀ x : Int, x ∈ st.2 ↔ 0 ≤ x ∧ x < j ∧ nval e.length [] (rowAt e x) = 0
  nodup : st.2.Nodup
theorem partB_inv {e : List (List Int)} (hr : ∀ l, l ∈ e → l.length ≤ 1000) : ∀ j, j ≤ e.length → BInv e j (partB e j)
  | 0, _ => by
    refine ⟨fun q => ?_, fun k x hk => ?_, fun x => ?_, by simp [partB]⟩
    · simp only [partB, List.take_zero, List.foldl_nil, lAt, Int.toNat_natCast, List.getElem?_replicate]
      split <;> simp
    · simp only [partB, List.take_zero, List.foldl_nil, rowAt, Int.toNat_natCast, List.getElem?_replicate, hk, if_true]
      rw [if_neg (by omega)]; simp
    · simp only [partB, List.take_zero, List.foldl_nil]
      constructor
      · intro h; cases h
      · intro h; omega
  | j + 1, hj => by
    obtain ⟨row, hrow⟩ := some_at (l := e) (i := j) (by omega)
    have hm := hr row (List.mem_of_getElem? hrow)
    have ih := partB_inv hr j (by omega)
    obtain ⟨hok, _, _⟩ := partB_ok hr j (by omega)
    have hre : rowAt e (j : Int) = row := by simp [rowAt, hrow]
    have h0 : lAt (partB e j).1.1 j = 0 := by rw [ih.left j]; simp
    obtain ⟨g1, g2⟩ := rowB_sum (i := j) (by omega) row (L := (partB e j).1.1) (B := (partB e j).1.2) hok.left hok.back (by omega) (by omega)
    rw [partB_next hrow]
    have hz : lAt (rowB e.length j row (partB e j).1).1 j = nval e.length [] row := by
      have := g1 j
      rw [if_pos rfl, h0, Int.zero_add] at this
      exact this
    refine ⟨fun q => ?_, fun k x hk => ?_, fun x => ?_, ?_⟩
    · show lAt (rowB e.length j row (partB e j).1).1 q = _
      have := g1 q
      by_cases hq : q = j
      · subst hq; rw [hz, if_pos (by omega), hre]
      · rw [if_neg hq] at this
        rw [show rowB e.length j row (partB e j).1 = rowB e.length j row ((partB e j).1.1, (partB e j).1.2) from rfl, this, ih.left q]
        by_cases h : q < j
        · rw [if_pos h, if_pos (by omega)]
        · rw [if_neg h, if_neg (by omega)]
    · show (rowAt (rowB e.length j row (partB e j).1).2 k).count x = _
      rw [show rowB e.length j row (partB e j).1 = rowB e.length j row ((partB e j).1.1, (partB e j).1.2) from rfl, g2 k x hk, ih.back k x hk]
      by_cases hx : x = (j : Int)
      · subst hx
        rw [if_neg (by omega), if_pos rfl, if_pos (by omega), hre]; omega
      · rw [if_neg hx]
        by_cases h : 0 ≤ x ∧ x < j
        · rw [if_pos h, if_pos (by omega)]; rfl
        · rw [if_neg h, if_neg (by omega)]
    · show x ∈ (if lAt (rowB e.length j row (partB e j).1).1 j = 0 then (partB e j).2 ++ [(j : Int)] else (partB e j).2) ↔ _
      rw [hz]
      by_cases hv : nval e.length [] row = 0
      · rw [if_pos (by omega), List.mem_append, ih.free x, List.mem_singleton]
        constructor
        · rintro (h | rfl)
          · exact ⟨h.1, by omega, h.2.2⟩
          · exact ⟨by omega, by omega, by rw [hre]; exact hv⟩
        · rintro ⟨h1, h2, h3⟩
          by_cases hx : x = (j : Int)
          · exact .inr hx
          · exact .inl ⟨h1, by omega, h3⟩
      · rw [if_neg (by omega), ih.free x]
        constructor
        · intro h; exact ⟨h.1, by omega, h.2.2⟩
        · rintro ⟨h1, h2, h3⟩
          refine ⟨h1, ?_, h3⟩
          have : x ≠ (j : Int) := by rintro rfl; rw [hre] at h3; exact hv h3
          omega
    · show (if lAt (rowB e.length j row (partB e j).1).1 j = 0 then (partB e j).2 ++ [(j : Int)] else (partB e j).2).Nodup
      split
      · rw [List.nodup_append]
        refine ⟨ih.nodup, by simp, fun a ha b hb => ?_⟩
        simp only [List.mem_singleton] at hb
        subst hb
        rintro rfl
        have := (ih.free _).1 ha
        omega
      · exact ih.nodup
end Go.Rt
end

/- Who is stuck: what is left when nobody is free. -/
section
namespace Go.Rt
open Go.Vm

theorem stepD_eq {L F : List Int} {a : Nat} (h0 : 0 ≤ lAt L a) (h1 : lAt L a ≤ 1000) : stepD (L, F) (a : Int) = (L.set a (lAt L a - 1), if lAt L a - 1 = 0 then F ++ [(a : Int)] else F) := by
  show (L.set (a : Int).toNat (IntKind.i64.wrap (lAt L a - 1)), if IntKind.i64.wrap (lAt L a - 1) = 0 then F ++ [(a : Int)] else F) = _
  rw [wrap_small (by omega) (by omega)]; rfl
theorem rowD_sum {n : Nat} : ∀ (l : List Int) {L F : List Int}, L.length = n → Inn n l → (∀ q : Nat, 0 ≤ lAt L q ∧ lAt L q ≤ 1000) → (∀ q : Nat, (l.count (q : Int) : Int) ≤ lAt L q) → F.Nodup → (∀ x, x ∈ l → x ∉ F) →
    (∀ q : Nat, lAt (rowD l (L, F)).1 q = lAt L q - (l.count (q : Int) : Int)) ∧ (∀ x, x ∈ (rowD l (L, F)).2 ↔ x ∈ F ∨ (x ∈ l ∧ lAt L x = (l.count x : Int))) ∧ (rowD l (L, F)).2.Nodup := by
  intro l
  induction l with
  | nil => intro L F hL _ _ _ hF _; exact ⟨fun q => by simp [rowD], fun x => by simp [rowD], by simpa [rowD] using hF⟩
  | cons a l ih =>
    intro L F hL hin hb hc hF hd
    have ha := hin a List.mem_cons_self
    obtain ⟨a', rfl⟩ : ∃ a' : Nat, a = a' := ⟨a.toNat, by omega⟩
    have hba := hb a'
    have hca := hc a'
    rw [List.count_cons_self] at hca
    have hal : a' < L.length := by omega
    have hr : rowD ((a' : Int) :: l) (L, F) = rowD l (L.set a' (lAt L a' - 1), if lAt L a' - 1 = 0 then F ++ [(a' : Int)] else F) := by
      show rowD l (stepD (L, F) (a' : Int)) = _
      rw [stepD_eq hba.1 hba.2]
    have hset : ∀ q : Nat, lAt (L.set a' (lAt L a' - 1)) q = if q = a' then lAt L a' - 1 else lAt L q := fun q => lAt_set hal _ q
    have hcne : ∀ x : Int, x ≠ (a' : Int) → ((a' : Int) :: l).count x = l.count x := fun x hx => by rw [List.count_cons_of_ne (Ne.symm hx)]
    have hF2 : (if lAt L a' - 1 = 0 then F ++ [(a' : Int)] else F).Nodup := by
      split
      · rw [List.nodup_append]
        refine ⟨hF, by simp, fun y hy z hz => ?_⟩
        simp only [List.mem_singleton] at hz
        subst hz
        rintro rfl
        exact hd _ List.mem_cons_self hy
      · exact hF
    have hz0 : lAt L a' - 1 = 0 → (a' : Int) ∉ l := fun hz hm => by
      have := List.count_pos_iff.2 hm
      omega
    have hd2 : ∀ x, x ∈ l → x ∉ (if lAt L a' - 1 = 0 then F ++ [(a' : Int)] else F) := by
      intro x hx
      split
      · rename_i hz
        intro hm
        rcases List.mem_append.1 hm with hm | hm
        · exact hd x (List.mem_cons_of_mem _ hx) hm
        · simp only [List.mem_singleton] at hm; subst hm; exact hz0 hz hx
      · exact hd x (List.mem_cons_of_mem _ hx)
    obtain ⟨g1, g2, g3⟩ := ih (L := L.set a' (lAt L a' - 1)) (by simpa using hL) (fun x hx => hin x (List.mem_cons_of_mem _ hx)) (fun q => by
        rw [hset q]
        by_cases h : q = a'
        · rw [if_pos h]; omega
        · rw [if_neg h]; exact hb q) (fun q => by
        rw [hset q]
        by_cases h : q = a'
        · rw [if_pos h, h]; omega
        · rw [if_neg h]; have := hc q; rw [hcne _ (by omega)] at this; exact this) hF2 hd2
    rw [hr]
    refine ⟨fun q => ?_, fun x => ?_, g3⟩
    · rw [g1 q, hset q]
      by_cases h : q = a'
      · rw [if_pos h, h, List.count_cons_self]; omega
      · rw [if_neg h, hcne _ (by omega)]
    · rw [g2 x]
      by_cases hx : x = (a' : Int)
      · subst hx
        rw [hset a', if_pos rfl, List.count_cons_self]
        by_cases hz : lAt L a' - 1 = 0
        · rw [if_pos hz]
          have h0 := List.count_eq_zero.2 (hz0 hz)
          constructor
          · intro _; exact .inr ⟨List.mem_cons_self, by omega⟩
          · intro _; exact .inl (by simp)
        · rw [if_neg hz]
          constructor
          · rintro (h | ⟨_, h⟩)
            · exact .inl h
            · exact .inr ⟨List.mem_cons_self, by omega⟩
          · rintro (h | ⟨_, h⟩)
            · exact .inl h
            · refine .inr ⟨List.count_pos_iff.1 (by omega), by omega⟩
      · rw [hcne x hx]
        have hmem : x ∈ (if lAt L a' - 1 = 0 then F ++ [(a' : Int)] else F) ↔ x ∈ F := by
          split
          · simp [hx]
          · exact Iff.rfl
        rw [hmem]
        constructor
        · rintro (h | ⟨h1, h2⟩)
          · exact .inl h
          · have hxr := hin x (List.mem_cons_of_mem _ h1)
            obtain ⟨x', rfl⟩ : ∃ x' : Nat, x = x' := ⟨x.toNat, by omega⟩
            rw [hset x', if_neg (by omega)] at h2
            exact .inr ⟨List.mem_cons_of_mem _ h1, h2⟩
        · rintro (h | ⟨h1, h2⟩)
          · exact .inl h
          · have hxr := hin x h1
            obtain ⟨x', rfl⟩ : ∃ x' : Nat, x = x' := ⟨x.toNat, by omega⟩
            rw [List.mem_cons] at h1
            refine .inr ⟨h1.resolve_left hx, ?_⟩
            rw [hset x', if_neg (by omega)]; exact h2

/-- who comes to an end -/
inductive Ends (e : List (List Int)) : Int → Prop
  | mk (i : Int) (h0 : 0 ≤ i ∧ i < e.length) (h : ∀ k, k ∈ rowAt e i → 0 ≤ k → k < e.length → Ends e k) : Ends e i
theorem nval_split {n : Nat} {ends : List Int} {i : Int} (hi : i ∉ ends) (hr : 0 ≤ i ∧ i < n) (l : List Int) : nval n ends l = nval n (ends ++ [i]) l + l.count i := by
  unfold nval
  induction l with
  | nil => rfl
  | cons a l ih =>
    rw [List.countP_cons, List.countP_cons, List.count_cons, ih]
    by_cases ha : a = i
    · subst ha; simp [hi, hr]; omega
    · by_cases h : 0 ≤ a ∧ a < n ∧ a ∉ ends <;> simp [h, ha] <;> omega
theorem nval_zero {n : Nat} {ends l : List Int} : nval n ends l = 0 ↔ ∀ k, k ∈ l → 0 ≤ k → k < n → k ∈ ends := by
  unfold nval
  rw [List.countP_eq_zero]
  constructor
  · intro h k hk h0 h1
    have := h k hk
    simp only [decide_eq_true_eq] at this
    exact Classical.not_not.1 fun h' => this ⟨h0, h1, h'⟩
  · intro h k hk
    simp only [decide_eq_true_eq]
    rintro ⟨h0, h1, h2⟩
    exact h2 (h k hk h0 h1)
structure DInv (e : List (List Int)) (left free ends : List Int) : Prop where
  len : left.length = e.length
  left : ∀ q : Nat, q < e.length → lAt left q = nval e.length ends (rowAt e q)
  nodup : (ends ++ free).Nodup
  mem : ∀ x, x ∈ ends ++ free ↔ (0 ≤ x ∧ x < e.length) ∧ nval e.length ends (rowAt e x) = 0
  sound : ∀ x, x ∈ ends → Ends e x
theorem DInv.all {e : List (List Int)} {left free ends : List Int} (h : DInv e left free ends) {x : Int} (hx : x ∈ ends ++ free) : Ends e x := by
  obtain ⟨h1, h2⟩ := (h.mem x).1 hx
  exact .mk x h1 fun k hk h3 h4 => h.sound k (nval_zero.1 h2 k hk h3 h4)
theorem drain_inv {e B : List (List Int)} (hr : ∀ l, l ∈ e → l.length ≤ 1000) (hB : ∀ (k : Nat) (x : Int), k < e.length → (rowAt B k).count x = if 0 ≤ x ∧ x < e.length then (rowAt e x).count (k : Int) else 0)
    (hBi : ∀ k : Nat, k < e.length → Inn e.length (rowAt B k)) : ∀ (k : Nat) {left free ends : List Int}, DInv e left free ends → e.length ≤ ends.length + k → ∃ left' res, drain B k left free ends = some res ∧ DInv e left' [] res
  | k, left, [], ends, h, _ => ⟨left, ends, by cases k <;> rfl, h⟩
  | 0, left, i :: r, ends, h, hk => by
    have := range_len e.length h.nodup fun x hx => ((h.mem x).1 hx).1
    simp only [List.length_append, List.length_cons] at this
    omega
  | k + 1, left, i :: r, ends, h, hk => by
    have hii := ((h.mem i).1 (by simp)).1
    obtain ⟨i', rfl⟩ : ∃ i' : Nat, i = i' := ⟨i.toNat, by omega⟩
    have hi' : i' < e.length := by omega
    have hine : (i' : Int) ∉ ends := fun hm => by
      have := List.nodup_append.1 h.nodup
      exact this.2.2 _ hm _ List.mem_cons_self rfl
    have hcnt : ∀ q : Nat, q < e.length → (rowAt B i').count (q : Int) = (rowAt e q).count (i' : Int) := fun q hq => by rw [hB i' q hi', if_pos (by omega)]
    have hrow : ∀ q : Nat, (rowAt e q).length ≤ 1000 := fun q => by
      unfold rowAt
      cases hq : e[(q : Int).toNat]? with
      | none => simp
      | some l => exact hr l (List.mem_of_getElem? hq)
    have hout : ∀ q : Nat, ¬q < e.length → lAt left q = 0 := fun q hq => by
      have := h.len
      simp only [lAt, Int.toNat_natCast]
      rw [List.getElem?_eq_none (by omega)]; rfl
    have hbr := hBi i' hi'
    obtain ⟨g1, g2, g3⟩ := rowD_sum (n := e.length) (rowAt B i') (L := left) (F := r) h.len hbr (fun q => by
        by_cases hq : q < e.length
        · rw [h.left q hq]
          have := nval_le e.length ends (rowAt e q)
          have := hrow q
          omega
        · rw [hout q hq]; omega) (fun q => by
        by_cases hq : q < e.length
        · rw [h.left q hq, hcnt q hq]
          have := nval_split hine hii (rowAt e q)
          omega
        · rw [hout q hq, List.count_eq_zero.2 fun hm => hq (by have := hbr _ hm; omega)]; simp) ((List.nodup_append.1 h.nodup).2.1.of_cons) (fun x hx hm => by
        have hxr := hbr x hx
        obtain ⟨x', rfl⟩ : ∃ x' : Nat, x = x' := ⟨x.toNat, by omega⟩
        have h1 := ((h.mem (x' : Int)).1 (by simp [hm])).2
        have h2 := nval_split hine hii (rowAt e x')
        have h3 := List.count_pos_iff.2 hx
        rw [hcnt x' (by omega)] at h3
        omega)
    have hlen : (rowD (rowAt B i') (left, r)).1.length = e.length := by
      have : ∀ (l : List Int) (st : List Int × List Int), (rowD l st).1.length = st.1.length := by
        intro l
        induction l with
        | nil => intro st; rfl
        | cons a l ih => intro st; show (rowD l (stepD st a)).1.length = _; rw [ih]; simp [stepD]
      rw [this]; exact h.len
    have hmem2 : ∀ x, x ∈ (ends ++ [(i' : Int)]) ++ (rowD (rowAt B i') (left, r)).2 ↔ (0 ≤ x ∧ x < e.length) ∧ nval e.length (ends ++ [(i' : Int)]) (rowAt e x) = 0 := by
      intro x
      have hsp := nval_split hine hii (rowAt e x)
      rw [List.mem_append, g2 x]
      have hm := h.mem x
      rw [List.mem_append, List.mem_cons] at hm
      rw [List.mem_append, List.mem_singleton]
      constructor
      · rintro ((hx | hx) | (hx | ⟨hx, hx2⟩))
        · obtain ⟨a, b⟩ := hm.1 (.inl hx); exact ⟨a, by omega⟩
        · obtain ⟨a, b⟩ := hm.1 (.inr (.inl hx)); exact ⟨a, by omega⟩
        · obtain ⟨a, b⟩ := hm.1 (.inr (.inr hx)); exact ⟨a, by omega⟩
        · have hxr := hbr x hx
          obtain ⟨x', rfl⟩ : ∃ x' : Nat, x = x' := ⟨x.toNat, by omega⟩
          rw [h.left x' (by omega), hcnt x' (by omega)] at hx2
          exact ⟨hxr, by omega⟩
      · rintro ⟨hxr, hz⟩
        by_cases h0 : nval e.length ends (rowAt e x) = 0
        · rcases hm.2 ⟨hxr, h0⟩ with hx | hx | hx
          · exact .inl (.inl hx)
          · exact .inl (.inr hx)
          · exact .inr (.inl hx)
        · obtain ⟨x', rfl⟩ : ∃ x' : Nat, x = x' := ⟨x.toNat, by omega⟩
          have hc := hcnt x' (by omega)
          refine .inr (.inr ⟨List.count_pos_iff.1 (by omega), ?_⟩)
          rw [h.left x' (by omega)]
          omega
    have hinv : DInv e (rowD (rowAt B i') (left, r)).1 (rowD (rowAt B i') (left, r)).2 (ends ++ [(i' : Int)]) := by
      refine ⟨hlen, fun q hq => ?_, ?_, hmem2, fun x hx => ?_⟩
      · rw [g1 q, h.left q hq, hcnt q hq]
        have := nval_split hine hii (rowAt e q)
        omega
      · rw [List.nodup_append]
        have hnd := h.nodup
        refine ⟨?_, g3, fun a ha b hb hab => ?_⟩
        · have : (ends ++ [(i' : Int)] ++ r).Nodup := by simpa using hnd
          exact (List.nodup_append.1 this).1
        · subst hab
          have hnd2 : (ends ++ [(i' : Int)] ++ r).Nodup := by simpa using hnd
          rcases (g2 a).1 hb with hb | ⟨hb, hb2⟩
          · exact (List.nodup_append.1 hnd2).2.2 a ha a hb rfl
          · have hxr := hbr a hb
            obtain ⟨x', rfl⟩ : ∃ x' : Nat, a = x' := ⟨a.toNat, by omega⟩
            have h1 := ((h.mem (x' : Int)).1 (by
              rcases List.mem_append.1 ha with ha | ha
              · simp [ha]
              · simp only [List.mem_singleton] at ha; simp [ha])).2
            have h3 := List.count_pos_iff.2 hb
            rw [h.left x' (by omega)] at hb2
            omega
      · exact h.all (by
          rcases List.mem_append.1 hx with hx | hx
          · simp [hx]
          · simp only [List.mem_singleton] at hx; simp [hx])
    obtain ⟨left', res, q1, q2⟩ := drain_inv hr hB hBi k hinv (by simp only [List.length_append, List.length_singleton]; omega)
    exact ⟨left', res, q1, q2⟩

/-- what the program's way comes to -/
theorem drain_ends {e : List (List Int)} (hr : ∀ l, l ∈ e → l.length ≤ 1000) : ∃ res, drain (partB e e.length).1.2 e.length (partB e e.length).1.1 (partB e e.length).2 [] = some res ∧ ∀ x, x ∈ res ↔ Ends e x := by
  have hi := partB_inv hr e.length (Nat.le_refl _)
  obtain ⟨hok, _, _⟩ := partB_ok hr e.length (Nat.le_refl _)
  obtain ⟨left', res, h1, h2⟩ := drain_inv hr hi.back (fun k hk => by
      obtain ⟨b, hb⟩ := some_at (l := (partB e e.length).1.2) (i := k) (by rw [hok.back]; exact hk)
      have : rowAt (partB e e.length).1.2 (k : Int) = b := by simp [rowAt, hb]
      rw [this]
      exact hok.inn b (List.mem_of_getElem? hb)) e.length (left := (partB e e.length).1.1) (free := (partB e e.length).2) (ends := [])
    ⟨hok.left, fun q hq => by rw [hi.left q, if_pos hq], by simpa using hi.nodup, fun x => by rw [List.nil_append, hi.free x]; exact ⟨fun ⟨a, b, c⟩ => ⟨⟨a, b⟩, c⟩, fun ⟨⟨a, b⟩, c⟩ => ⟨a, b, c⟩⟩, fun x hx => by cases hx⟩ (by simp)
  refine ⟨res, h1, fun x => ⟨fun hx => h2.sound x hx, fun hx => ?_⟩⟩
  induction hx with
  | mk i h0 h ih =>
    have := (h2.mem i).2 ⟨h0, nval_zero.2 fun k hk a b => ih k hk a b⟩
    simpa using this
end Go.Rt
end

/- Who is stuck: the document's way. -/
section
namespace Go.Rt
open Go.Vm

/-- may one of a row be passed over? -/
def pas (n : Nat) (E : List Int) (k : Int) : Prop := k < 0 ∨ (n : Int) ≤ k ∨ k ∈ E
instance (n : Nat) (E : List Int) (k : Int) : Decidable (pas n E k) := by unfold pas; infer_instance
def frP (e : List (List Int)) (E : List Int) (i : Nat) (l : List Int) : Prop := (i : Int) ∉ E ∧ ∀ k, k ∈ l → pas e.length E k
instance (e : List (List Int)) (E : List Int) (i : Nat) (l : List Int) : Decidable (frP e E i l) := by unfold frP; infer_instance
def swS (e : List (List Int)) (st : List Int × Bool) (i : Nat) : List Int × Bool := if frP e st.1 i (rowAt e i) then (st.1 ++ [(i : Int)], true) else st
def sweep (e : List (List Int)) (st : List Int × Bool) (i : Nat) : List Int × Bool := (List.range i).foldl (swS e) st
theorem sweep_next (e : List (List Int)) (st : List Int × Bool) (i : Nat) : sweep e st (i + 1) = swS e (sweep e st i) i := by
  unfold sweep; rw [List.range_succ, List.foldl_append]; rfl

structure JInv (e : List (List Int)) (E : List Int) : Prop where
  nodup : E.Nodup
  sound : ∀ x, x ∈ E → Ends e x
theorem Ends.range {e : List (List Int)} {x : Int} (h : Ends e x) : 0 ≤ x ∧ x < e.length := by cases h with | mk _ h0 _ => exact h0
theorem JInv.len {e : List (List Int)} {E : List Int} (h : JInv e E) : E.length ≤ e.length := range_len _ h.nodup fun x hx => (h.sound x hx).range
theorem swS_inv {e : List (List Int)} {st : List Int × Bool} {i : Nat} (hi : i < e.length) (h : JInv e st.1) : JInv e (swS e st i).1 := by
  unfold swS
  split
  · rename_i g
    refine ⟨?_, fun x hx => ?_⟩
    · rw [List.nodup_append]
      refine ⟨h.nodup, by simp, fun a ha b hb => ?_⟩
      simp only [List.mem_singleton] at hb
      subst hb
      rintro rfl
      exact g.1 ha
    · rcases List.mem_append.1 hx with hx | hx
      · exact h.sound x hx
      · simp only [List.mem_singleton] at hx
        subst hx
        refine .mk _ (by omega) fun k hk h0 h1 => ?_
        rcases g.2 k hk with h2 | h2 | h2
        · omega
        · omega
        · exact h.sound k h2
  · exact h
theorem sweep_inv {e : List (List Int)} {st : List Int × Bool} (h : JInv e st.1) : ∀ i, i ≤ e.length → JInv e (sweep e st i).1
  | 0, _ => h
  | i + 1, hi => by rw [sweep_next]; exact swS_inv (by omega) (sweep_inv h i (by omega))
/-- a sweep that finds nobody changes nothing; one that finds somebody makes the list longer -/
theorem sweep_told {e : List (List Int)} (E : List Int) : ∀ i, ((sweep e (E, false) i).2 = false → (sweep e (E, false) i).1 = E ∧ ∀ q : Nat, q < i → ¬frP e E q (rowAt e q)) ∧
    ((sweep e (E, false) i).2 = true → E.length < (sweep e (E, false) i).1.length) ∧ E.length ≤ (sweep e (E, false) i).1.length
  | 0 => ⟨fun _ => ⟨rfl, fun q h => by omega⟩, fun h => (by cases h), Nat.le_refl _⟩
  | i + 1 => by
    obtain ⟨h1, h2, h3⟩ := sweep_told (e := e) E i
    rw [sweep_next]
    unfold swS
    by_cases g : frP e (sweep e (E, false) i).1 i (rowAt e i)
    · rw [if_pos g]
      refine ⟨fun h => (by cases h), fun _ => ?_, ?_⟩
      · simp only [List.length_append, List.length_singleton]; omega
      · simp only [List.length_append, List.length_singleton]; omega
    · rw [if_neg g]
      refine ⟨fun h => ?_, h2, h3⟩
      obtain ⟨k1, k2⟩ := h1 h
      refine ⟨k1, fun q hq => ?_⟩
      by_cases hqi : q = i
      · subst hqi; rw [k1] at g; exact g
      · exact k2 q (by omega)
theorem closed_ends {e : List (List Int)} {E : List Int} (hJ : JInv e E) (hc : ∀ q : Nat, q < e.length → ¬frP e E q (rowAt e q)) (x : Int) : x ∈ E ↔ Ends e x := by
  refine ⟨hJ.sound x, fun h => ?_⟩
  induction h with
  | mk i h0 h ih =>
    obtain ⟨i', rfl⟩ : ∃ i' : Nat, i = i' := ⟨i.toNat, by omega⟩
    refine Classical.byContradiction fun hn => hc i' (by omega) ⟨hn, fun k hk => ?_⟩
    by_cases h1 : k < 0
    · exact .inl h1
    · by_cases h2 : (e.length : Int) ≤ k
      · exact .inr (.inl h2)
      · exact .inr (.inr (ih k hk (by omega) (by omega)))
theorem leftOut_congr {n : Nat} {E E' : List Int} (h : ∀ x, x ∈ E ↔ x ∈ E') : leftOut n E = leftOut n E' := by
  unfold leftOut
  refine List.filter_congr fun x _ => ?_
  simp only [h x]
end Go.Rt
end

/- Contracts: who is stuck, the document's way. -/
section
namespace Go.Rt
open Go.Vm

set_option maxHeartbeats 4000000 in
theorem ref12_Stuck_spec {e : List (List Int)} (he : RowsOk e) {ends : List Int} (hends : ∀ x, x ∈ ends ↔ Ends e x) :
    GSpec prog true n_ratlineref12_Stuck [.iv (rowsIV e)] [] (.sl 9 1 0 (intsC (leftOut e.length ends)).length) [(9, .list 1 (intsC (leftOut e.length ends)))] := by
  refine gspecN 9 1 (intsC (leftOut e.length ends)) ratlineref12_Stuck_is (by simp) (by decide) (intsC_flat _) ?_
  have hn := he.len
  simp -dsimp [ratlineref12_Stuck, rowsIV]
  refine loop_any (fun k s => ∃ (E : List Int) (more : Bool), k = (if more then e.length - E.length + 1 else 0) ∧ JInv e E ∧ (more = false → ∀ q : Nat, q < e.length → ¬frP e E q (rowAt e q)) ∧
    s = ⟨[(4, vb more), (3, .sl 3 1 0 E.length), (0, .iv (rowsIV e))], [(3, .list 1 (intsC E))]⟩) ⟨_, _, LeTo.le (D := [2]) ?_, [], true, rfl, ⟨by simp, by simp⟩, by simp, rfl⟩ ?_
  · simp [rowsIV, intsC]
  · rintro k s ⟨E, more, rfl, hJ, hc, rfl⟩
    cases more with
    | false =>
      have hmem := closed_ends hJ (hc rfl)
      have hlo : leftOut e.length ends = leftOut e.length E := leftOut_congr fun x => (hends x).trans (hmem x).symm
      rw [hlo]
      simp -dsimp [ratlineref12_Stuck_l19, rowsIV]
      refine loop_idx [] [71] e.length (fun j => ⟨[(10, vi j), (9, .sl 9 1 0 (leftOut j E).length), (3, .sl 3 1 0 E.length), (0, .iv (rowsIV e))],
        [(9, .list 1 (intsC (leftOut j E))), (3, .list 1 (intsC E))]⟩) (fun _ => True) ?_ trivial ?_
      · simp [leftOut, intsC, rowsIV]
      · intro j hj _
        by_cases hjl : j < e.length
        · have hjl2 : ¬e.length ≤ j := by omega
          have hjw := wrap_in (n := (j : Int) + 1) (by omega)
          have hlo := leftOut_len j E
          have hnx := leftOut_next E j
          simp -dsimp [ratlineref12_Stuck_l26, rowsIV, hjl2]
          intro _
          refine call_pure (ref12_in_spec E j (by have := hJ.len; omega)) (by simp [intsIV, List.take_of_length_le]) (by simp) ?_
          by_cases hje : (j : Int) ∈ E
          · rw [if_pos hje] at hnx
            simp -dsimp [rowsIV, hje, hjw, hnx]
            exact hjl
          · rw [if_neg hje] at hnx
            simp -dsimp [rowsIV, hje, hjw, hnx]
            exact ⟨by omega, by omega, hjl, by simp [intsC]⟩
        · have hje : j = e.length := by omega
          subst hje
          simp -dsimp [ratlineref12_Stuck_l26, rowsIV]
    | true =>
      simp -dsimp [ratlineref12_Stuck_l19, rowsIV]
      have hsJ := fun j hj => sweep_inv (e := e) (st := (E, false)) hJ j hj
      refine loop_idx [] [57] e.length (fun j => ⟨[(5, vi j), (4, vb (sweep e (E, false) j).2), (3, .sl 3 1 0 (sweep e (E, false) j).1.length), (0, .iv (rowsIV e))],
        [(3, .list 1 (intsC (sweep e (E, false) j).1))]⟩) (fun _ => True) ?_ trivial ?_
      · simp [sweep, rowsIV]
      · intro j hj _
        by_cases hjl : j < e.length
        · have hjl2 : ¬e.length ≤ j := by omega
          have hjw := wrap_in (n := (j : Int) + 1) (by omega)
          have hJj := hsJ j hj
          have hnx := sweep_next e (E, false) j
          obtain ⟨row, hrow⟩ := some_at hjl
          have hrl := he.rows row (List.mem_of_getElem? hrow)
          have hre : rowAt e (j : Int) = row := rowAt_get hrow
          generalize sweep e (E, false) j = st at *
          obtain ⟨E1, m1⟩ := st
          have hEl := hJj.len
          simp only at hEl
          simp -dsimp [ratlineref12_Stuck_l18, rowsIV, hjl2]
          intro _
          refine call_pure (ref12_in_spec E1 j (by omega)) (by simp [intsIV, List.take_of_length_le]) (by simp) ?_
          simp -dsimp
          refine loop_idx [] [] row.length (fun q => ⟨[(7, vi q), (6, vb (decide (frP e E1 j (row.take q)))), (5, vi j), (4, vb m1), (3, .sl 3 1 0 E1.length), (0, .iv (rowsIV e))], [(3, .list 1 (intsC E1))]⟩) (fun _ => True) ?_ trivial ?_
          · simp [frP, rowsIV]
          · intro q hq _
            have hnx' : sweep e (E, false) (j + 1) = if frP e E1 j row then (E1 ++ [(j : Int)], true) else (E1, m1) := by rw [hnx]; unfold swS; simp only [hre]
            by_cases hql : q < row.length
            · have hql2 : ¬row.length ≤ q := by omega
              obtain ⟨k, hk⟩ := some_at hql
              have hqw := wrap_in (n := (q : Int) + 1) (by omega)
              have htk := take_next' hk
              by_cases hfr : frP e E1 j (row.take q)
              · have hfn : frP e E1 j (row.take (q + 1)) ↔ pas e.length E1 k := by
                  rw [htk]
                  constructor
                  · intro h; exact h.2 k (by simp)
                  · intro h
                    refine ⟨hfr.1, fun x hx => ?_⟩
                    rcases List.mem_append.1 hx with hx | hx
                    · exact hfr.2 x hx
                    · simp only [List.mem_singleton] at hx; subst hx; exact h
                have hdec : decide (frP e E1 j (row.take (q + 1))) = decide (pas e.length E1 k) := by rw [decide_eq_decide]; exact hfn
                by_cases k0 : k < 0
                · have hp : pas e.length E1 k := .inl k0
                  simp -dsimp [ratlineref12_Stuck_l13, rowsIV, hrow, hql2, hfr, hk, k0, hqw, hdec, hp]
                · by_cases k1 : (e.length : Int) ≤ k
                  · have hp : pas e.length E1 k := .inr (.inl k1)
                    simp -dsimp [ratlineref12_Stuck_l13, rowsIV, hrow, hql2, hfr, hk, k0, k1, hqw, hdec, hp]
                  · have hp : pas e.length E1 k ↔ k ∈ E1 := ⟨fun h => (h.resolve_left k0).resolve_left k1, fun h => .inr (.inr h)⟩
                    simp -dsimp [ratlineref12_Stuck_l13, rowsIV, hrow, hql2, hfr, hk, k0, k1]
                    intro _
                    refine call_pure (ref12_in_spec E1 k (by omega)) (by simp [intsIV, List.take_of_length_le]) (by simp) ?_
                    simp -dsimp [hqw, hdec, hp, rowsIV, hql]
              · have hnf : ¬frP e E1 j row := fun h => hfr ⟨h.1, fun x hx => h.2 x (List.mem_of_mem_take hx)⟩
                rw [if_neg hnf] at hnx'
                simp -dsimp [ratlineref12_Stuck_l13, rowsIV, hrow, hql2, hfr, hk, hnx', hjw]
                exact fun _ => hjl
            · have hqe : q = row.length := by omega
              subst hqe
              simp only [List.take_length]
              by_cases hfr : frP e E1 j row
              · rw [if_pos hfr] at hnx'
                simp -dsimp [ratlineref12_Stuck_l13, rowsIV, hrow, hfr, hnx', hjw]
                exact ⟨by omega, by omega, hjl, by simp [intsC]⟩
              · rw [if_neg hfr] at hnx'
                simp -dsimp [ratlineref12_Stuck_l13, rowsIV, hrow, hfr, hnx', hjw]
                exact hjl
        · have hje : j = e.length := by omega
          subst hje
          simp -dsimp [ratlineref12_Stuck_l18, rowsIV]
          obtain ⟨t1, t2, t3⟩ := sweep_told (e := e) E e.length
          have hJn := hsJ e.length (Nat.le_refl _)
          have hJl := hJn.len
          cases hm : (sweep e (E, false) e.length).2 with
          | false =>
            obtain ⟨q1, q2⟩ := t1 hm
            refine ⟨0, by omega, _, LeTo.le (D := []) ?_, (sweep e (E, false) e.length).1, .inl ⟨rfl, hJn, by rw [q1]; exact q2, rfl⟩⟩
            simp [rowsIV]
          | true =>
            have := t2 hm
            refine ⟨_, ?_, _, LeTo.le (D := []) ?_, (sweep e (E, false) e.length).1, .inr ⟨rfl, hJn, rfl⟩⟩
            · omega
            · simp [rowsIV]
end Go.Rt
end

/- Contract: the statement about who is stuck. -/
section
namespace Go.Rt
open Go.Vm

theorem Small.ok {e : List (List Int)} {many : Nat} (h : Small e many) (hm : many ≤ 1000) : RowsOk e := ⟨by have := h.1; omega, fun l hl => by have := h.2 l hl; omega⟩
/-- who is stuck -/
theorem Stuck_any {e : List (List Int)} (he : RowsOk e) : ∃ out : List Int, out.length ≤ e.length ∧ (∀ x, x ∈ out ↔ (0 ≤ x ∧ x < e.length) ∧ ¬Ends e x) ∧
    (∀ d, GSpec prog true n_waits_Stuck [.iv (rowsIV e)] [] (.sl d 1 0 out.length) [(d, .list 1 (intsC out))]) ∧
    ∀ d, GSpec prog true n_ratlineref12_Stuck [.iv (rowsIV e)] [] (.sl d 1 0 out.length) [(d, .list 1 (intsC out))] := by
  obtain ⟨ends, h1, h2⟩ := drain_ends he.rows
  refine ⟨leftOut e.length ends, leftOut_len _ _, fun x => ?_, fun d => ?_, fun d => ?_⟩
  · unfold leftOut
    rw [List.mem_filter, List.mem_map]
    simp only [decide_eq_true_eq, h2]
    constructor
    · rintro ⟨⟨i, hi, rfl⟩, h⟩
      have := List.mem_range.1 hi
      exact ⟨by omega, h⟩
    · rintro ⟨h3, h4⟩
      exact ⟨⟨x.toNat, List.mem_range.2 (by omega), by omega⟩, h4⟩
  · have := Stuck_spec he (K := e.length) (by have := he.len; omega) h1
    rw [intsC_len] at this
    exact this.fresh d rfl fun ρ => rfl
  · have := ref12_Stuck_spec he h2
    rw [intsC_len] at this
    exact this.fresh d rfl fun ρ => rfl

theorem WaitsStuck_spec (e : List (List Int)) (he : e.length < 2 ^ 63) : GSpec prog true n_ratlinelaw12_WaitsStuck [.iv (rowsIV e)] [] (vb true) [] := by
  refine gspec1 ratlinelaw12_WaitsStuck_is (by simp) (by decide) rfl ?_
  simp -dsimp [ratlinelaw12_WaitsStuck, rowsIV]
  refine call_pure awake_spec (by simp) (by simp) ?_
  simp -dsimp
  refine call_pure (law12_small_spec e 40 he) (by simp [rowsIV]) (by simp) ?_
  simp -dsimp
  intro hs
  obtain ⟨out, hl, _, g1, g2⟩ := Stuck_any (hs.ok (by decide))
  have hle := hs.1
  refine call_new (g1 13) (by decide) (by simp [rowsIV]) (by simp) ?_
  simp -dsimp
  refine call_new (g2 15) (by decide) (by simp [rowsIV]) (by simp) ?_
  simp -dsimp
  refine call_pure (ref10_Ints_spec out out (by omega)) (by simp [intsIV, List.take_of_length_le]) (by simp) ?_
  simp -dsimp
end Go.Rt
end
