/- Contracts of functions of the program, and what they lean on. Conditions: those of each theorem. -/
import Derived.Test.YtoiegcefpofheaaPC
import Derived.Test.YtoiegcefpofheaaPD
import Derived.Test.YtoiegcefpofheaaPF

set_option linter.unusedVariables false
set_option linter.unusedSimpArgs false

/- The document's ways, as data. -/
section
namespace Go.Rt
open Go.Vm

def firstNE : List (List Int) → List Int
  | [] => []
  | x :: r => if x = [] then firstNE r else x
def lastI (l : List Int) : Int := (l.getLast?).getD 0
def wayM (e : List (List Int)) : Nat → List Int → List Int
  | 0, l => if l.headD 0 ∈ rowAt e (lastI l) then l else []
  | s + 1, l => firstNE ((List.range e.length).map fun k : Nat => if (k : Int) ∈ l ∨ (k : Int) ∉ rowAt e (lastI l) then [] else wayM e s (l ++ [(k : Int)]))
def refCyc (e : List (List Int)) (start : Int) : List Int :=
  if 0 ≤ start ∧ start < e.length then firstNE ((List.range e.length).map fun n : Nat => wayM e n [start]) else []
/-- the first so many -/
def firstTo (f : Nat → List Int) (j : Nat) : List Int := firstNE ((List.range j).map f)
theorem firstNE_append (a b : List (List Int)) : firstNE (a ++ b) = if firstNE a = [] then firstNE b else firstNE a := by
  induction a with
  | nil => simp [firstNE]
  | cons x r ih =>
    simp only [List.cons_append, firstNE]
    by_cases h : x = [] <;> simp [h, ih]
theorem firstTo_next (f : Nat → List Int) (j : Nat) : firstTo f (j + 1) = if firstTo f j = [] then f j else firstTo f j := by
  unfold firstTo
  rw [List.range_succ, List.map_append, firstNE_append]
  by_cases h : f j = [] <;> simp [firstNE, h]
theorem firstTo_stays {f : Nat → List Int} {j n : Nat} (h : firstTo f j ≠ []) (hn : j ≤ n) : firstTo f n = firstTo f j := by
  induction n with
  | zero => have : j = 0 := by omega
            subst this; rfl
  | succ n ih =>
    by_cases e : j = n + 1
    · subst e; rfl
    · rw [firstTo_next, ih (by omega), if_neg h]
end Go.Rt
end

/- Contracts: the document's ways and cycles. -/
section
namespace Go.Rt
open Go.Vm

set_option maxHeartbeats 4000000 in
theorem ref12_way_spec {e : List (List Int)} (he : RowsOk e) : ∀ (s : Nat) (l : List Int), l ≠ [] → Inn e.length l → l.length + s ≤ 2000 →
    GSpec prog false n_ratlineref12_way [.iv (rowsIV e), .iv (intsIV l), vi s] [] (.iv (intsIV (wayM e s l))) [] := by
  have hn := he.len
  intro s
  induction s with
  | zero =>
    intro l hne hin hl
    refine gspec1L [6] ratlineref12_way_is (by simp) (by decide) ?_
    have hpos := List.length_pos_iff.2 hne
    obtain ⟨a, ha⟩ : ∃ a, l[l.length - 1]? = some a := some_at (by omega)
    have har := hin a (List.mem_of_getElem? ha)
    obtain ⟨a', rfl⟩ : ∃ a' : Nat, a = a' := ⟨a.toNat, by omega⟩
    obtain ⟨row, hrow⟩ : ∃ row, e[a']? = some row := some_at (by omega)
    have hrl := he.rows row (List.mem_of_getElem? hrow)
    obtain ⟨b, hb⟩ : ∃ b, l[0]? = some b := some_at hpos
    have hw := wrap_in (n := (l.length : Int) - 1) (by omega)
    have hti : ((l.length : Int) - 1).toNat = l.length - 1 := by omega
    have hm : wayM e 0 l = if b ∈ row then l else [] := by
      have h1 : l.headD 0 = b := by cases l with | nil => exact absurd rfl hne | cons x r => simpa using hb
      have h2 : lastI l = (a' : Int) := by unfold lastI; rw [List.getLast?_eq_getElem?, ha]; rfl
      show (if l.headD 0 ∈ rowAt e (lastI l) then l else []) = _
      rw [h1, h2, rowAt_get hrow]
    rw [hm]
    simp -dsimp [ratlineref12_way, rowsIV, intsIV, hw, hti, ha, hb, hrow]
    refine ⟨by omega, ?_⟩
    refine call_pure (ref12_in_spec row b (by omega)) (by simp [intsIV]) (by simp) ?_
    by_cases hbr : b ∈ row
    · simp -dsimp [hbr]
    · simp -dsimp [hbr]
      simp [intsC]
  | succ s ih =>
    intro l hne hin hl
    refine gspec1L [6, 9] ratlineref12_way_is (by simp) (by decide) ?_
    have hpos := List.length_pos_iff.2 hne
    obtain ⟨a, ha⟩ : ∃ a, l[l.length - 1]? = some a := some_at (by omega)
    have har := hin a (List.mem_of_getElem? ha)
    obtain ⟨a', rfl⟩ : ∃ a' : Nat, a = a' := ⟨a.toNat, by omega⟩
    obtain ⟨row, hrow⟩ : ∃ row, e[a']? = some row := some_at (by omega)
    have hrl := he.rows row (List.mem_of_getElem? hrow)
    have hw := wrap_in (n := (l.length : Int) - 1) (by omega)
    have hti : ((l.length : Int) - 1).toNat = l.length - 1 := by omega
    have hs0 : ¬(s : Int) + 1 = 0 := by omega
    have h2 : lastI l = (a' : Int) := by unfold lastI; rw [List.getLast?_eq_getElem?, ha]; rfl
    have hm : wayM e (s + 1) l = firstTo (fun k => if (k : Int) ∈ l ∨ (k : Int) ∉ row then [] else wayM e s (l ++ [(k : Int)])) e.length := by
      show firstNE ((List.range e.length).map fun k : Nat => if (k : Int) ∈ l ∨ (k : Int) ∉ rowAt e (lastI l) then [] else wayM e s (l ++ [(k : Int)])) = _
      rw [h2, rowAt_get hrow]; rfl
    generalize hF : (fun k : Nat => if (k : Int) ∈ l ∨ (k : Int) ∉ row then [] else wayM e s (l ++ [(k : Int)])) = F at hm
    have hFk : ∀ k : Nat, F k = if (k : Int) ∈ l ∨ (k : Int) ∉ row then [] else wayM e s (l ++ [(k : Int)]) := fun k => by rw [← hF]
    rw [hm]
    simp -dsimp [ratlineref12_way, rowsIV, intsIV, hw, hti, ha, hrow, hs0]
    refine ⟨by omega, ?_⟩
    refine loop_idx [6] [9, 51] e.length (fun k => ⟨[(8, vi k), (7, vi a'), (0, .iv (rowsIV e)), (1, .iv (.lst 1 (intsC l))), (2, vi ((s : Int) + 1))], []⟩) (fun k => firstTo F k = []) ?_ rfl ?_
    · simp [rowsIV]
    · intro k hk hQ
      by_cases hkl : k < e.length
      · have hkl2 : ¬e.length ≤ k := by omega
        have hkw := wrap_in (n := (k : Int) + 1) (by omega)
        have hnx := firstTo_next F k
        rw [if_pos hQ, hFk k] at hnx
        have hsw := wrap_in (n := (s : Int) + 1 - 1) (by omega)
        simp -dsimp [ratlineref12_way_l16, rowsIV, hkl2]
        intro _
        refine call_pure (ref12_in_spec l k (by omega)) (by simp [intsIV]) (by simp) ?_
        by_cases hkm : (k : Int) ∈ l
        · rw [if_pos (.inl hkm)] at hnx
          simp -dsimp [hkm, hkw, rowsIV, hnx]
          exact hkl
        · simp -dsimp [hkm, hrow, rowsIV]
          refine call_pure (ref12_in_spec row k (by omega)) (by simp [intsIV]) (by simp) ?_
          by_cases hkr : (k : Int) ∈ row
          · rw [if_neg (by rintro (h | h); exact hkm h; exact h hkr)] at hnx
            simp -dsimp [hkr, rowsIV]
            refine ⟨by omega, by omega, by omega, by omega, ?_⟩
            refine call_mut (ih (l ++ [(k : Int)]) (by simp) (fun x hx => ?_) (by simp; omega)) rfl (by simp) ?_ (by simp) (by simp) (by simp) (by simp) (by simp) ?_
            · rcases List.mem_append.1 hx with hx | hx
              · exact hin x hx
              · simp only [List.mem_singleton] at hx; omega
            · simp [rowsIV, intsIV, intsC, hsw]
              exact ⟨List.take_of_length_le (by simp), wrap_in (by omega)⟩
            · by_cases hwy : wayM e s (l ++ [(k : Int)]) = []
              · rw [hwy] at hnx ⊢
                simp -dsimp [rowsIV, intsIV, intsC, hkw, hnx]
                exact hkl
              · have hst := firstTo_stays (f := F) (j := k + 1) (n := e.length) (by rw [hnx]; exact hwy) (by omega)
                rw [hnx] at hst
                have hwp := List.length_pos_iff.2 hwy
                rw [hst]
                simp -dsimp [rowsIV, intsIV, hwp]
          · rw [if_pos (.inr hkr)] at hnx
            simp -dsimp [hkr, hkw, rowsIV, hnx]
            exact hkl
      · have hke : k = e.length := by omega
        subst hke
        rw [hQ]
        simp -dsimp [ratlineref12_way_l16, rowsIV]
        simp [intsC]

set_option maxHeartbeats 4000000 in
theorem ref12_Cycle_spec {e : List (List Int)} (he : RowsOk e) (start : Int) : GSpec prog false n_ratlineref12_Cycle [.iv (rowsIV e), vi start] [] (.iv (intsIV (refCyc e start))) [] := by
  refine gspec1L [4, 23] ratlineref12_Cycle_is (by simp) (by decide) ?_
  have hn := he.len
  unfold refCyc
  by_cases hr : 0 ≤ start ∧ start < e.length
  · rw [if_pos hr]
    have n1 : ¬start < 0 := by omega
    have n2 : ¬(e.length : Int) ≤ start := by omega
    generalize hF : (fun n : Nat => wayM e n [start]) = F
    have hFk : ∀ k : Nat, F k = wayM e k [start] := fun k => by rw [← hF]
    show wpV prog _ _ ⟨EndD [4, 23] 4 (intsIV (firstTo F e.length)), _, EndD [4, 23] 4 (intsIV (firstTo F e.length)), _⟩
    simp -dsimp [ratlineref12_Cycle, rowsIV, intsIV, n1, n2]
    refine loop_idx [4] [23] e.length (fun k => ⟨[(5, vi k), (0, .iv (rowsIV e)), (1, vi start)], []⟩) (fun k => firstTo F k = []) ?_ rfl ?_
    · simp [rowsIV]
    · intro k hk hQ
      by_cases hkl : k < e.length
      · have hkl2 : ¬e.length ≤ k := by omega
        have hkw := wrap_in (n := (k : Int) + 1) (by omega)
        have hnx := firstTo_next F k
        rw [if_pos hQ, hFk k] at hnx
        simp -dsimp [ratlineref12_Cycle_l9, rowsIV, hkl2]
        intro _
        refine call_mut (ref12_way_spec he k [start] (by simp) (fun x hx => ?_) (by simp; omega)) rfl (by simp) ?_ (by simp) (by simp) (by simp) (by simp) (by simp) ?_
        · simp only [List.mem_singleton] at hx; subst hx; exact hr
        · simp [rowsIV, intsIV, intsC]
        · by_cases hwy : wayM e k [start] = []
          · rw [hwy] at hnx ⊢
            simp -dsimp [rowsIV, intsIV, intsC, hkw, hnx]
            exact hkl
          · have hst := firstTo_stays (f := F) (j := k + 1) (n := e.length) (by rw [hnx]; exact hwy) (by omega)
            rw [hnx] at hst
            have hwp := List.length_pos_iff.2 hwy
            rw [hst]
            simp -dsimp [rowsIV, intsIV, hwp]
      · have hke : k = e.length := by omega
        subst hke
        rw [hQ]
        simp -dsimp [ratlineref12_Cycle_l9, rowsIV]
        simp [intsC]
  · rw [if_neg hr]
    by_cases h1 : start < 0
    · simp -dsimp [ratlineref12_Cycle, rowsIV, intsIV, intsC, h1]
    · have h2 : (e.length : Int) ≤ start := by omega
      simp -dsimp [ratlineref12_Cycle, rowsIV, intsIV, intsC, h1, h2]
end Go.Rt
end

/- Layers and ways: the first way that closes is the same. No program in sight. -/
section
namespace Go.Rt
open Go.Vm

theorem lastI_snoc (p : List Int) (k : Int) : lastI (p ++ [k]) = k := by simp [lastI]
/-- the first ones, by where they end -/
def firsts : List Int → List (List Int) → List (List Int)
  | _, [] => []
  | S, p :: r => if lastI p ∈ S then firsts S r else p :: firsts (lastI p :: S) r
def after : List Int → List (List Int) → List Int
  | S, [] => S
  | S, p :: r => if lastI p ∈ S then after S r else after (lastI p :: S) r
theorem firsts_cons (S p : List Int) (r : List (List Int)) : firsts S (p :: r) = if lastI p ∈ S then firsts S r else p :: firsts (lastI p :: S) r := rfl
theorem after_cons (S p : List Int) (r : List (List Int)) : after S (p :: r) = if lastI p ∈ S then after S r else after (lastI p :: S) r := rfl
theorem after_mem (l : List (List Int)) : ∀ (S : List Int) (x : Int), x ∈ after S l ↔ x ∈ S ∨ ∃ p, p ∈ l ∧ lastI p = x := by
  induction l with
  | nil => intro S x; simp [after]
  | cons p r ih =>
    intro S x
    unfold after
    by_cases h : lastI p ∈ S
    · rw [if_pos h, ih]
      constructor
      · rintro (hx | ⟨q, hq, hx⟩)
        · exact .inl hx
        · exact .inr ⟨q, List.mem_cons_of_mem _ hq, hx⟩
      · rintro (hx | ⟨q, hq, hx⟩)
        · exact .inl hx
        · rcases List.mem_cons.1 hq with rfl | hq
          · exact .inl (hx ▸ h)
          · exact .inr ⟨q, hq, hx⟩
    · rw [if_neg h, ih]
      constructor
      · rintro (hx | ⟨q, hq, hx⟩)
        · rcases List.mem_cons.1 hx with rfl | hx
          · exact .inr ⟨p, List.mem_cons_self, rfl⟩
          · exact .inl hx
        · exact .inr ⟨q, List.mem_cons_of_mem _ hq, hx⟩
      · rintro (hx | ⟨q, hq, hx⟩)
        · exact .inl (List.mem_cons_of_mem _ hx)
        · rcases List.mem_cons.1 hq with rfl | hq
          · exact .inl (hx ▸ List.mem_cons_self)
          · exact .inr ⟨q, hq, hx⟩
theorem firsts_append (a : List (List Int)) : ∀ (S : List Int) (b : List (List Int)), firsts S (a ++ b) = firsts S a ++ firsts (after S a) b := by
  induction a with
  | nil => intro S b; rfl
  | cons p r ih =>
    intro S b
    rw [List.cons_append, firsts_cons, firsts_cons, after_cons]
    by_cases h : lastI p ∈ S
    · rw [if_pos h, if_pos h, if_pos h]; exact ih S b
    · rw [if_neg h, if_neg h, if_neg h, ih]; rfl
theorem firsts_congr (l : List (List Int)) : ∀ {S S' : List Int}, (∀ x, x ∈ S ↔ x ∈ S') → firsts S l = firsts S' l := by
  induction l with
  | nil => intro S S' _; rfl
  | cons p r ih =>
    intro S S' h
    unfold firsts
    by_cases hp : lastI p ∈ S
    · rw [if_pos hp, if_pos ((h _).1 hp)]; exact ih h
    · rw [if_neg hp, if_neg fun h' => hp ((h _).2 h')]
      rw [ih (S := lastI p :: S) (S' := lastI p :: S') fun x => by simp [h x]]
theorem firsts_skip (l : List (List Int)) : ∀ {S : List Int}, (∀ p, p ∈ l → lastI p ∈ S) → firsts S l = [] := by
  induction l with
  | nil => intro S _; rfl
  | cons p r ih =>
    intro S h
    unfold firsts
    rw [if_pos (h p List.mem_cons_self)]
    exact ih fun q hq => h q (List.mem_cons_of_mem _ hq)
theorem firsts_sub (l : List (List Int)) : ∀ {S : List Int} {p : List Int}, p ∈ firsts S l → p ∈ l ∧ lastI p ∉ S := by
  induction l with
  | nil => intro S p h; cases h
  | cons q r ih =>
    intro S p h
    unfold firsts at h
    by_cases hq : lastI q ∈ S
    · rw [if_pos hq] at h
      obtain ⟨h1, h2⟩ := ih h
      exact ⟨List.mem_cons_of_mem _ h1, h2⟩
    · rw [if_neg hq] at h
      rcases List.mem_cons.1 h with rfl | h
      · exact ⟨List.mem_cons_self, hq⟩
      · obtain ⟨h1, h2⟩ := ih h
        exact ⟨List.mem_cons_of_mem _ h1, fun h' => h2 (List.mem_cons_of_mem _ h')⟩
theorem firsts_has (l : List (List Int)) : ∀ {S : List Int} {p : List Int}, p ∈ l → lastI p ∈ S ∨ ∃ q, q ∈ firsts S l ∧ lastI q = lastI p := by
  induction l with
  | nil => intro S p h; cases h
  | cons q r ih =>
    intro S p h
    unfold firsts
    by_cases hq : lastI q ∈ S
    · rw [if_pos hq]
      rcases List.mem_cons.1 h with rfl | h
      · exact .inl hq
      · exact ih h
    · rw [if_neg hq]
      rcases List.mem_cons.1 h with rfl | h
      · exact .inr ⟨p, List.mem_cons_self, rfl⟩
      · rcases ih (S := lastI q :: S) h with h' | ⟨q', h1, h2⟩
        · rcases List.mem_cons.1 h' with h' | h'
          · exact .inr ⟨q, List.mem_cons_self, h'.symm⟩
          · exact .inl h'
        · exact .inr ⟨q', List.mem_cons_of_mem _ h1, h2⟩
theorem firsts_nodup (l : List (List Int)) : ∀ {S : List Int}, ((firsts S l).map lastI).Nodup := by
  induction l with
  | nil => intro S; simp [firsts]
  | cons q r ih =>
    intro S
    unfold firsts
    by_cases hq : lastI q ∈ S
    · rw [if_pos hq]; exact ih
    · rw [if_neg hq, List.map_cons, List.nodup_cons]
      refine ⟨fun h => ?_, ih⟩
      obtain ⟨p, hp, he⟩ := List.mem_map.1 h
      exact (firsts_sub r hp).2 (he ▸ List.mem_cons_self)
/-- the first that closes is the same where none that was passed over closes -/
theorem find_firsts (c : Int → Bool) (l : List (List Int)) : ∀ {S : List Int}, (∀ x, x ∈ S → c x = false) → (firsts S l).find? (fun p => c (lastI p)) = l.find? fun p => c (lastI p) := by
  induction l with
  | nil => intro S _; rfl
  | cons q r ih =>
    intro S h
    unfold firsts
    by_cases hq : lastI q ∈ S
    · rw [if_pos hq, ih h]
      simp [h _ hq]
    · rw [if_neg hq]
      cases hc : c (lastI q) with
      | true => simp [hc]
      | false =>
        simp only [List.find?_cons, hc]
        exact ih fun x hx => by
          rcases List.mem_cons.1 hx with rfl | hx
          · exact hc
          · exact h x hx

/- numbers in order -/
def fi : List Int → List Int → List Int
  | _, [] => []
  | S, k :: r => if k ∈ S then fi S r else k :: fi (k :: S) r
theorem fi_mem (l : List Int) : ∀ (S : List Int) (x : Int), x ∈ fi S l ↔ x ∈ l ∧ x ∉ S := by
  induction l with
  | nil => intro S x; simp [fi]
  | cons k r ih =>
    intro S x
    unfold fi
    by_cases h : k ∈ S
    · rw [if_pos h, ih]
      constructor
      · rintro ⟨h1, h2⟩; exact ⟨List.mem_cons_of_mem _ h1, h2⟩
      · rintro ⟨h1, h2⟩
        rcases List.mem_cons.1 h1 with rfl | h1
        · exact absurd h h2
        · exact ⟨h1, h2⟩
    · rw [if_neg h, List.mem_cons, ih]
      constructor
      · rintro (rfl | ⟨h1, h2⟩)
        · exact ⟨List.mem_cons_self, h⟩
        · exact ⟨List.mem_cons_of_mem _ h1, fun h' => h2 (List.mem_cons_of_mem _ h')⟩
      · rintro ⟨h1, h2⟩
        by_cases hx : x = k
        · exact .inl hx
        · exact .inr ⟨(List.mem_cons.1 h1).resolve_left hx, fun h' => h2 ((List.mem_cons.1 h').resolve_left hx)⟩
theorem fi_lt (l : List Int) : ∀ (S : List Int), l.Pairwise (· ≤ ·) → (fi S l).Pairwise (· < ·) := by
  induction l with
  | nil => intro S _; exact .nil
  | cons k r ih =>
    intro S h
    obtain ⟨h1, h2⟩ := List.pairwise_cons.1 h
    unfold fi
    by_cases hk : k ∈ S
    · rw [if_pos hk]; exact ih S h2
    · rw [if_neg hk, List.pairwise_cons]
      refine ⟨fun x hx => ?_, ih _ h2⟩
      obtain ⟨g1, g2⟩ := (fi_mem r _ x).1 hx
      have := h1 x g1
      have : x ≠ k := fun e => g2 (e ▸ List.mem_cons_self)
      omega
theorem sorted_eq : ∀ {a b : List Int}, a.Pairwise (· < ·) → b.Pairwise (· < ·) → (∀ x, x ∈ a ↔ x ∈ b) → a = b
  | [], [], _, _, _ => rfl
  | [], y :: b, _, _, h => by have := (h y).2 List.mem_cons_self; cases this
  | x :: a, [], _, _, h => by have := (h x).1 List.mem_cons_self; cases this
  | x :: a, y :: b, ha, hb, h => by
    obtain ⟨a1, a2⟩ := List.pairwise_cons.1 ha
    obtain ⟨b1, b2⟩ := List.pairwise_cons.1 hb
    have hxy : x = y := by
      rcases List.mem_cons.1 ((h x).1 List.mem_cons_self) with h1 | h1
      · exact h1
      · rcases List.mem_cons.1 ((h y).2 List.mem_cons_self) with h2 | h2
        · exact h2.symm
        · have := b1 x h1; have := a1 y h2; omega
    subst hxy
    rw [sorted_eq a2 b2 fun z => ?_]
    constructor
    · intro hz
      rcases List.mem_cons.1 ((h z).1 (List.mem_cons_of_mem _ hz)) with rfl | h1
      · have := a1 z hz; omega
      · exact h1
    · intro hz
      rcases List.mem_cons.1 ((h z).2 (List.mem_cons_of_mem _ hz)) with rfl | h1
      · have := b1 z hz; omega
      · exact h1
def onto (p ks : List Int) : List (List Int) := ks.map fun k : Int => p ++ [k]
theorem firsts_onto (p : List Int) (ks : List Int) : ∀ S, firsts S (onto p ks) = onto p (fi S ks) := by
  induction ks with
  | nil => intro S; rfl
  | cons k r ih =>
    intro S
    show firsts S ((p ++ [k]) :: onto p r) = onto p (if k ∈ S then fi S r else k :: fi (k :: S) r)
    rw [firsts_cons, lastI_snoc]
    by_cases h : k ∈ S
    · rw [if_pos h, if_pos h]; exact ih S
    · rw [if_neg h, if_neg h, ih]; rfl

section
variable (e : List (List Int))
def ks1 (p : List Int) : List Int := ((List.range e.length).map fun k : Nat => (k : Int)).filter fun k : Int => decide (k ∉ p ∧ k ∈ rowAt e (lastI p))
def ks2 (p : List Int) : List Int := (sortI (rowAt e (lastI p))).filter fun k : Int => decide (0 ≤ k ∧ k < e.length)
def ext1 (p : List Int) : List (List Int) := onto p (ks1 e p)
def ext2 (p : List Int) : List (List Int) := onto p (ks2 e p)
variable {e}
theorem ks1_mem (p : List Int) (k : Int) : k ∈ ks1 e p ↔ (0 ≤ k ∧ k < e.length) ∧ k ∈ rowAt e (lastI p) ∧ k ∉ p := by
  unfold ks1
  rw [List.mem_filter, List.mem_map]
  simp only [decide_eq_true_eq]
  constructor
  · rintro ⟨⟨i, hi, rfl⟩, h1, h2⟩
    have := List.mem_range.1 hi
    exact ⟨by omega, h2, h1⟩
  · rintro ⟨h0, h1, h2⟩
    exact ⟨⟨k.toNat, List.mem_range.2 (by omega), by omega⟩, h2, h1⟩
theorem ks2_mem (p : List Int) (k : Int) : k ∈ ks2 e p ↔ (0 ≤ k ∧ k < e.length) ∧ k ∈ rowAt e (lastI p) := by
  unfold ks2
  rw [List.mem_filter]
  simp only [decide_eq_true_eq, sortI, List.mem_mergeSort]
  exact And.comm
theorem ks1_sorted (p : List Int) : (ks1 e p).Pairwise (· ≤ ·) := by
  unfold ks1
  refine List.Pairwise.filter _ ?_
  rw [List.pairwise_map]
  exact List.pairwise_lt_range.imp fun h => by omega
theorem ks2_sorted (p : List Int) : (ks2 e p).Pairwise (· ≤ ·) := by
  unfold ks2
  refine List.Pairwise.filter _ ?_
  have := List.pairwise_mergeSort (le := fun x y : Int => decide (x ≤ y)) (by intro a b c; simp; omega) (by intro a b; simp; omega) (rowAt e (lastI p))
  exact this.imp (by simp)
theorem ext_firsts {p S : List Int} (hp : ∀ x, x ∈ p → x ∈ S) : firsts S (ext1 e p) = firsts S (ext2 e p) := by
  unfold ext1 ext2
  rw [firsts_onto, firsts_onto]
  congr 1
  refine sorted_eq (fi_lt _ _ (ks1_sorted p)) (fi_lt _ _ (ks2_sorted p)) fun x => ?_
  rw [fi_mem, fi_mem, ks1_mem, ks2_mem]
  constructor
  · rintro ⟨⟨h0, h1, _⟩, h2⟩; exact ⟨⟨h0, h1⟩, h2⟩
  · rintro ⟨⟨h0, h1⟩, h2⟩; exact ⟨⟨h0, h1, fun h => h2 (hp x h)⟩, h2⟩
theorem ext1_last {p q : List Int} (h : q ∈ ext1 e p) : ∃ k : Int, q = p ++ [k] ∧ (0 ≤ k ∧ k < e.length) ∧ k ∈ rowAt e (lastI p) ∧ k ∉ p := by
  obtain ⟨k, hk, rfl⟩ := List.mem_map.1 h
  exact ⟨k, rfl, (ks1_mem p k).1 hk⟩
theorem ext2_last {p q : List Int} (h : q ∈ ext2 e p) : ∃ k : Int, q = p ++ [k] ∧ (0 ≤ k ∧ k < e.length) ∧ k ∈ rowAt e (lastI p) := by
  obtain ⟨k, hk, rfl⟩ := List.mem_map.1 h
  exact ⟨k, rfl, (ks2_mem p k).1 hk⟩
theorem after_ext {p S : List Int} (hp : ∀ x, x ∈ p → x ∈ S) (x : Int) : x ∈ after S (ext1 e p) ↔ x ∈ S ∨ ((0 ≤ x ∧ x < e.length) ∧ x ∈ rowAt e (lastI p)) := by
  rw [after_mem]
  constructor
  · rintro (h | ⟨q, hq, rfl⟩)
    · exact .inl h
    · obtain ⟨k, rfl, h1, h2, _⟩ := ext1_last hq
      rw [lastI_snoc]; exact .inr ⟨h1, h2⟩
  · rintro (h | ⟨h1, h2⟩)
    · exact .inl h
    · by_cases hx : x ∈ p
      · exact .inl (hp x hx)
      · exact .inr ⟨p ++ [x], List.mem_map.2 ⟨x, (ks1_mem p x).2 ⟨h1, h2, hx⟩, rfl⟩, lastI_snoc p x⟩
theorem after_ext2 {p S : List Int} (x : Int) : x ∈ after S (ext2 e p) ↔ x ∈ S ∨ ((0 ≤ x ∧ x < e.length) ∧ x ∈ rowAt e (lastI p)) := by
  rw [after_mem]
  constructor
  · rintro (h | ⟨q, hq, rfl⟩)
    · exact .inl h
    · obtain ⟨k, rfl, h1, h2⟩ := ext2_last hq
      rw [lastI_snoc]; exact .inr ⟨h1, h2⟩
  · rintro (h | ⟨h1, h2⟩)
    · exact .inl h
    · exact .inr ⟨p ++ [x], List.mem_map.2 ⟨x, (ks2_mem p x).2 ⟨h1, h2⟩, rfl⟩, lastI_snoc p x⟩
theorem flat_12 (L : List (List Int)) : ∀ {S : List Int}, (∀ p, p ∈ L → ∀ x, x ∈ p → x ∈ S) → firsts S (L.flatMap (ext1 e)) = firsts S (L.flatMap (ext2 e)) := by
  induction L with
  | nil => intro S _; rfl
  | cons p r ih =>
    intro S h
    have hp := h p List.mem_cons_self
    rw [List.flatMap_cons, List.flatMap_cons, firsts_append, firsts_append, ext_firsts hp]
    congr 1
    rw [ih fun q hq x hx => (after_ext hp x).2 (.inl (h q (List.mem_cons_of_mem _ hq) x hx))]
    exact firsts_congr _ fun x => (after_ext hp x).trans (after_ext2 x).symm
/-- ways that end where others ended lead to nothing new -/
theorem flat_firsts (W : List (List Int)) : ∀ {S T : List Int}, (∀ p, p ∈ W → ∀ x, x ∈ p → x ∈ S) → (∀ i, i ∈ T → ∀ k, k ∈ rowAt e i → 0 ≤ k → k < e.length → k ∈ S) →
    firsts S (W.flatMap (ext1 e)) = firsts S ((firsts T W).flatMap (ext1 e)) := by
  induction W with
  | nil => intro S T _ _; rfl
  | cons p r ih =>
    intro S T h hT
    have hp := h p List.mem_cons_self
    rw [List.flatMap_cons, firsts_append, firsts_cons T]
    by_cases hl : lastI p ∈ T
    · rw [if_pos hl, firsts_skip (ext1 e p) fun q hq => by
        obtain ⟨k, rfl, h1, h2, _⟩ := ext1_last hq
        rw [lastI_snoc]; exact hT _ hl k h2 h1.1 h1.2]
      rw [List.nil_append, ← ih (fun q hq => h q (List.mem_cons_of_mem _ hq)) hT]
      refine firsts_congr _ fun x => (after_ext hp x).trans ⟨?_, .inl⟩
      rintro (h | ⟨h1, h2⟩)
      · exact h
      · exact hT _ hl x h2 h1.1 h1.2
    · rw [if_neg hl, List.flatMap_cons, firsts_append]
      congr 1
      refine ih (fun q hq x hx => (after_ext hp x).2 (.inl (h q (List.mem_cons_of_mem _ hq) x hx))) fun i hi k hk h0 h1 => (after_ext hp k).2 ?_
      rcases List.mem_cons.1 hi with rfl | hi
      · exact .inr ⟨⟨h0, h1⟩, hk⟩
      · exact .inl (hT i hi k hk h0 h1)
end
end Go.Rt
end

/- The search by layers finds the document's first way that closes. -/
section
namespace Go.Rt
open Go.Vm

section
variable (e : List (List Int)) (start : Int)
def Wy : Nat → List (List Int)
  | 0 => [[start]]
  | d + 1 => (Wy d).flatMap (ext1 e)
def LS : Nat → List Int × List (List Int)
  | 0 => ([start], [[start]])
  | d + 1 => ((LS d).1 ++ (firsts (LS d).1 ((LS d).2.flatMap (ext2 e))).map lastI, firsts (LS d).1 ((LS d).2.flatMap (ext2 e)))
def Ly (d : Nat) : List (List Int) := (LS e start d).2
def Sv (d : Nat) : List Int := (LS e start d).1
def Er : Nat → List Int
  | 0 => []
  | d + 1 => Sv e start d
variable {e start}
theorem Ly_succ (d : Nat) : Ly e start (d + 1) = firsts (Sv e start d) ((Ly e start d).flatMap (ext2 e)) := rfl
theorem Sv_succ (d : Nat) : Sv e start (d + 1) = Sv e start d ++ (Ly e start (d + 1)).map lastI := rfl
theorem lastI_one : lastI [start] = start := rfl

structure Lay (d : Nat) : Prop where
  c1 : Ly e start d = firsts (Er e start d) (Wy e start d)
  c2 : ∀ p, p ∈ Wy e start d → ∀ x, x ∈ p → x ∈ Sv e start d
  c3 : ∀ i, i ∈ Er e start d → ∀ k, k ∈ rowAt e i → 0 ≤ k → k < e.length → k ∈ Sv e start d
  c4 : ∀ x, x ∈ Sv e start d ↔ x ∈ Er e start d ∨ ∃ p, p ∈ Ly e start d ∧ lastI p = x
theorem lay (e : List (List Int)) (start : Int) : ∀ d, Lay (e := e) (start := start) d
  | 0 => by
    refine ⟨?_, ?_, ?_, ?_⟩
    · show [[start]] = firsts [] [[start]]
      simp [firsts]
    · intro p hp x hx
      simp only [Wy, List.mem_singleton] at hp
      subst hp; exact hx
    · intro i hi; cases hi
    · intro x
      show x ∈ [start] ↔ x ∈ ([] : List Int) ∨ ∃ p, p ∈ [[start]] ∧ lastI p = x
      simp [lastI_one, eq_comm]
  | d + 1 => by
    have ih := lay e start d
    have hsub : ∀ p, p ∈ Ly e start d → p ∈ Wy e start d := fun p hp => (firsts_sub _ (ih.c1 ▸ hp)).1
    have h1 : Ly e start (d + 1) = firsts (Er e start (d + 1)) (Wy e start (d + 1)) := by
      rw [Ly_succ, ← flat_12 _ fun p hp => ih.c2 p (hsub p hp), ih.c1, ← flat_firsts _ ih.c2 ih.c3]
      rfl
    have hup : ∀ x, x ∈ Sv e start d → x ∈ Sv e start (d + 1) := fun x hx => by rw [Sv_succ]; exact List.mem_append_left _ hx
    have h2 : ∀ p, p ∈ Wy e start (d + 1) → ∀ x, x ∈ p → x ∈ Sv e start (d + 1) := by
      intro p hp x hx
      obtain ⟨q, hq, hpq⟩ := List.mem_flatMap.1 hp
      obtain ⟨k, rfl, _, _, _⟩ := ext1_last hpq
      rcases List.mem_append.1 hx with hx | hx
      · exact hup x (ih.c2 q hq x hx)
      · simp only [List.mem_singleton] at hx
        subst hx
        rcases firsts_has _ (S := Er e start (d + 1)) hp with h | ⟨q', g1, g2⟩
        · rw [lastI_snoc] at h; exact hup _ h
        · rw [Sv_succ, h1]
          rw [lastI_snoc] at g2
          exact List.mem_append_right _ (List.mem_map.2 ⟨q', g1, g2⟩)
    refine ⟨h1, h2, ?_, ?_⟩
    · intro i hi k hk h0 hn
      rcases (ih.c4 i).1 hi with hi | ⟨p, hp, rfl⟩
      · exact hup _ (ih.c3 i hi k hk h0 hn)
      · by_cases hkp : k ∈ p
        · exact hup _ (ih.c2 p (hsub p hp) k hkp)
        · exact h2 (p ++ [k]) (List.mem_flatMap.2 ⟨p, hsub p hp, List.mem_map.2 ⟨k, (ks1_mem p k).2 ⟨⟨h0, hn⟩, hk, hkp⟩, rfl⟩⟩) k (by simp)
    · intro x
      rw [Sv_succ, List.mem_append, List.mem_map]
      exact Iff.rfl

def cl (e : List (List Int)) (start : Int) (i : Int) : Bool := decide (start ∈ rowAt e i)
/-- no earlier layer closes -/
def Open (e : List (List Int)) (start : Int) (d : Nat) : Prop := ∀ d', d' < d → (Ly e start d').find? (fun p => cl e start (lastI p)) = none
theorem Er_open : ∀ {d : Nat}, Open e start d → ∀ x, x ∈ Er e start d → cl e start x = false
  | 0, _, x, hx => by cases hx
  | d + 1, h, x, hx => by
    rcases ((lay e start d).c4 x).1 hx with hx | ⟨p, hp, rfl⟩
    · exact Er_open (fun d' hd => h d' (by omega)) x hx
    · have := List.find?_eq_none.1 (h d (by omega)) p hp
      simpa using this
theorem find_same {d : Nat} (h : Open e start d) : (Wy e start d).find? (fun p => cl e start (lastI p)) = (Ly e start d).find? fun p => cl e start (lastI p) := by
  rw [(lay e start d).c1, find_firsts _ _ (Er_open h)]

/- the document's ways -/
def ways (e : List (List Int)) : Nat → List Int → List (List Int)
  | 0, l => [l]
  | s + 1, l => (ext1 e l).flatMap (ways e s)
theorem ways_snoc : ∀ (s : Nat) (l : List Int), (ways e s l).flatMap (ext1 e) = ways e (s + 1) l
  | 0, l => by simp [ways]
  | s + 1, l => by
    show ((ext1 e l).flatMap (ways e s)).flatMap (ext1 e) = (ext1 e l).flatMap (ways e (s + 1))
    rw [List.flatMap_assoc]
    congr 1
    funext x
    exact ways_snoc s x
theorem ways_Wy : ∀ d, ways e d [start] = Wy e start d
  | 0 => rfl
  | d + 1 => by rw [← ways_snoc, ways_Wy d]; rfl
theorem ways_ne : ∀ (s : Nat) {l p : List Int}, l ≠ [] → p ∈ ways e s l → p ≠ []
  | 0, l, p, hl, hp => by simp only [ways, List.mem_singleton] at hp; subst hp; exact hl
  | s + 1, l, p, hl, hp => by
    obtain ⟨q, hq, hpq⟩ := List.mem_flatMap.1 hp
    obtain ⟨k, rfl, _⟩ := ext1_last hq
    exact ways_ne s (by simp) hpq
theorem headD_snoc {l : List Int} (h : l ≠ []) (k : Int) : (l ++ [k]).headD 0 = l.headD 0 := by
  cases l with
  | nil => exact absurd rfl h
  | cons a r => rfl
theorem wayM_find : ∀ (s : Nat) {l : List Int}, l ≠ [] → wayM e s l = ((ways e s l).find? fun p => cl e (l.headD 0) (lastI p)).getD []
  | 0, l, hl => by
    simp only [wayM, ways, List.find?_cons, cl]
    generalize l.headD 0 = h0
    by_cases h : h0 ∈ rowAt e (lastI l) <;> simp [h]
  | s + 1, l, hl => by
    simp only [wayM, ways, ext1, onto, ks1]
    generalize List.range e.length = ks
    induction ks with
    | nil => rfl
    | cons k ks ih =>
      simp only [List.map_cons, firstNE, List.filter_cons]
      by_cases hk : (k : Int) ∈ l ∨ (k : Int) ∉ rowAt e (lastI l)
      · have : decide ((k : Int) ∉ l ∧ (k : Int) ∈ rowAt e (lastI l)) = false := by
          rw [decide_eq_false_iff_not]
          rintro ⟨h1, h2⟩
          rcases hk with h | h
          · exact h1 h
          · exact h h2
        rw [if_pos hk, if_pos rfl, this, ih]
        rfl
      · have : decide ((k : Int) ∉ l ∧ (k : Int) ∈ rowAt e (lastI l)) = true := by
          rw [decide_eq_true_eq]
          exact ⟨fun h => hk (.inl h), Classical.not_not.1 fun h => hk (.inr h)⟩
        rw [if_neg hk, this, if_pos rfl, List.map_cons, List.flatMap_cons, List.find?_append]
        have hw := wayM_find s (l := l ++ [(k : Int)]) (by simp)
        rw [headD_snoc hl] at hw
        rw [hw]
        cases hf : (ways e s (l ++ [(k : Int)])).find? fun p => cl e (l.headD 0) (lastI p) with
        | none => simp only [Option.getD_none, if_true, Option.none_or]; exact ih
        | some p =>
          have := ways_ne s (by simp) (List.mem_of_find?_eq_some hf)
          simp only [Option.getD_some, if_neg this, Option.some_or]
theorem way_Ly {d : Nat} (h : Open e start d) : wayM e d [start] = ((Ly e start d).find? fun p => cl e start (lastI p)).getD [] := by
  rw [wayM_find d (by simp), ways_Wy]
  show ((Wy e start d).find? fun p => cl e start (lastI p)).getD [] = _
  rw [find_same h]

/- the search -/
def prevI (q : List Int) : Int := if q.length ≤ 1 then -1 else lastI q.dropLast
def ent (q : List Int) : Int × Int := (lastI q, prevI q)
theorem prevI_snoc {p : List Int} (h : p ≠ []) (k : Int) : prevI (p ++ [k]) = lastI p := by
  have := List.length_pos_iff.2 h
  unfold prevI
  rw [if_neg (by simp; omega), List.dropLast_concat]
theorem procL_firsts {n : Nat} {p : List Int} (hp : p ≠ []) : ∀ (ks : List Int) {f : Fm} {nx S : List Int}, (∀ x, x ∈ S ↔ x ∈ f.map (·.1)) →
    procL n (lastI p) ks (f, nx) = (f ++ (firsts S (onto p (ks.filter fun k : Int => decide (0 ≤ k ∧ k < n)))).map ent, nx ++ (firsts S (onto p (ks.filter fun k : Int => decide (0 ≤ k ∧ k < n)))).map lastI) := by
  intro ks
  induction ks with
  | nil => intro f nx S _; simp [procL, onto, firsts]
  | cons k ks ih =>
    intro f nx S hS
    show procL n (lastI p) ks (stepK n (lastI p) (f, nx) k) = _
    rw [List.filter_cons]
    by_cases hk : 0 ≤ k ∧ k < n
    · rw [if_pos (by simpa using hk)]
      show _ = (f ++ (firsts S ((p ++ [k]) :: onto p _)).map ent, nx ++ (firsts S ((p ++ [k]) :: onto p _)).map lastI)
      rw [firsts_cons, lastI_snoc]
      unfold stepK
      by_cases hm : k ∈ S
      · rw [if_pos hm, if_neg fun h => fmAt_none.1 h.2.2 ((hS k).1 hm)]
        exact ih hS
      · rw [if_neg hm, if_pos ⟨hk.1, hk.2, fmAt_none.2 fun h => hm ((hS k).2 h)⟩]
        rw [ih (S := k :: S) fun x => by
          rw [List.map_append, List.mem_append, List.mem_cons, hS x]
          simp [or_comm]]
        simp [ent, lastI_snoc, prevI_snoc hp]
    · rw [if_neg (by simpa using hk)]
      unfold stepK
      rw [if_neg fun h => hk ⟨h.1, h.2.1⟩]
      exact ih hS
theorem keys_after {f : Fm} {S : List Int} (hS : ∀ x, x ∈ S ↔ x ∈ f.map (·.1)) (l : List (List Int)) (x : Int) : x ∈ after S l ↔ x ∈ (f ++ (firsts S l).map ent).map (·.1) := by
  rw [after_mem, List.map_append, List.mem_append, hS x]
  constructor
  · rintro (h | ⟨p, hp, rfl⟩)
    · exact .inl h
    · rcases firsts_has l (S := S) hp with h | ⟨q, h1, h2⟩
      · exact .inl ((hS _).1 h)
      · exact .inr (List.mem_map.2 ⟨ent q, List.mem_map.2 ⟨q, h1, rfl⟩, h2⟩)
  · rintro (h | h)
    · exact .inl h
    · obtain ⟨_, h1, rfl⟩ := List.mem_map.1 h
      obtain ⟨q, hq, rfl⟩ := List.mem_map.1 h1
      exact .inr ⟨q, (firsts_sub l hq).1, rfl⟩
theorem layS_firsts : ∀ (L : List (List Int)) {f : Fm} {nx S : List Int}, (∀ p, p ∈ L → p ≠ []) → (∀ x, x ∈ S ↔ x ∈ f.map (·.1)) →
    layS e (L.map lastI) (f, nx) = (f ++ (firsts S (L.flatMap (ext2 e))).map ent, nx ++ (firsts S (L.flatMap (ext2 e))).map lastI) := by
  intro L
  induction L with
  | nil => intro f nx S _ _; simp [layS, firsts]
  | cons p L ih =>
    intro f nx S hne hS
    show layS e (L.map lastI) (procL e.length (lastI p) (sortI (rowAt e (lastI p))) (f, nx)) = _
    rw [procL_firsts (hne p List.mem_cons_self) _ hS]
    have h2 : onto p ((sortI (rowAt e (lastI p))).filter fun k : Int => decide (0 ≤ k ∧ k < e.length)) = ext2 e p := rfl
    rw [h2, ih (fun q hq => hne q (List.mem_cons_of_mem _ hq)) (keys_after hS (ext2 e p)), List.flatMap_cons, firsts_append]
    simp
theorem layerF_firsts : ∀ (L : List (List Int)) {f : Fm} {nx S : List Int}, (∀ p, p ∈ L → p ≠ []) → (∀ x, x ∈ S ↔ x ∈ f.map (·.1)) →
    match L.find? (fun p => cl e start (lastI p)) with
    | none => layerF e start (L.map lastI) (f, nx) = (none, layS e (L.map lastI) (f, nx))
    | some p => ∃ more nx', layerF e start (L.map lastI) (f, nx) = (some (lastI p), (f ++ more, nx')) := by
  intro L
  induction L with
  | nil => intro f nx S _ _; rfl
  | cons p L ih =>
    intro f nx S hne hS
    by_cases hc : start ∈ rowAt e (lastI p)
    · have : cl e start (lastI p) = true := by simpa [cl] using hc
      simp only [List.find?_cons, this]
      refine ⟨[], nx, ?_⟩
      simp only [List.map_cons, layerF]
      rw [if_pos hc, List.append_nil]
    · have hcf : cl e start (lastI p) = false := by simpa [cl] using hc
      simp only [List.find?_cons, hcf]
      have hL : ∀ st, layerF e start ((p :: L).map lastI) st = layerF e start (L.map lastI) (procL e.length (lastI p) (sortI (rowAt e (lastI p))) st) := fun st => by
        simp only [List.map_cons, layerF]
        rw [if_neg hc]
      rw [hL]
      have h2 : onto p ((sortI (rowAt e (lastI p))).filter fun k : Int => decide (0 ≤ k ∧ k < e.length)) = ext2 e p := rfl
      have hp := procL_firsts (n := e.length) (hne p List.mem_cons_self) (sortI (rowAt e (lastI p))) (nx := nx) hS
      rw [h2] at hp
      have := ih (f := f ++ (firsts S (ext2 e p)).map ent) (nx := nx ++ (firsts S (ext2 e p)).map lastI) (fun q hq => hne q (List.mem_cons_of_mem _ hq)) (keys_after hS (ext2 e p))
      cases hf : L.find? (fun p => cl e start (lastI p)) with
      | none =>
        rw [hf] at this
        simp only at this ⊢
        rw [hp, this]
        show (none, _) = (none, layS e (L.map lastI) (procL e.length (lastI p) (sortI (rowAt e (lastI p))) (f, nx)))
        rw [hp]
      | some q =>
        rw [hf] at this
        simp only at this ⊢
        obtain ⟨more, nx', h3⟩ := this
        exact ⟨(firsts S (ext2 e p)).map ent ++ more, nx', by rw [hp, h3, List.append_assoc]⟩
end
end Go.Rt
end

/- What the search by layers hands back. -/
section
namespace Go.Rt
open Go.Vm

section
variable {e : List (List Int)} {start : Int}
def PS (e : List (List Int)) (start : Int) : Nat → List (List Int)
  | 0 => Ly e start 0
  | d + 1 => PS e start d ++ Ly e start (d + 1)
def Fd (e : List (List Int)) (start : Int) (d : Nat) : Fm := (PS e start d).map ent
theorem Fd_keys : ∀ d, (Fd e start d).map (·.1) = Sv e start d
  | 0 => rfl
  | d + 1 => by
    have := Fd_keys d
    unfold Fd at this ⊢
    rw [PS, List.map_append, List.map_append, this, Sv_succ, List.map_map]
    rfl
theorem PS_mem : ∀ {d : Nat} {p : List Int}, p ∈ PS e start d ↔ ∃ d', d' ≤ d ∧ p ∈ Ly e start d'
  | 0, p => ⟨fun h => ⟨0, Nat.le_refl _, h⟩, fun ⟨d', h1, h2⟩ => by
    cases Nat.le_zero.1 h1
    exact h2⟩
  | d + 1, p => by
    rw [PS, List.mem_append, PS_mem]
    constructor
    · rintro (⟨d', h1, h2⟩ | h)
      · exact ⟨d', by omega, h2⟩
      · exact ⟨d + 1, Nat.le_refl _, h⟩
    · rintro ⟨d', h1, h2⟩
      by_cases hd : d' = d + 1
      · subst hd; exact .inr h2
      · exact .inl ⟨d', by omega, h2⟩
theorem Sv_nodup : ∀ d, (Sv e start d).Nodup
  | 0 => by show [start].Nodup; simp
  | d + 1 => by
    rw [Sv_succ, List.nodup_append]
    refine ⟨Sv_nodup d, ?_, fun a ha b hb hab => ?_⟩
    · rw [Ly_succ]; exact firsts_nodup _
    · subst hab
      obtain ⟨p, hp, rfl⟩ := List.mem_map.1 hb
      rw [Ly_succ] at hp
      exact (firsts_sub _ hp).2 ha
/-- what is so of every way -/
structure Way (e : List (List Int)) (start : Int) (d : Nat) (p : List Int) : Prop where
  len : p.length = d + 1
  inn : Inn e.length p
  nodup : p.Nodup
  head : p.head? = some start
theorem way_of (hs : 0 ≤ start ∧ start < e.length) : ∀ {d : Nat} {p : List Int}, p ∈ Wy e start d → Way e start d p
  | 0, p, hp => by
    simp only [Wy, List.mem_singleton] at hp
    subst hp
    exact ⟨rfl, fun x hx => by simp only [List.mem_singleton] at hx; subst hx; exact hs, by simp, rfl⟩
  | d + 1, p, hp => by
    obtain ⟨q, hq, hpq⟩ := List.mem_flatMap.1 hp
    obtain ⟨k, rfl, h1, h2, h3⟩ := ext1_last hpq
    have ih := way_of hs hq
    refine ⟨by simp [ih.len], fun x hx => ?_, ?_, ?_⟩
    · rcases List.mem_append.1 hx with hx | hx
      · exact ih.inn x hx
      · simp only [List.mem_singleton] at hx; subst hx; exact h1
    · rw [List.nodup_append]
      refine ⟨ih.nodup, by simp, fun a ha b hb => ?_⟩
      simp only [List.mem_singleton] at hb
      subst hb
      rintro rfl
      exact h3 ha
    · have := ih.head
      cases q with
      | nil => cases this
      | cons a r => exact this
theorem way_Ly' (hs : 0 ≤ start ∧ start < e.length) {d : Nat} {p : List Int} (hp : p ∈ Ly e start d) : Way e start d p := by
  rw [(lay e start d).c1] at hp
  exact way_of hs (firsts_sub _ hp).1
theorem Way.ne {d : Nat} {p : List Int} (h : Way e start d p) : p ≠ [] := fun he => by have := h.len; rw [he] at this; cases this
theorem Way.lt {d : Nat} {p : List Int} (h : Way e start d p) : d < e.length := by have := range_len _ h.nodup h.inn; have := h.len; omega
theorem Sv_inn (hs : 0 ≤ start ∧ start < e.length) : ∀ d, Inn e.length (Sv e start d)
  | 0 => fun x hx => by
    have : x ∈ [start] := hx
    simp only [List.mem_singleton] at this; subst this; exact hs
  | d + 1 => fun x hx => by
    rw [Sv_succ] at hx
    rcases List.mem_append.1 hx with hx | hx
    · exact Sv_inn hs d x hx
    · obtain ⟨p, hp, rfl⟩ := List.mem_map.1 hx
      have hw := way_Ly' hs hp
      unfold lastI
      cases hl : p.getLast? with
      | none => exact absurd (List.getLast?_eq_none_iff.1 hl) hw.ne
      | some a => exact hw.inn a (List.mem_of_getLast? hl)

theorem fmAt_mem : ∀ {f : Fm} {k i : Int}, (f.map (·.1)).Nodup → (k, i) ∈ f → fmAt f k = some i
  | [], k, i, _, h => by cases h
  | (a, b) :: f, k, i, hn, h => by
    simp only [List.map_cons, List.nodup_cons] at hn
    unfold fmAt
    rw [List.find?_cons]
    rcases List.mem_cons.1 h with h | h
    · cases h; simp
    · have hak : a ≠ k := by
        rintro rfl
        exact hn.1 (List.mem_map.2 ⟨_, h, rfl⟩)
      have := fmAt_mem hn.2 h
      unfold fmAt at this
      simp only [hak, decide_false]
      exact this
theorem fmAt_PS {d : Nat} {p : List Int} (hp : p ∈ PS e start d) (more : Fm) : fmAt (Fd e start d ++ more) (lastI p) = some (prevI p) := by
  have h1 : fmAt (Fd e start d) (lastI p) = some (prevI p) := fmAt_mem (by rw [Fd_keys]; exact Sv_nodup d) (List.mem_map.2 ⟨p, hp, rfl⟩)
  have : ∀ (m : Fm), fmAt (Fd e start d ++ m) (lastI p) = some (prevI p) := by
    intro m
    unfold fmAt at h1 ⊢
    rw [List.find?_append]
    cases hf : List.find? (fun x => decide (x.1 = lastI p)) (Fd e start d) with
    | none => rw [hf] at h1; cases h1
    | some x => rw [hf] at h1; exact h1
  exact this more
theorem chain_way (hs : 0 ≤ start ∧ start < e.length) {d : Nat} (more : Fm) : ∀ {d' : Nat} {p : List Int}, d' ≤ d → p ∈ Ly e start d' → chain (Fd e start d ++ more) (d' + 1) (lastI p) = some p.reverse
  | 0, p, hd, hp => by
    have hf := fmAt_PS (PS_mem.2 ⟨0, hd, hp⟩) more
    have hp' : p ∈ [[start]] := hp
    simp only [List.mem_singleton] at hp'
    subst hp'
    unfold chain
    rw [hf]
    rw [lastI_one]
    rw [if_neg (by omega)]
    simp [prevI, chain]
  | d' + 1, p, hd, hp => by
    have hf := fmAt_PS (PS_mem.2 ⟨d' + 1, hd, hp⟩) more
    have hw := way_Ly' hs hp
    rw [Ly_succ] at hp
    obtain ⟨q, hq, hpq⟩ := List.mem_flatMap.1 (firsts_sub _ hp).1
    obtain ⟨k, rfl, h1, _⟩ := ext2_last hpq
    have hqn := (way_Ly' hs hq).ne
    have ih := chain_way hs (d := d) more (by omega) hq
    unfold chain
    rw [hf, prevI_snoc hqn, Option.getD_some, ih, lastI_snoc, if_neg (by omega)]
    simp

/-- what is found -/
def Found (e : List (List Int)) (start : Int) (r : Option Int) (g : Fm) : Prop :=
  (∃ D p, Open e start D ∧ (Ly e start D).find? (fun p => cl e start (lastI p)) = some p ∧ r = some (lastI p) ∧ chain g (D + 1) (lastI p) = some p.reverse) ∨ (r = none ∧ ∀ D, Open e start D)
theorem run (hs : 0 ≤ start ∧ start < e.length) : ∀ (k d : Nat), Open e start d → (Ly e start d = [] ∨ e.length + 1 ≤ (Sv e start d).length + k) →
    ∃ r g, bfs e start k ((Ly e start d).map lastI) (Fd e start d) = some (r, g) ∧ Found e start r g := by
  intro k
  induction k with
  | zero =>
    intro d ho hk
    rcases hk with hk | hk
    · refine ⟨none, Fd e start d, by rw [hk]; rfl, .inr ⟨rfl, ?_⟩⟩
      have hempty : ∀ j, Ly e start (d + j) = [] := by
        intro j
        induction j with
        | zero => exact hk
        | succ j ih => rw [← Nat.add_assoc, Ly_succ, ih]; rfl
      intro D d' hd'
      by_cases h : d' < d
      · exact ho d' h
      · have := hempty (d' - d)
        rw [show d + (d' - d) = d' by omega] at this
        rw [this]; rfl
    · have := range_len _ (Sv_nodup (e := e) (start := start) d) (Sv_inn hs d)
      omega
  | succ k ih =>
    intro d ho hk
    by_cases hL : Ly e start d = []
    · refine ⟨none, Fd e start d, by rw [hL]; rfl, .inr ⟨rfl, ?_⟩⟩
      have hempty : ∀ j, Ly e start (d + j) = [] := by
        intro j
        induction j with
        | zero => exact hL
        | succ j ih => rw [← Nat.add_assoc, Ly_succ, ih]; rfl
      intro D d' hd'
      by_cases h : d' < d
      · exact ho d' h
      · have := hempty (d' - d)
        rw [show d + (d' - d) = d' by omega] at this
        rw [this]; rfl
    · have hk := hk.resolve_left hL
      have hlf := layerF_firsts (e := e) (start := start) (Ly e start d) (f := Fd e start d) (nx := []) (S := Sv e start d) (fun p hp => (way_Ly' hs hp).ne) (fun x => by rw [Fd_keys])
      have hb : bfs e start (k + 1) ((Ly e start d).map lastI) (Fd e start d) = match layerF e start ((Ly e start d).map lastI) (Fd e start d, []) with
          | (some i, st) => some (some i, st.1)
          | (none, st) => bfs e start k st.2 st.1 := by
        cases hc : (Ly e start d).map lastI with
        | nil => exact absurd (List.map_eq_nil_iff.1 hc) hL
        | cons a b => rfl
      rw [hb]
      cases hf : (Ly e start d).find? (fun p => cl e start (lastI p)) with
      | some p =>
        rw [hf] at hlf
        obtain ⟨more, nx', h1⟩ := hlf
        rw [h1]
        exact ⟨_, _, rfl, .inl ⟨d, p, ho, hf, rfl, chain_way hs more (Nat.le_refl _) (List.mem_of_find?_eq_some hf)⟩⟩
      | none =>
        rw [hf] at hlf
        simp only at hlf
        rw [hlf, layS_firsts (e := e) (Ly e start d) (S := Sv e start d) (fun p hp => (way_Ly' hs hp).ne) (fun x => by rw [Fd_keys])]
        simp only [List.nil_append]
        have ho2 : Open e start (d + 1) := fun d' hd' => by
          by_cases h : d' < d
          · exact ho d' h
          · have : d' = d := by omega
            subst this; exact hf
        have hF : Fd e start d ++ (firsts (Sv e start d) ((Ly e start d).flatMap (ext2 e))).map ent = Fd e start (d + 1) := by
          unfold Fd
          rw [PS, List.map_append]; rfl
        rw [hF]
        refine ih (d + 1) ho2 ?_
        by_cases hL2 : Ly e start (d + 1) = []
        · exact .inl hL2
        · right
          have := List.length_pos_iff.2 hL2
          rw [Sv_succ, List.length_append, List.length_map]
          omega

theorem firstTo_none {f : Nat → List Int} : ∀ (n : Nat), (∀ i, i < n → f i = []) → firstTo f n = []
  | 0, _ => rfl
  | n + 1, h => by rw [firstTo_next, firstTo_none n fun i hi => h i (by omega), if_pos rfl]; exact h n (by omega)
/-- the cycle of somebody -/
theorem cycle_same (hs : 0 ≤ start ∧ start < e.length) : ∃ K r g K2 out, bfs e start K [start] [(start, -1)] = some (r, g) ∧ chain g K2 (r.getD (-1)) = some out ∧ out.reverse = refCyc e start ∧ out.length ≤ e.length ∧
    (refCyc e start = [] ∨ ∃ D, refCyc e start ∈ Wy e start D ∧ start ∈ rowAt e (lastI (refCyc e start))) := by
  obtain ⟨r, g, h1, h2⟩ := run hs (e.length + 1) 0 (fun d' hd' => by omega) (.inr (by omega))
  have href : refCyc e start = firstTo (fun n => wayM e n [start]) e.length := by unfold refCyc; rw [if_pos hs]; rfl
  rcases h2 with ⟨D, p, ho, hf, rfl, hc⟩ | ⟨rfl, hall⟩
  · have hw := way_Ly' hs (List.mem_of_find?_eq_some hf)
    have hp : refCyc e start = p := by
      rw [href]
      have h3 : firstTo (fun n => wayM e n [start]) D = [] := firstTo_none D fun i hi => by
        rw [way_Ly fun d' hd' => ho d' (by omega), ho i hi]; rfl
      have h4 : firstTo (fun n => wayM e n [start]) (D + 1) = p := by
        rw [firstTo_next, if_pos h3, way_Ly ho, hf]; rfl
      rw [firstTo_stays (by rw [h4]; exact hw.ne) hw.lt, h4]
    refine ⟨_, _, _, _, _, h1, hc, by rw [List.reverse_reverse, hp], by rw [List.length_reverse, hw.len]; exact hw.lt, .inr ⟨D, ?_, ?_⟩⟩
    · rw [hp]
      have := List.mem_of_find?_eq_some hf
      rw [(lay e start D).c1] at this
      exact (firsts_sub _ this).1
    · rw [hp]
      have := List.find?_some hf
      simpa [cl] using this
  · have hp : refCyc e start = [] := by
      rw [href]
      exact firstTo_none _ fun i hi => by
        rw [way_Ly (hall i), hall (i + 1) i (by omega)]; rfl
    exact ⟨_, _, _, 0, [], h1, by simp [chain], by rw [hp]; rfl, by simp, .inl hp⟩
end
end Go.Rt
end

/- Contract: the statement about cycles. -/
section
namespace Go.Rt
open Go.Vm

theorem refCyc_len {e : List (List Int)} {start : Int} : (refCyc e start).length ≤ e.length := by
  by_cases hs : 0 ≤ start ∧ start < e.length
  · obtain ⟨_, _, _, _, out, _, _, h3, h4, _⟩ := cycle_same hs
    rw [← h3, List.length_reverse]; exact h4
  · unfold refCyc; rw [if_neg hs]; simp
theorem Cycle_any {e : List (List Int)} (he : RowsOk e) (start : Int) (d : Nat) :
    GSpec prog true n_waits_Cycle [.iv (rowsIV e), vi start] [] (.sl d 1 0 (refCyc e start).length) [(d, .list 1 (intsC (refCyc e start)))] := by
  by_cases hs : 0 ≤ start ∧ start < e.length
  · obtain ⟨K, r, g, K2, out, h1, h2, h3, h4, _⟩ := cycle_same hs
    have := Cycle_some he hs h1 h2 (by have := he.len; omega)
    rw [h3, intsC_len] at this
    exact this.fresh d rfl fun ρ => rfl
  · have : refCyc e start = [] := by unfold refCyc; rw [if_neg hs]
    rw [this]
    exact Cycle_none e hs d

theorem WaitsCycles_spec (e : List (List Int)) (start : Int) (he : e.length < 2 ^ 63) : GSpec prog true n_ratlinelaw12_WaitsCycles [.iv (rowsIV e), vi start] [] (vb true) [] := by
  refine gspec1 ratlinelaw12_WaitsCycles_is (by simp) (by decide) rfl ?_
  simp -dsimp [ratlinelaw12_WaitsCycles, rowsIV]
  refine call_pure awake_spec (by simp) (by simp) ?_
  simp -dsimp
  refine call_pure (law12_small_spec e 7 he) (by simp [rowsIV]) (by simp) ?_
  simp -dsimp
  intro hs
  have hok := hs.ok (by decide)
  have hle := hs.1
  have hrl := refCyc_len (e := e) (start := start)
  refine call_new (Cycle_any hok start 16) (by decide) (by simp [rowsIV]) (by simp) ?_
  simp -dsimp
  refine call_mut (ref12_Cycle_spec hok start) rfl (by simp) (by simp [rowsIV]) (by simp) (by simp) (by simp) (by simp) (by simp) ?_
  simp -dsimp
  refine call_pure (ref10_Ints_spec (refCyc e start) (refCyc e start) (by omega)) (by simp [intsIV, List.take_of_length_le]) (by simp) ?_
  simp -dsimp
end Go.Rt
end
