/- Contracts of functions of the program, and what they lean on. Conditions: those of each theorem. -/
import Derived.Test.YtoiegcefpofheaaPG
import Derived.Test.YtoiegcefpofheaaPC

set_option linter.unusedVariables false
set_option linter.unusedSimpArgs false

/- What a cycle is like; who of it goes. -/
section
namespace Go.Rt
open Go.Vm

theorem way_steps {e : List (List Int)} {start : Int} : ∀ {d : Nat} {p : List Int}, p ∈ Wy e start d → ∀ (i : Nat) (a b : Int), p[i]? = some a → p[i + 1]? = some b → b ∈ rowAt e a
  | 0, p, hp, i, a, b, _, hb => by
    simp only [Wy, List.mem_singleton] at hp
    subst hp
    simp at hb
  | d + 1, p, hp, i, a, b, ha, hb => by
    obtain ⟨q, hq, hpq⟩ := List.mem_flatMap.1 hp
    obtain ⟨k, rfl, h1, h2, h3⟩ := ext1_last hpq
    have hl := (List.getElem?_eq_some_iff.1 hb).1
    simp only [List.length_append, List.length_singleton] at hl
    rw [List.getElem?_append_left (by omega)] at ha
    by_cases hi : i + 1 < q.length
    · rw [List.getElem?_append_left hi] at hb
      exact way_steps hq i a b ha hb
    · have he : i + 1 = q.length := by omega
      rw [he] at hb
      simp at hb
      subst hb
      have : lastI q = a := by
        unfold lastI
        rw [List.getLast?_eq_getElem?, show q.length - 1 = i by omega, ha]; rfl
      rw [this] at h2
      exact h2
/-- what a cycle is like -/
structure IsCyc (e : List (List Int)) (start : Int) (c : List Int) : Prop where
  head : c[0]? = some start
  inn : Inn e.length c
  nodup : c.Nodup
  step : ∀ (i : Nat) (a b : Int), c[i]? = some a → c[(i + 1) % c.length]? = some b → b ∈ rowAt e a
theorem refCyc_is {e : List (List Int)} {start : Int} (h : refCyc e start ≠ []) : IsCyc e start (refCyc e start) := by
  have hs : 0 ≤ start ∧ start < e.length := Classical.byContradiction fun hn => h (by unfold refCyc; rw [if_neg hn])
  obtain ⟨_, _, _, _, _, _, _, _, _, h5⟩ := cycle_same hs
  obtain ⟨D, h1, h2⟩ := h5.resolve_left h
  have hw := way_of hs h1
  generalize refCyc e start = c at *
  refine ⟨by have := hw.head; cases c with | nil => cases this | cons a r => simpa using this, hw.inn, hw.nodup, fun i a b ha hb => ?_⟩
  have hi := (List.getElem?_eq_some_iff.1 ha).1
  by_cases hl : i + 1 < c.length
  · rw [Nat.mod_eq_of_lt hl] at hb
    exact way_steps h1 i a b ha hb
  · have he : i + 1 = c.length := by omega
    rw [he, Nat.mod_self] at hb
    have hst : c[0]? = some start := by have := hw.head; cases c with | nil => cases this | cons a r => simpa using this
    rw [hst] at hb; cases hb
    have : lastI c = a := by
      unfold lastI
      rw [List.getLast?_eq_getElem?, show c.length - 1 = i by omega, ha]; rfl
    rw [this] at h2
    exact h2
theorem vic_mem (l ages : List Int) : vic l ages = -1 ∨ vic l ages ∈ l := by
  have : ∀ (l : List Int) (b : Int), l.foldl (vicStep ages) b = b ∨ l.foldl (vicStep ages) b ∈ l := by
    intro l
    induction l with
    | nil => intro b; exact .inl rfl
    | cons a l ih =>
      intro b
      show l.foldl (vicStep ages) (vicStep ages b a) = b ∨ l.foldl (vicStep ages) (vicStep ages b a) ∈ a :: l
      rcases ih (vicStep ages b a) with h | h
      · rw [h]
        unfold vicStep
        split
        · exact .inr List.mem_cons_self
        · exact .inl rfl
      · exact .inr (List.mem_cons_of_mem _ h)
  exact this l (-1)
theorem vic_nil (ages : List Int) : vic [] ages = -1 := rfl
end Go.Rt
end

/- Contract: the statement about what a cycle is like. -/
section
namespace Go.Rt
open Go.Vm

theorem take_ints (l : List Int) (n : Nat) : List.take n (intsC l) = intsC (l.take n) := by simp [intsC, List.map_take]
set_option maxHeartbeats 4000000 in
theorem WaitsGoes_spec (e : List (List Int)) (start : Int) (ages : List Int) (he : e.length < 2 ^ 63) (ha : ages.length < 2 ^ 63) (_hi : (Lit.int .i64 start).wf = true) :
    GSpec prog true n_ratlinelaw12_WaitsGoes [.iv (rowsIV e), vi start, .iv (intsIV ages)] [] (vb true) [] := by
  refine gspec1 ratlinelaw12_WaitsGoes_is (by simp) (by decide) rfl ?_
  simp -dsimp [ratlinelaw12_WaitsGoes, rowsIV, intsIV]
  refine call_pure awake_spec (by simp) (by simp) ?_
  simp -dsimp
  refine call_pure (law12_small_spec e 30 he) (by simp [rowsIV]) (by simp) ?_
  simp -dsimp
  intro hs _
  have hok := hs.ok (by decide)
  have hle := hs.1
  have hrl := refCyc_len (e := e) (start := start)
  have hcy := refCyc_is (e := e) (start := start)
  refine call_new (Cycle_any hok start 27) (by decide) (by simp [rowsIV]) (by simp) ?_
  generalize refCyc e start = c at *
  simp -dsimp
  refine call_pure (Victim_spec c ages (by omega)) (by simp [intsIV, List.take_of_length_le]) (by simp) ?_
  have hvo := vic_ok c ages
  have hvm := vic_mem c ages
  by_cases hc : c = []
  · subst hc
    simp -dsimp [vic_nil]
  · have hcy := hcy hc
    have hpos := List.length_pos_iff.2 hc
    have hl0 : ¬c.length = 0 := by omega
    have hle2 : ¬e.length < c.length := by omega
    simp -dsimp [hl0, hcy.head, hle2, hc]
    refine ⟨hpos, ?_⟩
    refine loop_idx [27] [] c.length (fun i => ⟨[(11, vi i), (10, vi (vic c ages)), (9, .iv (.lst 1 (intsC c))), (0, .iv (rowsIV e)), (2, .iv (.lst 1 (intsC ages)))], []⟩) (fun _ => True) ?_ trivial ?_
    · simp [rowsIV, List.take_of_length_le]
    · intro i hi _
      by_cases hil : i < c.length
      · have hil2 : ¬c.length ≤ i := by omega
        have hiw := wrap_in (n := (i : Int) + 1) (by omega)
        obtain ⟨a, ha1⟩ := some_at hil
        obtain ⟨b, hb1⟩ : ∃ b, c[(i + 1) % c.length]? = some b := some_at (Nat.mod_lt _ hpos)
        have har := hcy.inn a (List.mem_of_getElem? ha1)
        have hstep := hcy.step i a b ha1 hb1
        obtain ⟨a', rfl⟩ : ∃ a' : Nat, a = a' := ⟨a.toNat, by omega⟩
        obtain ⟨row, hrow⟩ : ∃ row, e[a']? = some row := some_at (by omega)
        have hrw := hok.rows row (List.mem_of_getElem? hrow)
        rw [rowAt_get hrow] at hstep
        have hnt : (a' : Int) ∉ c.take i := fun hm => by
          obtain ⟨j, hj⟩ := List.getElem?_of_mem hm
          have hjl := (List.getElem?_eq_some_iff.1 hj).1
          simp only [List.length_take] at hjl
          rw [List.getElem?_take, if_pos (by omega)] at hj
          have h4 := List.getElem?_eq_some_iff.1 hj
          have h5 := List.getElem?_eq_some_iff.1 ha1
          have := List.pairwise_iff_getElem.1 hcy.nodup j i h4.1 h5.1 (by omega)
          exact this (h4.2.trans h5.2.symm)
        have htm : ((i : Int) + 1).tmod (c.length : Int) = (((i + 1) % c.length : Nat) : Int) := by
          rw [Int.tmod_eq_emod_of_nonneg (by omega)]; push_cast; rfl
        have hln : ¬(c.length : Int) = 0 := by omega
        have ha2 : ¬(e.length : Int) ≤ (a' : Int) := by omega
        generalize hmd : (i + 1) % c.length = md at htm hb1
        simp -dsimp [ratlinelaw12_WaitsGoes_l19, rowsIV, hil2, hiw, htm, hln, hb1, ha1, ha2, hrow, hc]
        intro _
        refine call_pure (law12_in_spec row b (by omega)) (by simp [intsIV]) (by simp) ?_
        simp -dsimp [hstep, ha1]
        refine ⟨by omega, ?_⟩
        refine call_pure (law12_in_spec (c.take i) a' (by simp; omega)) (by simp [intsIV, take_ints]) (by simp) ?_
        simp -dsimp [hnt, hiw, rowsIV, hil]
      · have hie : i = c.length := by omega
        subst hie
        simp -dsimp [ratlinelaw12_WaitsGoes_l19, rowsIV]
        intro hv
        have hm := hvm.resolve_left hv
        have hr := hvo.resolve_left hv
        refine call_pure (law12_in_spec c (vic c ages) (by omega)) (by simp [intsIV]) (by simp) ?_
        simp -dsimp [hm, hr.2, hv]
end Go.Rt
end
