/- Contracts of functions of the program, and what they lean on. Conditions: those of each theorem. -/
import Derived.Test.YtoiegcefpofheaaPH
import Derived.Test.YtoiegcefpofheaaPI

set_option linter.unusedVariables false
set_option linter.unusedSimpArgs false

/- Contract: the statement about who waits for nobody. -/
section
namespace Go.Rt
open Go.Vm

theorem RowsOk.set {e : List (List Int)} (h : RowsOk e) (i : Nat) {l : List Int} (hl : l.length ≤ 1000) : RowsOk (e.set i l) :=
  ⟨by simpa using h.len, fun x hx => by
    rcases List.mem_or_eq_of_mem_set hx with hx | rfl
    · exact h.rows x hx
    · exact hl⟩
set_option maxHeartbeats 4000000 in
theorem WaitsFree_spec (e : List (List Int)) (start : Int) (ages : List Int) (he : e.length < 2 ^ 63) (ha : ages.length < 2 ^ 63) (_hi : (Lit.int .i64 start).wf = true) :
    GSpec prog true n_ratlinelaw12_WaitsFree [.iv (rowsIV e), vi start, .iv (intsIV ages)] [] (vb true) [] := by
  refine gspec1 ratlinelaw12_WaitsFree_is (by simp) (by decide) rfl ?_
  simp -dsimp [ratlinelaw12_WaitsFree, rowsIV, intsIV]
  refine call_pure awake_spec (by simp) (by simp) ?_
  simp -dsimp
  refine call_pure (law12_small_spec e 20 he) (by simp [rowsIV]) (by simp) ?_
  obtain ⟨q, hq, hq2⟩ := bits_1023 start
  by_cases hs : Small e 20
  · by_cases hn : e = []
    · simp -dsimp [hs, hn]
    · have hpos := List.length_pos_iff.2 hn
      have hok := hs.ok (by decide)
      have hle := hs.1
      have hln : ¬(e.length : Int) = 0 := by omega
      have hln2 : ¬e.length = 0 := by omega
      have htm : (q : Int).tmod (e.length : Int) = ((q % e.length : Nat) : Int) := by
        rw [Int.tmod_eq_emod_of_nonneg (by omega)]; push_cast; rfl
      have hil : q % e.length < e.length := Nat.mod_lt _ hpos
      generalize hi : q % e.length = i at htm hil
      have hil2 : (i : Int) < e.length := by omega
      have hget : (rowsC e)[i]? = some [.lst 1 (intsC (e[i]))] := by rw [rowsC_get, List.getElem?_eq_getElem hil]; rfl
      simp -dsimp [hs, hn, hq, htm, hln, hln2, hget]
      refine ⟨by omega, by omega, hil, ?_⟩
      refine call_le (le_rows (id := 9) (z := 0) hil (by simp)) ?_
      have hok2 := hok.set i (l := []) (by simp)
      have hr0 : rowAt (e.set i []) (i : Int) = [] := rowAt_set' hil []
      have hil3 : i < (e.set i []).length := by simpa using hil
      obtain ⟨out, hl, hm, g1, _⟩ := Stuck_any hok2
      simp only [List.length_set] at hl
      have hno : (i : Int) ∉ out := fun h => ((hm _).1 h).2 (free_ends hil3 hr0)
      refine call_new (g1 35) (by decide) (by simp [rowsIV, List.take_of_length_le]) (by simp) ?_
      simp -dsimp
      refine call_pure (law12_in_spec out i (by omega)) (by simp [intsIV, List.take_of_length_le]) (by simp) ?_
      simp -dsimp [hno]
      have hcy := Cycle_any hok2 (i : Int) 41
      rw [free_nil hr0] at hcy
      refine call_new hcy (by decide) (by simp [rowsIV, List.take_of_length_le]) (by simp) ?_
      simp -dsimp
      refine loop_idx [35, 41] [53] e.length (fun k => ⟨[(10, vi k), (9, .sl 9 1 0 e.length), (1, vi i), (2, .iv (.lst 1 (intsC ages)))], [(9, .list 1 (rowsC (e.set i [])))]⟩) (fun _ => True) ?_ trivial ?_
      · simp
      · intro k hk _
        by_cases hkl : k < e.length
        · have hkl2 : ¬e.length ≤ k := by omega
          have hkw := wrap_in (n := (k : Int) + 1) (by omega)
          have hcl := refCyc_len (e := e.set i []) (start := (k : Int))
          simp only [List.length_set] at hcl
          simp -dsimp [ratlinelaw12_WaitsFree_l18, hkl2]
          intro _
          refine call_new (Cycle_any hok2 (k : Int) 53) (by decide) (by simp [rowsIV, List.take_of_length_le]) (by simp) ?_
          simp -dsimp
          refine call_pure (law12_in_spec (refCyc (e.set i []) (k : Int)) i (by omega)) (by simp [intsIV, List.take_of_length_le]) (by simp) ?_
          simp -dsimp [free_cycle hr0 (k : Int), hkw, hkl]
        · have hke : k = e.length := by omega
          subst hke
          have hgs : (rowsC (e.set i []))[i]? = some [.lst 1 (intsC [])] := by rw [rowsC_get, List.getElem?_set, if_pos rfl, if_pos hil]; rfl
          have hci : [[ci (i : Int)]] = intsC [(i : Int)] := rfl
          have hset : (rowsC (e.set i [])).set i [.lst 1 [[ci (i : Int)]]] = rowsC (e.set i [(i : Int)]) := by
            rw [hci, rowsC_set, List.set_set]
          simp -dsimp [ratlinelaw12_WaitsFree_l18, hgs, hset]
          refine ⟨hil, ?_⟩
          have hok3 := hok.set i (l := [(i : Int)]) (by simp)
          have hil4 : i < (e.set i [(i : Int)]).length := by simpa using hil
          have hr1 : (i : Int) ∈ rowAt (e.set i [(i : Int)]) (i : Int) := by rw [rowAt_set' hil]; simp
          have hcy3 := Cycle_any hok3 (i : Int) 63
          rw [self_cycle hil4 hr1] at hcy3
          obtain ⟨out3, hl3, hm3, g3, _⟩ := Stuck_any hok3
          simp only [List.length_set] at hl3
          have hin3 : (i : Int) ∈ out3 := (hm3 _).2 ⟨⟨by omega, by omega⟩, self_stuck hil4 hr1⟩
          refine call_new hcy3 (by decide) (by simp [rowsIV, List.take_of_length_le]) (by simp) ?_
          simp -dsimp
          refine call_pure (ref10_Ints_spec [(i : Int)] [(i : Int)] (by simp)) (by simp [intsIV, intsC]) (by simp) ?_
          simp -dsimp
          refine call_new (g3 69) (by decide) (by simp [rowsIV, List.take_of_length_le]) (by simp) ?_
          simp -dsimp
          refine call_pure (law12_in_spec out3 i (by omega)) (by simp [intsIV, List.take_of_length_le]) (by simp) ?_
          simp -dsimp [hin3]
          refine call_pure (Victim_spec [(i : Int)] ages (by simp)) (by simp [intsIV, intsC]) (by simp) ?_
          simp -dsimp
          refine call_pure (ref12_Victim_spec [(i : Int)] ages (by simp)) (by simp [intsIV, intsC]) (by simp) ?_
          simp -dsimp
  · simp -dsimp [hs]
end Go.Rt
end

/- Who is stuck and who lies on a cycle. -/
section
namespace Go.Rt
open Go.Vm

theorem cyc_stuck {e : List (List Int)} {start : Int} {c : List Int} (hc : IsCyc e start c) : ∀ x, Ends e x → x ∉ c := by
  intro x hx
  induction hx with
  | mk i h0 h ih =>
    intro hm
    obtain ⟨j, hj⟩ := List.getElem?_of_mem hm
    have hpos : 0 < c.length := List.length_pos_iff.2 (List.ne_nil_of_mem hm)
    obtain ⟨b, hb⟩ : ∃ b, c[(j + 1) % c.length]? = some b := some_at (Nat.mod_lt _ hpos)
    have hbm := List.mem_of_getElem? hb
    have hbr := hc.inn b hbm
    exact ih b (hc.step j i b hj hb) hbr.1 hbr.2 hbm
/-- a way of some length -/
structure SP (e : List (List Int)) (p : List Int) : Prop where
  inn : Inn e.length p
  nodup : p.Nodup
  step : ∀ (i : Nat) (a b : Int), p[i]? = some a → p[i + 1]? = some b → b ∈ rowAt e a
theorem SP.left {e : List (List Int)} {p : List Int} {k : Int} (h : SP e (p ++ [k])) : SP e p := by
  refine ⟨fun x hx => h.inn x (List.mem_append_left _ hx), (List.nodup_append.1 h.nodup).1, fun i a b ha hb => h.step i a b ?_ ?_⟩
  · rw [List.getElem?_append_left (List.getElem?_eq_some_iff.1 ha).1]; exact ha
  · rw [List.getElem?_append_left (List.getElem?_eq_some_iff.1 hb).1]; exact hb
theorem SP.in_Wy {e : List (List Int)} {start : Int} : ∀ (d : Nat) {p : List Int}, SP e p → p.length = d + 1 → p.head? = some start → p ∈ Wy e start d
  | 0, p, h, hl, hh => by
    match p, hl with
    | [a], _ => simp only [List.head?_cons, Option.some.injEq] at hh; subst hh; simp [Wy]
  | d + 1, p, h, hl, hh => by
    have hne : p ≠ [] := fun e => by rw [e] at hl; cases hl
    obtain ⟨q, k, rfl⟩ : ∃ q k, p = q ++ [k] := ⟨p.dropLast, p.getLast hne, (List.dropLast_concat_getLast hne).symm⟩
    simp only [List.length_append, List.length_singleton] at hl
    have hql : q.length = d + 1 := by omega
    have hqh : q.head? = some start := by
      cases q with
      | nil => cases hql
      | cons a r => exact hh
    refine List.mem_flatMap.2 ⟨q, SP.in_Wy d h.left hql hqh, List.mem_map.2 ⟨k, (ks1_mem q k).2 ⟨h.inn k (by simp), ?_, fun hm => ?_⟩, rfl⟩⟩
    · refine h.step d _ k ?_ ?_
      · unfold lastI
        rw [List.getElem?_append_left (by omega), List.getLast?_eq_getElem?, show q.length - 1 = d by omega, List.getElem?_eq_getElem (by omega)]; rfl
      · rw [show d + 1 = q.length by omega]; simp
    · exact (List.nodup_append.1 h.nodup).2.2 k hm k (by simp) rfl
theorem closes_cyc {e : List (List Int)} {start : Int} {d : Nat} {p : List Int} (hs : 0 ≤ start ∧ start < e.length) (hp : p ∈ Wy e start d) (hc : start ∈ rowAt e (lastI p)) : refCyc e start ≠ [] := by
  intro h
  have hw := way_of hs hp
  have hall : ∀ i, i < e.length → wayM e i [start] = [] := by
    have href : firstTo (fun n => wayM e n [start]) e.length = [] := by
      have h' := h
      unfold refCyc at h'
      rw [if_pos hs] at h'
      exact h'
    intro i hi
    refine Classical.byContradiction fun hne => ?_
    by_cases h0 : firstTo (fun n => wayM e n [start]) i = []
    · have h1 : firstTo (fun n => wayM e n [start]) (i + 1) = wayM e i [start] := by rw [firstTo_next, if_pos h0]
      have := firstTo_stays (f := fun n => wayM e n [start]) (j := i + 1) (n := e.length) (by rw [h1]; exact hne) (by omega)
      rw [href, h1] at this
      exact hne this.symm
    · have := firstTo_stays (f := fun n => wayM e n [start]) (j := i) (n := e.length) h0 (by omega)
      rw [href] at this
      exact h0 this.symm
  have h1 := hall d hw.lt
  rw [wayM_find d (by simp), ways_Wy] at h1
  cases hf : (Wy e start d).find? (fun p => cl e start (lastI p)) with
  | none => exact absurd hc (by simpa [cl] using List.find?_eq_none.1 hf p hp)
  | some q =>
    have h2 : ((Wy e start d).find? fun p => cl e ([start].headD 0) (lastI p)) = some q := hf
    rw [h2] at h1
    exact (way_of hs (List.mem_of_find?_eq_some hf)).ne h1
theorem stuck_next {e : List (List Int)} {x : Int} (hx : 0 ≤ x ∧ x < e.length) (h : ¬Ends e x) : ∃ y, y ∈ rowAt e x ∧ (0 ≤ y ∧ y < e.length) ∧ ¬Ends e y := by
  refine Classical.byContradiction fun hn => h (.mk x hx fun k hk h0 h1 => ?_)
  exact Classical.byContradiction fun hk2 => hn ⟨k, hk, ⟨h0, h1⟩, hk2⟩
theorem stuck_cyc {e : List (List Int)} : ∀ (m : Nat) {p : List Int}, SP e p → p ≠ [] → (∀ x, x ∈ p → ¬Ends e x) → e.length < p.length + m → ∃ s : Int, (0 ≤ s ∧ s < e.length) ∧ refCyc e s ≠ []
  | 0, p, h, _, _, hl => by have := range_len _ h.nodup h.inn; omega
  | m + 1, p, h, hne, hE, hl => by
    obtain ⟨q, k, rfl⟩ : ∃ q k, p = q ++ [k] := ⟨p.dropLast, p.getLast hne, (List.dropLast_concat_getLast hne).symm⟩
    have hk := h.inn k (by simp)
    obtain ⟨y, hy1, hy2, hy3⟩ := stuck_next hk (hE k (by simp))
    by_cases hy : y ∈ q ++ [k]
    · obtain ⟨j, hj⟩ := List.getElem?_of_mem hy
      have hjl := (List.getElem?_eq_some_iff.1 hj).1
      have hsp : SP e ((q ++ [k]).drop j) := by
        refine ⟨fun x hx => h.inn x (List.mem_of_mem_drop hx), h.nodup.sublist (List.drop_sublist _ _), fun i a b ha hb => h.step (j + i) a b ?_ ?_⟩
        · rw [List.getElem?_drop] at ha; exact ha
        · rw [List.getElem?_drop] at hb; rw [Nat.add_assoc]; exact hb
      have hlen : ((q ++ [k]).drop j).length = ((q ++ [k]).length - j - 1) + 1 := by rw [List.length_drop]; omega
      have hhead : ((q ++ [k]).drop j).head? = some y := by rw [List.head?_drop]; exact hj
      refine ⟨y, hy2, closes_cyc hy2 (SP.in_Wy _ hsp hlen hhead) ?_⟩
      have : lastI ((q ++ [k]).drop j) = k := by
        unfold lastI
        rw [List.getLast?_drop, if_neg (by omega)]
        simp
      rw [this]; exact hy1
    · have hsp : SP e ((q ++ [k]) ++ [y]) := by
        refine ⟨fun x hx => ?_, ?_, fun i a b ha hb => ?_⟩
        · rcases List.mem_append.1 hx with hx | hx
          · exact h.inn x hx
          · simp only [List.mem_singleton] at hx; subst hx; exact hy2
        · rw [List.nodup_append]
          refine ⟨h.nodup, by simp, fun a ha b hb => ?_⟩
          simp only [List.mem_singleton] at hb
          subst hb
          rintro rfl
          exact hy ha
        · have hbl := (List.getElem?_eq_some_iff.1 hb).1
          rw [List.length_append, List.length_singleton] at hbl
          rw [List.getElem?_append_left (by omega)] at ha
          by_cases hi : i + 1 < (q ++ [k]).length
          · rw [List.getElem?_append_left hi] at hb
            exact h.step i a b ha hb
          · have hie : i + 1 = (q ++ [k]).length := by omega
            rw [hie] at hb
            simp only [List.getElem?_concat_length, Option.some.injEq] at hb
            subst hb
            have hiq : i = q.length := by simp at hie; omega
            rw [hiq] at ha
            simp only [List.getElem?_concat_length, Option.some.injEq] at ha
            subst ha
            exact hy1
      refine stuck_cyc m hsp (by simp) (fun x hx => ?_) (by rw [List.length_append, List.length_singleton]; omega)
      rcases List.mem_append.1 hx with hx | hx
      · exact hE x hx
      · simp only [List.mem_singleton] at hx; subst hx; exact hy3
theorem some_cyc {e : List (List Int)} {x : Int} (hx : 0 ≤ x ∧ x < e.length) (h : ¬Ends e x) : ∃ s : Int, (0 ≤ s ∧ s < e.length) ∧ refCyc e s ≠ [] :=
  stuck_cyc (e.length + 1) (p := [x]) ⟨fun y hy => by simp only [List.mem_singleton] at hy; subst hy; exact hx, by simp, fun i a b _ hb => by simp at hb⟩ (by simp) (fun y hy => by simp only [List.mem_singleton] at hy; subst hy; exact h) (by simp; omega)
theorem vic_pos {c ages : List Int} {n : Nat} (hc : c ≠ []) (hi : Inn n c) (ha : ages.length = n) : 0 ≤ vic c ages := by
  have : ∀ (l : List Int) (b : Int), 0 ≤ b → 0 ≤ l.foldl (vicStep ages) b := by
    intro l
    induction l with
    | nil => intro b h; exact h
    | cons a l ih =>
      intro b h
      refine ih _ ?_
      unfold vicStep
      split
      · rename_i g; exact g.1
      · exact h
  cases c with
  | nil => exact absurd rfl hc
  | cons a r =>
    have har := hi a List.mem_cons_self
    show 0 ≤ r.foldl (vicStep ages) (vicStep ages (-1) a)
    refine this r _ ?_
    unfold vicStep
    rw [if_pos ⟨har.1, by omega, .inl (by omega)⟩]
    exact har.1
end Go.Rt
end

/- Who is found, round by round. -/
section
namespace Go.Rt
open Go.Vm

def fnd (l : List (List Int)) (ages : List Int) : Nat → Int
  | 0 => -1
  | i + 1 => if refCyc l (i : Int) ≠ [] ∧ fnd l ages i < 0 then vic (refCyc l (i : Int)) ages else fnd l ages i
theorem fnd_neg {l : List (List Int)} {ages : List Int} (ha : ages.length = l.length) : ∀ i, fnd l ages i < 0 → ∀ j, j < i → refCyc l (j : Int) = []
  | 0, _, j, hj => by omega
  | i + 1, h, j, hj => by
    unfold fnd at h
    split at h
    · rename_i g
      have := vic_pos g.1 (refCyc_is g.1).inn ha
      omega
    · rename_i g
      by_cases hji : j = i
      · subst hji
        exact Classical.byContradiction fun hne => g ⟨hne, h⟩
      · exact fnd_neg ha i h j (by omega)
theorem fnd_pos {l : List (List Int)} {ages : List Int} : ∀ i, 0 ≤ fnd l ages i → fnd l ages i < l.length ∧ rowAt l (fnd l ages i) ≠ [] ∧ ∃ j, refCyc l j ≠ []
  | 0, h => by simp [fnd] at h
  | i + 1, h => by
    unfold fnd at h ⊢
    split at h
    · rename_i g
      rw [if_pos g]
      have hc := refCyc_is g.1
      have hm := (vic_mem (refCyc l (i : Int)) ages).resolve_left (by omega)
      have hr := hc.inn _ hm
      refine ⟨hr.2, fun h0 => free_cycle (i := (vic (refCyc l (i : Int)) ages).toNat) (e := l) ?_ (i : Int) ?_, _, g.1⟩
      · rw [show ((vic (refCyc l (i : Int)) ages).toNat : Int) = vic (refCyc l (i : Int)) ages by omega]; exact h0
      · rw [show ((vic (refCyc l (i : Int)) ages).toNat : Int) = vic (refCyc l (i : Int)) ages by omega]; exact hm
    · rename_i g
      rw [if_neg g]
      exact fnd_pos i h
/-- how many wait for anybody -/
def nec (l : List (List Int)) : Nat := l.countP fun r => decide (r ≠ [])
theorem nec_le (l : List (List Int)) : nec l ≤ l.length := List.countP_le_length
theorem nec_set : ∀ (l : List (List Int)) (i : Nat) {r : List Int}, l[i]? = some r → r ≠ [] → nec (l.set i []) + 1 = nec l
  | [], i, r, h, _ => by simp at h
  | a :: l, 0, r, h, hr => by
    simp only [List.getElem?_cons_zero, Option.some.injEq] at h
    subst h
    unfold nec
    rw [List.set_cons_zero, List.countP_cons, List.countP_cons]
    simp [hr]
  | a :: l, i + 1, r, h, hr => by
    have ih := nec_set l i (r := r) (by simpa using h) hr
    unfold nec at ih ⊢
    rw [List.set_cons_succ, List.countP_cons, List.countP_cons]
    omega
/-- somebody is stuck just where somebody is found -/
theorem fnd_stuck {l : List (List Int)} {ages out : List Int} (ha : ages.length = l.length) (hm : ∀ x, x ∈ out ↔ (0 ≤ x ∧ x < l.length) ∧ ¬Ends l x) : fnd l ages l.length < 0 ↔ out = [] := by
  constructor
  · intro h
    cases out with
    | nil => rfl
    | cons x r =>
      obtain ⟨h1, h2⟩ := (hm x).1 List.mem_cons_self
      obtain ⟨s, hs, hne⟩ := some_cyc h1 h2
      obtain ⟨s', rfl⟩ : ∃ s' : Nat, s = s' := ⟨s.toNat, by omega⟩
      exact absurd (fnd_neg ha l.length h s' (by omega)) hne
  · intro h
    refine Classical.byContradiction fun hn => ?_
    obtain ⟨_, _, j, hj⟩ := fnd_pos l.length (by omega : 0 ≤ fnd l ages l.length)
    have hc := refCyc_is hj
    have hjm := List.mem_of_getElem? hc.head
    have : j ∈ out := (hm j).2 ⟨hc.inn j hjm, fun he => cyc_stuck hc j he hjm⟩
    rw [h] at this
    cases this
theorem cyc_out {l : List (List Int)} {out : List Int} {j : Int} (hm : ∀ x, x ∈ out ↔ (0 ≤ x ∧ x < l.length) ∧ ¬Ends l x) (hj : refCyc l j ≠ []) : j ∈ out := by
  have hc := refCyc_is hj
  have hjm := List.mem_of_getElem? hc.head
  exact (hm j).2 ⟨hc.inn j hjm, fun he => cyc_stuck hc j he hjm⟩
end Go.Rt
end
