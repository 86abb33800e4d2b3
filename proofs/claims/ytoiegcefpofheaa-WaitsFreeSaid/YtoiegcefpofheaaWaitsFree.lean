/- WaitsFree is so of every input: the given statement. Conditions: none beyond the statement itself. -/
import Derived.Test.YtoiegcefpofheaaPH
import Derived.Test.YtoiegcefpofheaaPI
import Derived.Test.YtoiegcefpofheaaPE

set_option linter.unusedVariables false
set_option linter.unusedSimpArgs false

/- Contract: the statement about who waits for nobody. -/
section
namespace Go.Rt
open Go.Vm

theorem RowsOk.set {e : List (List Int)} (h : RowsOk e) (i : Nat) {l : List Int} (hl : l.length ≤ 1000) : RowsOk (e.set i l) :=
  ⟨by simpa using h.len, fun x hx => by
    rcases List.mem_or_eq_of_mem_set hx with hx | rfl
    · exact h.rows x hx
    · exact hl⟩
set_option maxHeartbeats 4000000 in
theorem WaitsFree_spec (e : List (List Int)) (start : Int) (ages : List Int) (he : e.length < 2 ^ 63) (ha : ages.length < 2 ^ 63) (_hi : (Lit.int .i64 start).wf = true) :
    GSpec prog true n_ratlinelaw12_WaitsFree [.iv (rowsIV e), vi start, .iv (intsIV ages)] [] (vb true) [] := by
  refine gspec1 ratlinelaw12_WaitsFree_is (by simp) (by decide) rfl ?_
  simp -dsimp [ratlinelaw12_WaitsFree, rowsIV, intsIV]
  refine call_pure awake_spec (by simp) (by simp) ?_
  simp -dsimp
  refine call_pure (law12_small_spec e 20 he) (by simp [rowsIV]) (by simp) ?_
  obtain ⟨q, hq, hq2⟩ := bits_1023 start
  by_cases hs : Small e 20
  · by_cases hn : e = []
    · simp -dsimp [hs, hn]
    · have hpos := List.length_pos_iff.2 hn
      have hok := hs.ok (by decide)
      have hle := hs.1
      have hln : ¬(e.length : Int) = 0 := by omega
      have hln2 : ¬e.length = 0 := by omega
      have htm : (q : Int).tmod (e.length : Int) = ((q % e.length : Nat) : Int) := by
        rw [Int.tmod_eq_emod_of_nonneg (by omega)]; push_cast; rfl
      have hil : q % e.length < e.length := Nat.mod_lt _ hpos
      generalize hi : q % e.length = i at htm hil
      have hil2 : (i : Int) < e.length := by omega
      have hget : (rowsC e)[i]? = some [.lst 1 (intsC (e[i]))] := by rw [rowsC_get, List.getElem?_eq_getElem hil]; rfl
      simp -dsimp [hs, hn, hq, htm, hln, hln2, hget]
      refine ⟨by omega, by omega, hil, ?_⟩
      refine call_le (le_rows (id := 9) (z := 0) hil (by simp)) ?_
      have hok2 := hok.set i (l := []) (by simp)
      have hr0 : rowAt (e.set i []) (i : Int) = [] := rowAt_set' hil []
      have hil3 : i < (e.set i []).length := by simpa using hil
      obtain ⟨out, hl, hm, g1, _⟩ := Stuck_any hok2
      simp only [List.length_set] at hl
      have hno : (i : Int) ∉ out := fun h => ((hm _).1 h).2 (free_ends hil3 hr0)
      refine call_new (g1 35) (by decide) (by simp [rowsIV, List.take_of_length_le]) (by simp) ?_
      simp -dsimp
      refine call_pure (law12_in_spec out i (by omega)) (by simp [intsIV, List.take_of_length_le]) (by simp) ?_
      simp -dsimp [hno]
      have hcy := Cycle_any hok2 (i : Int) 41
      rw [free_nil hr0] at hcy
      refine call_new hcy (by decide) (by simp [rowsIV, List.take_of_length_le]) (by simp) ?_
      simp -dsimp
      refine loop_idx [35, 41] [53] e.length (fun k => ⟨[(10, vi k), (9, .sl 9 1 0 e.length), (1, vi i), (2, .iv (.lst 1 (intsC ages)))], [(9, .list 1 (rowsC (e.set i [])))]⟩) (fun _ => True) ?_ trivial ?_
      · simp
      · intro k hk _
        by_cases hkl : k < e.length
        · have hkl2 : ¬e.length ≤ k := by omega
          have hkw := wrap_in (n := (k : Int) + 1) (by omega)
          have hcl := refCyc_len (e := e.set i []) (start := (k : Int))
          simp only [List.length_set] at hcl
          simp -dsimp [ratlinelaw12_WaitsFree_l18, hkl2]
          intro _
          refine call_new (Cycle_any hok2 (k : Int) 53) (by decide) (by simp [rowsIV, List.take_of_length_le]) (by simp) ?_
          simp -dsimp
          refine call_pure (law12_in_spec (refCyc (e.set i []) (k : Int)) i (by omega)) (by simp [intsIV, List.take_of_length_le]) (by simp) ?_
          simp -dsimp [free_cycle hr0 (k : Int), hkw, hkl]
        · have hke : k = e.length := by omega
          subst hke
          have hgs : (rowsC (e.set i []))[i]? = some [.lst 1 (intsC [])] := by rw [rowsC_get, List.getElem?_set, if_pos rfl, if_pos hil]; rfl
          have hci : [[ci (i : Int)]] = intsC [(i : Int)] := rfl
          have hset : (rowsC (e.set i [])).set i [.lst 1 [[ci (i : Int)]]] = rowsC (e.set i [(i : Int)]) := by
            rw [hci, rowsC_set, List.set_set]
          simp -dsimp [ratlinelaw12_WaitsFree_l18, hgs, hset]
          refine ⟨hil, ?_⟩
          have hok3 := hok.set i (l := [(i : Int)]) (by simp)
          have hil4 : i < (e.set i [(i : Int)]).length := by simpa using hil
          have hr1 : (i : Int) ∈ rowAt (e.set i [(i : Int)]) (i : Int) := by rw [rowAt_set' hil]; simp
          have hcy3 := Cycle_any hok3 (i : Int) 63
          rw [self_cycle hil4 hr1] at hcy3
          obtain ⟨out3, hl3, hm3, g3, _⟩ := Stuck_any hok3
          simp only [List.length_set] at hl3
          have hin3 : (i : Int) ∈ out3 := (hm3 _).2 ⟨⟨by omega, by omega⟩, self_stuck hil4 hr1⟩
          refine call_new hcy3 (by decide) (by simp [rowsIV, List.take_of_length_le]) (by simp) ?_
          simp -dsimp
          refine call_pure (ref10_Ints_spec [(i : Int)] [(i : Int)] (by simp)) (by simp [intsIV, intsC]) (by simp) ?_
          simp -dsimp
          refine call_new (g3 69) (by decide) (by simp [rowsIV, List.take_of_length_le]) (by simp) ?_
          simp -dsimp
          refine call_pure (law12_in_spec out3 i (by omega)) (by simp [intsIV, List.take_of_length_le]) (by simp) ?_
          simp -dsimp [hin3]
          refine call_pure (Victim_spec [(i : Int)] ages (by simp)) (by simp [intsIV, intsC]) (by simp) ?_
          simp -dsimp
          refine call_pure (ref12_Victim_spec [(i : Int)] ages (by simp)) (by simp [intsIV, intsC]) (by simp) ?_
          simp -dsimp
  · simp -dsimp [hs]
end Go.Rt
end

/- WaitsFree is so of every input: the given statement. Conditions: none beyond the statement itself. -/
section
namespace Go.Proofs.Ytoiegcefpofheaa
open Go.ChangeShapes Go.WideShapes Go.ChangeAt Go.RowKit Go.Vm Go.Rt
open Go.Proofs (Try.prog)

set_option maxRecDepth 100000 in
theorem waitsFree_lifted (os : Os) (started : os.Started) (H : Type) (enc : TypeId × Value → H) :
    ReturnsInHanded {} Try.checked os 8 .any (Rows.waitsFreeSpec.pre6 enc Try.prog Try.f8 Rows.waitsFreeRow.domain false) (Rows.waitsFreeSpec.post enc Try.prog Try.f8 false true false false) := by
  refine returnsInHanded_of_change (C := Try.checked) own started (by kernel_rfl) Try.func8
    (ChangeSpec.witness6 (enc := enc) (C := Try.checked) false ⟨#[], #[.slice none 0 0, .int .i64 0, .slice none 0 0], []⟩ 8 (by kernel_rfl) (by kernel_rfl) (by kernel_rfl) (by kernel_rfl)) ?_
  intro W base args ds gs before hval hW hcnd _
  refine law_contract (C := Try.checked) (S := tset) tset_ok laidOut (fn := Try.f8) (ts := [22, 3, 26]) (tb := 4) (spec := Rows.waitsFreeSpec) rfl (by rw [Try.params8]) (by decide) (fun t ht => readable t (by revert ht; simp only [List.mem_cons, List.not_mem_nil, or_false]; grind)) rfl (by kernel_rfl) ?_ ?_ hval hW
  · intro H ds hl
    match ds, hl with
    | [d1, d2, d3], _ => exact ⟨rfl, rfl, rfl⟩
  · intro css hcss
    obtain ⟨e, i, l, he, hl, hi, e2⟩ := args_ril hcss
    show GSpec Try.prog true 8 (argsT Try.prog [22, 3, 26] css) [] _ []
    rw [e2]
    exact WaitsFree_spec e i l he hl hi

theorem waitsFree : Rows.WaitsFreeSaid :=
  OpenClaim.holds_of_wide 8 Try.f8 rfl rfl rfl rfl rfl rfl rfl ⟨rfl, rfl, rfl, rfl, rfl⟩ rfl rfl rfl rfl rfl (by kernel_rfl) Try.func8 (by kernel_rfl)
    (of_decide_eq_true (by kernel_rfl)) (by unfold Func.isWrapper; first | (rw [if_pos (by decide +kernel)]; kernel_rfl) | (rw [if_neg (by decide +kernel)]; exact ⟨rfl, rfl⟩))
    (fun os started H enc _ => waitsFree_lifted os started H enc)
#print axioms waitsFree
end Go.Proofs.Ytoiegcefpofheaa
end
