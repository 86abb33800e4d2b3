/- WaitsEnds is so of every input: the given statement. Conditions: none beyond the statement itself. -/
import Derived.Test.YtoiegcefpofheaaPJ
import Derived.Test.YtoiegcefpofheaaPE

set_option linter.unusedVariables false
set_option linter.unusedSimpArgs false

/- Contract: the statement about who is stuck and who goes. -/
section
namespace Go.Rt
open Go.Vm

set_option maxHeartbeats 4000000 in
theorem WaitsEnds_spec (e : List (List Int)) (ages : List Int) (he : e.length < 2 ^ 63) (ha : ages.length < 2 ^ 63) :
    GSpec prog true n_ratlinelaw12_WaitsEnds [.iv (rowsIV e), .iv (intsIV ages)] [] (vb true) [] := by
  refine gspec1 ratlinelaw12_WaitsEnds_is (by simp) (by decide) rfl ?_
  simp -dsimp [ratlinelaw12_WaitsEnds, rowsIV, intsIV]
  refine call_pure awake_spec (by simp) (by simp) ?_
  simp -dsimp
  refine call_pure (law12_small_spec e 20 he) (by simp [rowsIV]) (by simp) ?_
  by_cases hs : Small e 20
  · by_cases hal : ages.length = e.length
    · have hok := hs.ok (by decide)
      have hle := hs.1
      have hal2 : (ages.length : Int) = e.length := by omega
      simp -dsimp [hs, hal, hal2]
      refine ⟨by omega, by omega, ?_⟩
      refine loop_any (fun k s => ∃ (n : Nat) (l : List (List Int)), k = e.length + 1 - n ∧ (n + nec l ≤ e.length ∧ l.length = e.length ∧ RowsOk l) ∧
        s = ⟨[(8, vi n), (7, .sl 7 1 0 e.length), (0, .iv (rowsIV e)), (1, .iv (.lst 1 (intsC ages)))], [(7, .list 1 (rowsC l))]⟩) ⟨_, _, LeTo.le (D := []) ?_, 0, e, rfl, ⟨by have := nec_le e; omega, rfl, hok⟩, rfl⟩ ?_
      · simp [rowsIV]
      · rintro k s ⟨n, l, rfl, ⟨hne, hll, hlok⟩, rfl⟩
        have hnl : (n : Int) ≤ e.length := by omega
        have hnl2 : ¬e.length < n := by omega
        have hnw := wrap_in (n := (n : Int) + 1) (by omega)
        obtain ⟨out, hol, hm, g1, _⟩ := Stuck_any hlok
        have hfs := fnd_stuck (l := l) (ages := ages) (by omega) hm
        simp -dsimp [ratlinelaw12_WaitsEnds_l29, rowsIV, hnl2]
        intro _
        refine call_new (g1 37) (by decide) (by simp [rowsIV, List.take_of_length_le, hll]) (by simp) ?_
        simp -dsimp
        refine loop_idx [] [46] e.length (fun i => ⟨[(11, vi i), (10, vi (fnd l ages i)), (9, .sl 37 1 0 out.length), (8, vi n), (7, .sl 7 1 0 e.length), (0, .iv (rowsIV e)), (1, .iv (.lst 1 (intsC ages)))],
          [(37, .list 1 (intsC out)), (7, .list 1 (rowsC l))]⟩) (fun _ => True) ?_ trivial ?_
        · simp [rowsIV, fnd]
        · intro i hi _
          by_cases hil : i < e.length
          · have hil2 : ¬e.length ≤ i := by omega
            have hiw := wrap_in (n := (i : Int) + 1) (by omega)
            have hrl := refCyc_len (e := l) (start := (i : Int))
            have hco := cyc_out (l := l) (out := out) (j := (i : Int)) hm
            have hfn : fnd l ages (i + 1) = if refCyc l (i : Int) ≠ [] ∧ fnd l ages i < 0 then vic (refCyc l (i : Int)) ages else fnd l ages i := rfl
            have hcy := Cycle_any hlok (i : Int) 46
            generalize refCyc l (i : Int) = c at *
            simp -dsimp [ratlinelaw12_WaitsEnds_l22, rowsIV, hil2]
            intro _
            refine call_new hcy (by decide) (by simp [rowsIV, List.take_of_length_le, hll]) (by simp) ?_
            by_cases hc : c = []
            · rw [if_neg (by rintro ⟨h, _⟩; exact h hc)] at hfn
              simp -dsimp [hc, hiw, hfn, rowsIV]
              exact hil
            · have hio := hco hc
              have hc0 : ¬c.length = 0 := fun h => hc (List.eq_nil_of_length_eq_zero h)
              simp -dsimp [hc0, hc]
              refine call_pure (law12_in_spec out i (by omega)) (by simp [intsIV, List.take_of_length_le]) (by simp) ?_
              by_cases hf : fnd l ages i < 0
              · rw [if_pos ⟨hc, hf⟩] at hfn
                simp -dsimp [hio, hf]
                refine call_pure (Victim_spec c ages (by omega)) (by simp [intsIV, List.take_of_length_le]) (by simp) ?_
                simp -dsimp [hiw, hfn, rowsIV]
                exact hil
              · rw [if_neg (by rintro ⟨_, h⟩; exact hf h)] at hfn
                simp -dsimp [hio, hf, hiw, hfn, rowsIV]
                exact hil
          · have hie : i = e.length := by omega
            subst hie
            rw [hll] at hfs
            by_cases hf : fnd l ages e.length < 0
            · have ho := hfs.1 hf
              simp -dsimp [ratlinelaw12_WaitsEnds_l22, rowsIV, hf, ho]
            · have ho : ¬out = [] := fun h => hf (hfs.2 h)
              have ho2 : ¬out.length = 0 := fun h => ho (List.eq_nil_of_length_eq_zero h)
              obtain ⟨f1, f2, _⟩ := fnd_pos (l := l) (ages := ages) e.length (by omega)
              generalize hfv : fnd l ages e.length = v at *
              obtain ⟨v', rfl⟩ : ∃ v' : Nat, v = v' := ⟨v.toNat, by omega⟩
              obtain ⟨row, hrow⟩ : ∃ row, l[v']? = some row := some_at (by omega)
              rw [rowAt_get hrow] at f2
              have hget : (rowsC l)[v']? = some [.lst 1 (intsC row)] := by rw [rowsC_get, hrow]; rfl
              have hns := nec_set l v' hrow f2
              simp -dsimp [ratlinelaw12_WaitsEnds_l22, rowsIV, hf, ho2, hget, hnw]
              refine ⟨by omega, e.length + 1 - (n + 1), by omega, _, Le.trans (le_rows (id := 7) (z := 0) (i := v') (e := l) (by omega) (by simp)) (LeTo.le (D := [37]) ?_), n + 1, rfl, l.set v' [], ⟨by omega, by simpa using hll, hlok.set v' (by simp)⟩, rfl⟩
              simp [rowsIV]
    · have hal2 : ¬(ages.length : Int) = e.length := by omega
      simp -dsimp [hs, hal, hal2]
  · simp -dsimp [hs]
end Go.Rt
end

/- WaitsEnds is so of every input: the given statement. Conditions: none beyond the statement itself. -/
section
namespace Go.Proofs.Ytoiegcefpofheaa
open Go.ChangeShapes Go.WideShapes Go.ChangeAt Go.RowKit Go.Vm Go.Rt
open Go.Proofs (Try.prog)

set_option maxRecDepth 100000 in
theorem waitsEnds_lifted (os : Os) (started : os.Started) (H : Type) (enc : TypeId × Value → H) :
    ReturnsInHanded {} Try.checked os 7 .any (Rows.waitsEndsSpec.pre6 enc Try.prog Try.f7 Rows.waitsEndsRow.domain false) (Rows.waitsEndsSpec.post enc Try.prog Try.f7 false true false false) := by
  refine returnsInHanded_of_change (C := Try.checked) own started (by kernel_rfl) Try.func7
    (ChangeSpec.witness6 (enc := enc) (C := Try.checked) false ⟨#[], #[.slice none 0 0, .slice none 0 0], []⟩ 8 (by kernel_rfl) (by kernel_rfl) (by kernel_rfl) (by kernel_rfl)) ?_
  intro W base args ds gs before hval hW hcnd _
  refine law_contract (C := Try.checked) (S := tset) tset_ok laidOut (fn := Try.f7) (ts := [22, 26]) (tb := 4) (spec := Rows.waitsEndsSpec) rfl (by rw [Try.params7]) (by decide) (fun t ht => readable t (by revert ht; simp only [List.mem_cons, List.not_mem_nil, or_false]; grind)) rfl (by kernel_rfl) ?_ ?_ hval hW
  · intro H ds hl
    match ds, hl with
    | [d1, d2], _ => exact ⟨rfl, rfl, rfl⟩
  · intro css hcss
    obtain ⟨e, l, he, hl, e2⟩ := args_rl hcss
    show GSpec Try.prog true 7 (argsT Try.prog [22, 26] css) [] _ []
    rw [e2]
    exact WaitsEnds_spec e l he hl

theorem waitsEnds : Rows.WaitsEndsSaid :=
  OpenClaim.holds_of_wide 7 Try.f7 rfl rfl rfl rfl rfl rfl rfl ⟨rfl, rfl, rfl, rfl, rfl⟩ rfl rfl rfl rfl rfl (by kernel_rfl) Try.func7 (by kernel_rfl)
    (of_decide_eq_true (by kernel_rfl)) (by unfold Func.isWrapper; first | (rw [if_pos (by decide +kernel)]; kernel_rfl) | (rw [if_neg (by decide +kernel)]; exact ⟨rfl, rfl⟩))
    (fun os started H enc _ => waitsEnds_lifted os started H enc)
#print axioms waitsEnds
end Go.Proofs.Ytoiegcefpofheaa
end
