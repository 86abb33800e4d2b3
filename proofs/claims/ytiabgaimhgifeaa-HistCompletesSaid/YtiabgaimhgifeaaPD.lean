/- Contracts of functions of the program, and what they lean on. Conditions: those of each theorem. -/
import Derived.Test.YtiabgaimhgifeaaPC

set_option linter.unusedVariables false
set_option linter.unusedSimpArgs false

/- Contracts: the checker's frame and write. -/
section
namespace Go.Rt
open Go.Vm

/-- rule 2, as the checker asks -/
def CkFrame (es : List Ev) (e : Ev) : Prop := 1 ≤ e.txn ∧ 1 ≤ e.kind ∧ e.kind ≤ 6 ∧ (e.kind = 1 → stOf es e.txn = 0 ∧ 1 ≤ e.level ∧ e.level ≤ 5) ∧ (e.kind ≠ 1 → stOf es e.txn = 1)
instance (es : List Ev) (e : Ev) : Decidable (CkFrame es e) := by unfold CkFrame; exact inferInstance
def esF (es : List Ev) (e : Ev) : List Ev := if CkFrame es e then es ++ [e] else es

theorem hist_frame_spec (h : Hs) (es b c : List Ev) (e : Ev) : GSpec prog false n_hist_checker_frame [.ptr 1000 0, e.av] (ckH h es b c) (vb (ofP (CkFrame es e))) (ckH h (esF es e) b c) := by
  refine gspecM1 hist_checker_frame_is (by simp) (by decide) rfl rfl ?_
  by_cases hF : CkFrame es e
  · have hE : esF es e = es ++ [e] := if_pos hF
    rw [hE]
    obtain ⟨h1, h2, h3, h4, h5⟩ := id hF
    have n1 : ¬e.txn < 1 := by omega
    have n2 : ¬e.kind < 1 := by omega
    have n3 : ¬6 < e.kind := by omega
    by_cases k1 : e.kind = 1
    · obtain ⟨g1, g2, g3⟩ := h4 k1
      have n4 : ¬e.level < 1 := by omega
      have n5 : ¬5 < e.level := by omega
      have hg := gset_gS (es := es) (e := e) (.inl k1)
      rw [k1] at hg
      simp -dsimp [hist_checker_frame, Ev.av, n1, n2, n3, k1, g1, n4, n5, hg, hF]
    · have g1 := h5 k1
      by_cases k5 : e.kind = 5
      · have hg := gset_gS (es := es) (e := e) (.inr (.inl k5))
        rw [k5] at hg
        simp -dsimp [hist_checker_frame, Ev.av, n1, n2, n3, k1, g1, k5, hg, hF]
      · by_cases k6 : e.kind = 6
        · have hg := gset_gS (es := es) (e := e) (.inr (.inr k6))
          rw [k6] at hg
          simp -dsimp [hist_checker_frame, Ev.av, n1, n2, n3, k1, g1, k6, hg, hF]
        · have hg := gS_same (es := es) (e := e) (by omega)
          simp -dsimp [hist_checker_frame, Ev.av, n1, n2, n3, k1, g1, k5, k6, hg, hF]
  · have hE : esF es e = es := if_neg hF
    rw [hE]
    simp -dsimp [hist_checker_frame, Ev.av, hF]
    unfold CkFrame at hF
    grind

/-- rule 3, as the checker asks ahead of its writing -/
def CkW (h : Hs) (es : List Ev) (e : Ev) : Prop := e.kind = 3 → KeyOk h e.table e.key ∧ e.n = wrote es e.txn e.table e.key + 1
noncomputable def esW (h : Hs) (es : List Ev) (e : Ev) : List Ev := @ite _ (CkW h es e) (Classical.propDecidable _) (es ++ [e]) es

set_option maxRecDepth 5000 in
set_option maxHeartbeats 4000000 in
theorem hist_write_spec {h : Hs} (ht : h.TbsOk) (a es : List Ev) (hes : es.length < 2 ^ 32) (e : Ev) : GSpec prog false n_hist_checker_write [.ptr 1000 0, e.av] (ckH h a es es) (vb (ofP (e.kind = 3 → WriteOk h es e))) (ckH h a (esW h es e) (esW h es e)) := by
  refine gspecM1 hist_checker_write_is (by simp) (by decide) rfl rfl ?_
  by_cases k3 : e.kind = 3
  · simp -dsimp [hist_checker_write, Ev.av, k3]
    refine call_pure (hist_key_spec ht a es e.table e.key) (by simp [ckIV]; rfl) (by simp [ckIV]) ?_
    by_cases hK : KeyOk h e.table e.key
    · have hwl := wrote_le es e.txn e.table e.key
      have hw := wrap_in (n := (wrote es e.txn e.table e.key : Int) + 1) (by omega)
      by_cases hn : e.n = wrote es e.txn e.table e.key + 1
      · have hE : esW h es e = es ++ [e] := if_pos fun g => ⟨hK, hn⟩
        rw [hE]
        obtain ⟨h0, t, htt, hr, hc⟩ := id hK
        have hgW := gset_gW (es := es) (e := e) k3
        have hWO : WriteOk h es e ↔ e.row = [] ∨ (Fits t e.row ∧ e.row[0]? = some e.key) := by
          unfold WriteOk
          constructor
          · rintro ⟨_, _, g | ⟨t', g2, g3, g4⟩⟩
            · exact .inl g
            · rw [htt] at g2; cases g2; exact .inr ⟨g3, g4⟩
          · rintro (g | ⟨g3, g4⟩)
            · exact ⟨hK, hn, .inl g⟩
            · exact ⟨hK, hn, .inr ⟨t, htt, g3, g4⟩⟩
        have hw1 : IntKind.i64.wrap 1 = 1 := by rw [IntKind.wrap_i64]; omega
        by_cases h1 : wrote es e.txn e.table e.key = 0
        · have hn1 : e.n = 1 := by omega
          rw [h1] at hgW
          have hgP := gset_gP (es := es) (e := e) k3 hn1
          by_cases hs : spots es e.txn = []
          · rw [hs] at hgP
            by_cases hrow : e.row = []
            · simp -dsimp [hK, hw1, hn1, h1, gP_nil hs, hrow, hWO]
              exact ⟨hgW, hgP⟩
            · obtain ⟨v, hv⟩ : ∃ v, e.row[0]? = some v := some_at (List.length_pos_iff.2 hrow)
              simp -dsimp [hK, hw1, hn1, h1, gP_nil hs, hrow, h0, htt]
              repeat' apply And.intro
              all_goals try omega
              all_goals
                refine call_pure (row_Fits_spec t e.row) (by simp [tbAV, rowIV, rowC]) (by simp [tbAV]) ?_
                by_cases hf : Fits t e.row
                · simp -dsimp [hf, hv, hWO, hrow, ofP_eq, Vl.eq_iff]
                  exact ⟨hgW, hgP⟩
                · simp -dsimp [hf, hWO, hrow]
                  exact ⟨hgW, hgP⟩
          · have hsl := spots_le es e.txn
            by_cases hrow : e.row = []
            · simp -dsimp [hK, hw1, hn1, h1, gP_some hs, hrow, hWO]
              exact ⟨by omega, by omega, hgW, hgP⟩
            · obtain ⟨v, hv⟩ : ∃ v, e.row[0]? = some v := some_at (List.length_pos_iff.2 hrow)
              simp -dsimp [hK, hw1, hn1, h1, gP_some hs, hrow, h0, htt]
              repeat' apply And.intro
              all_goals try omega
              all_goals
                refine call_pure (row_Fits_spec t e.row) (by simp [tbAV, rowIV, rowC]) (by simp [tbAV]) ?_
                by_cases hf : Fits t e.row
                · simp -dsimp [hf, hv, hWO, hrow, ofP_eq, Vl.eq_iff]
                  exact ⟨hgW, hgP⟩
                · simp -dsimp [hf, hWO, hrow]
                  exact ⟨hgW, hgP⟩
        · have hgP := gP_same (es := es) (e := e) (by omega)
          have hn1 : ¬((wrote es e.txn e.table e.key : Int) + 1 = 1) := by omega
          by_cases hrow : e.row = []
          · simp -dsimp [hK, hw, hn, hn1, hrow, hWO]
            exact ⟨hgW, hgP.symm⟩
          · obtain ⟨v, hv⟩ : ∃ v, e.row[0]? = some v := some_at (List.length_pos_iff.2 hrow)
            simp -dsimp [hK, hw, hn, hn1, hrow, h0, htt]
            repeat' apply And.intro
            all_goals
              refine call_pure (row_Fits_spec t e.row) (by simp [tbAV, rowIV, rowC]) (by simp [tbAV]) ?_
              by_cases hf : Fits t e.row
              · simp -dsimp [hf, hv, hWO, hrow, ofP_eq, Vl.eq_iff]
                exact ⟨hgW, hgP.symm⟩
              · simp -dsimp [hf, hWO, hrow]
                exact ⟨hgW, hgP.symm⟩
      · have hE : esW h es e = es := if_neg fun g => hn (g k3).2
        rw [hE]
        simp -dsimp [hK, hw, hn]
        exact fun g => hn g.2.1
    · have hE : esW h es e = es := if_neg fun g => hK (g k3).1
      rw [hE]
      simp -dsimp [hK]
      exact fun g => hK g.1
  · have hE : esW h es e = es ++ [e] := if_pos fun g => absurd g k3
    rw [hE]
    simp -dsimp [hist_checker_write, Ev.av, k3, gW_same k3, gP_same (fun g => k3 g.1)]
end Go.Rt
end
