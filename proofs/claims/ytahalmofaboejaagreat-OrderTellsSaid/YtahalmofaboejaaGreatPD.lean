/- Contracts of functions of the program, and what they lean on. Conditions: those of each theorem. -/
import Derived.Test.YtahalmofaboejaaGreatPC
import Derived.Test.YtahalmofaboejaaGreatPA

set_option linter.unusedVariables false
set_option linter.unusedSimpArgs false

/- Contracts: the checker looks. -/
section
namespace Go.Rt
open Go.Vm
theorem hist_key_spec {h : Hs} (ht : h.TbsOk) (a es : List Ev) (table : Int) (k : Vl) : GSpec prog true n_hist_checker_key [.iv (ckIV h a es), vi table, k.av] [] (vb (ofP (KeyOk h table k))) [] := by
  refine gspec1 hist_checker_key_is (by simp) (by decide) rfl ?_
  simp -dsimp [hist_checker_key, ckIV]
  refine ⟨fun h1 => ⟨fun h2 => ?_, fun h2 => ?_⟩, fun h1 g => absurd g.1 (by omega)⟩
  · obtain ⟨n, rfl⟩ := Int.eq_ofNat_of_zero_le h1
    obtain ⟨t, htn⟩ : ∃ t, h.tables[n]? = some t := some_at (by omega)
    have hT := ht t (List.mem_of_getElem? htn)
    obtain ⟨c, hc⟩ : ∃ c, t[0]? = some c := some_at hT.1
    have hK : KeyOk h n k ↔ k.right = true ∧ k.text = c := by
      unfold KeyOk
      constructor
      · rintro ⟨_, t', h3, h4, h5⟩
        rw [show ((n : Int)).toNat = n from rfl, htn] at h3; cases h3
        rw [hc] at h5; cases h5
        exact ⟨h4, rfl⟩
      · rintro ⟨h4, h5⟩; exact ⟨h1, t, by simpa using htn, h4, by rw [hc, h5]⟩
    refine call_pure (value_Right_spec k) (by simp) (by simp) ?_
    simp -dsimp
    refine ⟨fun h3 => ?_, fun h3 g => by rw [hK] at g; rw [h3] at g; cases g.1⟩
    simp -dsimp [htn, hc, tbIV, ofP_eq, hK, h3]
  · rintro ⟨_, t, h3, _⟩
    have := (List.getElem?_eq_some_iff.1 h3).1
    omega
theorem hist_version_spec (h : Hs) (a es : List Ev) (table : Int) (k : Vl) (v : Vs) :
    GSpec prog true n_hist_checker_version [.iv (ckIV h a es), .agg [.iv (ci table), .iv (cb k.text), .iv (ci k.n), .iv (.v (.string k.s))], v.av] [] (vb (ofP (VerOk es table k v))) [] := by
  refine gspec1 hist_checker_version_is (by simp) (by decide) rfl ?_
  simp -dsimp [hist_checker_version, ckIV, ofP_eq, VerOk]
  grind
end Go.Rt
end

/- Contracts: the checker looks at reads. -/
section
namespace Go.Rt
open Go.Vm
theorem hist_read_spec {h : Hs} (ht : h.TbsOk) (a es : List Ev) (e : Ev) : GSpec prog true n_hist_checker_read [.iv (ckIV h a es), e.av] [] (vb (ofP (e.kind = 2 → ReadOk h es e))) [] := by
  refine gspec1 hist_checker_read_is (by simp) (by decide) rfl ?_
  by_cases k2 : e.kind = 2
  · by_cases hw : 0 < wrote es e.txn e.table e.key
    · simp -dsimp [hist_checker_read, ckIV, Ev.av, k2, hw]
      refine call_pure (hist_key_spec ht a es e.table e.key) (by simp [ckIV]) (by simp [ckIV]) ?_
      simp -dsimp
      refine ⟨fun g => ?_, fun g g2 => g g2.1⟩
      rw [ofP_eq]
      unfold ReadOk
      rw [if_pos hw]
      simp [g, Vs.eq_iff]
    · have hR : ReadOk h es e ↔ KeyOk h e.table e.key ∧ ((e.frm.txn = 0 ∧ e.frm.n = 0) ∨ VerOk es e.table e.key e.frm) := by
        unfold ReadOk
        rw [if_neg hw]
        simp [Vs.eq_iff]
      simp -dsimp [hist_checker_read, ckIV, Ev.av, k2, hw]
      refine call_pure (hist_key_spec ht a es e.table e.key) (by simp [ckIV]) (by simp [ckIV]) ?_
      simp -dsimp
      refine ⟨fun g => ⟨fun g2 => ?_, fun g2 g3 => hR.2 ⟨g, .inl ⟨g2, g3⟩⟩⟩, fun g g2 => g g2.1⟩
      refine call_pure (hist_version_spec h a es e.table e.key e.frm) (by simp [ckIV]) (by simp [ckIV]) ?_
      simp -dsimp [ofP_inj, hR]
      grind
  · simp -dsimp [hist_checker_read, ckIV, Ev.av, k2]
def SawOk (h : Hs) (es : List Ev) (e : Ev) : Prop := (0 ≤ e.table ∧ ∃ t, h.tables[e.table.toNat]? = some t ∧ PdOk t e.pred) ∧ Upto e.refs.length (RefAt h es e) ∧
  ∀ o, o ∈ spots es e.txn → o.1 = e.table → (lastRef e.refs o.2).getD ⟨0, 0⟩ = ⟨e.txn, wrote es e.txn o.1 o.2⟩
theorem hist_saw_spec {h : Hs} (ht : h.TbsOk) (htl : h.tables.length < 2 ^ 63) (a es : List Ev) (hes : es.length < 2 ^ 63) (e : Ev) (heok : e.Ok) : GSpec prog true n_hist_checker_saw [.iv (ckIV h a es), e.av] [] (vb (ofP (e.kind = 4 → SawOk h es e))) [] := by
  refine gspec1 hist_checker_saw_is (by simp) (by decide) rfl ?_
  by_cases k4 : e.kind = 4
  · by_cases hT : 0 ≤ e.table ∧ e.table < h.tables.length
    · obtain ⟨t0, t1⟩ := id hT
      obtain ⟨t, htt⟩ : ∃ t, h.tables[e.table.toNat]? = some t := some_at (by omega)
      have t2 : ¬(h.tables.length : Int) ≤ e.table := by omega
      have t3 : ¬e.table < 0 := by omega
      simp -dsimp [hist_checker_saw, ckIV, Ev.av, k4, t0, t3, t2, htt]
      refine call_pure (pred_Check_spec t heok.pred) (by simp [tbAV, Pd.av]) (by simp [tbAV, Pd.av]) ?_
      simp -dsimp
      have hS : SawOk h es e ↔ PdOk t e.pred ∧ Upto e.refs.length (RefAt h es e) ∧ ∀ o, o ∈ spots es e.txn → o.1 = e.table → (lastRef e.refs o.2).getD ⟨0, 0⟩ = ⟨e.txn, wrote es e.txn o.1 o.2⟩ := by
        unfold SawOk
        constructor
        · rintro ⟨⟨_, t', g1, g2⟩, g3⟩
          rw [htt] at g1; cases g1; exact ⟨g2, g3⟩
        · rintro ⟨g2, g3⟩; exact ⟨⟨t0, t, htt, g2⟩, g3⟩
      refine ⟨fun h2 g => h2 (hS.1 g).1, fun h2 => ?_⟩
      refine loop_idx [] [7, 8] e.refs.length (fun i => ⟨[(47, vi i), (46, vi e.refs.length), (45, .iv (.lst 5 (refsC e.refs))), (0, .iv (ckIV h a es)), (3, .ptr 3 0), (5, .mpr 43)],
          [(43, .map skO (gR e.table (e.refs.take i))), (3, .box (e.cells.map .iv))]⟩) (fun i => Upto i (RefAt h es e)) ?_ ?_ ?_
      · simp -dsimp [gR_nil, ckIV]
      · simp
      · intro i hi hq
        simp -dsimp [hist_checker_saw_l14, ckIV]
        refine ⟨fun hlt => ?_, fun hge => ?_⟩
        · obtain ⟨q, hqi⟩ := some_at hlt
          have hre := heok.refs
          have hw := wrap_in (n := (i : Int) + 1) (by omega)
          have hw1 := wrap_in (n := (i : Int) - 1) (by omega)
          have hno : ¬RefAt h es e i → ¬SawOk h es e := fun g1 g => g1 (g.2.1 i hlt)
          have hat : RefAt h es e i ↔ KeyOk h e.table q.key ∧ VerOk es e.table q.key q.frm ∧ (∀ p, 0 < i → e.refs[i - 1]? = some p → p.key.cmp q.key < 0) := by
            unfold RefAt; rw [hqi]
            exact ⟨fun g => g q rfl, fun g r hr => by cases hr; exact g⟩
          simp -dsimp [hqi, Rf.cells_eq q]
          refine call_pure (hist_key_spec ht a es e.table q.key) (by simp [ckIV]) (by simp [ckIV]) ?_
          simp -dsimp
          by_cases k1 : KeyOk h e.table q.key
          · simp -dsimp [k1]
            refine call_pure (hist_version_spec h a es e.table q.key q.frm) (by simp [ckIV]) (by simp [ckIV]) ?_
            simp -dsimp
            by_cases k2 : VerOk es e.table q.key q.frm
            · by_cases hi0 : 0 < i
              · obtain ⟨p, hp⟩ : ∃ p, e.refs[i - 1]? = some p := some_at (by omega)
                have e1 : ((i : Int) - 1).toNat = i - 1 := by omega
                have e2 : (0 : Int) ≤ (i : Int) - 1 := by omega
                simp -dsimp [k2, hi0, hw1, e1, e2, hp, Rf.cells_eq p]
                refine ⟨⟨by omega, call_pure (value_Compare_spec p.key q.key) (by simp) (by simp) ?_⟩, fun g => absurd g (by omega)⟩
                simp -dsimp [hw, gset_gR, take_next hqi]
                refine ⟨fun k3 => hno fun g => absurd ((hat.1 g).2.2 p hi0 hp) (by omega), fun k3 => ⟨hlt, hq.succ (hat.2 ⟨k1, k2, fun p' _ hp' => by rw [hp] at hp'; cases hp'; exact k3⟩)⟩⟩
              · simp -dsimp [k2, hi0, hw, gset_gR, take_next hqi]
                exact fun _ => ⟨hlt, hq.succ (hat.2 ⟨k1, k2, fun p h => absurd h hi0⟩)⟩
            · simp -dsimp [k2]
              exact hno fun g => k2 (hat.1 g).2.1
          · simp -dsimp [k1]
            exact hno fun g => k1 (hat.1 g).1
        · have hall : Upto e.refs.length (RefAt h es e) := fun j hj => hq j (by omega)
          rw [List.take_of_length_le hge]
          by_cases hs : spots es e.txn = []
          · simp -dsimp [gPi_nil hs]
            refine loop_idx [] [] 0 (fun i => ⟨[(102, vi i), (101, vi 0), (100, .nil 4), (0, .iv (ckIV h a es)), (3, .ptr 3 0), (5, .mpr 43)],
              [(43, .map skO (gR e.table e.refs)), (3, .box (e.cells.map .iv))]⟩) (fun _ => True) ?_ trivial ?_
            · simp -dsimp [ckIV]
            · intro j hj _
              obtain rfl : j = 0 := by omega
              simp -dsimp [hist_checker_saw_l21]
              exact hS.2 ⟨h2, hall, by rw [hs]; simp⟩
          · simp -dsimp [gPi_some hs]
            refine loop_idx [] [10] (spots es e.txn).length (fun i => ⟨[(102, vi i), (101, vi (spots es e.txn).length), (100, .iv (.lst 4 ((spots es e.txn).map obC))), (0, .iv (ckIV h a es)), (3, .ptr 3 0), (5, .mpr 43)],
              [(43, .map skO (gR e.table e.refs)), (3, .box (e.cells.map .iv))]⟩) (fun i => ∀ o, o ∈ (spots es e.txn).take i → o.1 = e.table → (lastRef e.refs o.2).getD ⟨0, 0⟩ = ⟨e.txn, wrote es e.txn o.1 o.2⟩) ?_ ?_ ?_
            · simp -dsimp [ckIV]
            · simp
            · intro j hj hqj
              have hsl := spots_le es e.txn
              simp -dsimp [hist_checker_saw_l21, ckIV]
              refine ⟨fun hjlt => ?_, fun hjge => ?_⟩
              · obtain ⟨o, ho⟩ := some_at hjlt
                have hwj := wrap_in (n := (j : Int) + 1) (by omega)
                by_cases c : o.1 = e.table
                · simp -dsimp [ho, obC, c, hwj, take_next ho]
                  constructor
                  · intro g g2
                    have g3 := (hS.1 g2).2.2 o (List.mem_of_getElem? ho) c
                    rw [c] at g3
                    rw [g3] at g
                    simp at g
                  · intro g1 g2
                    refine ⟨hjlt, ?_⟩
                    rintro a' b (g | rfl) rfl
                    · exact hqj _ g rfl
                    · exact Vs.eq_iff.2 ⟨g1, g2⟩
                · simp -dsimp [ho, obC, c, hwj, take_next ho]
                  refine ⟨hjlt, ?_⟩
                  rintro a' b (g | rfl) rfl
                  · exact hqj _ g rfl
                  · exact absurd rfl c
              · rw [List.take_of_length_le hjge] at hqj
                exact hS.2 ⟨h2, hall, hqj⟩
    · have hno : ¬SawOk h es e := by
        rintro ⟨⟨g0, t, g, _⟩, _⟩
        have := (List.getElem?_eq_some_iff.1 g).1
        omega
      by_cases t0 : 0 ≤ e.table
      · have t1 : ¬e.table < h.tables.length := fun g => hT ⟨t0, g⟩
        simp -dsimp [hist_checker_saw, ckIV, Ev.av, k4, t0, t1, hno]
      · simp -dsimp [hist_checker_saw, ckIV, Ev.av, k4, t0, hno]
  · simp -dsimp [hist_checker_saw, ckIV, Ev.av, k4]
end Go.Rt
end

/- Contracts: the checker's frame and write. -/
section
namespace Go.Rt
open Go.Vm
def CkFrame (es : List Ev) (e : Ev) : Prop := 1 ≤ e.txn ∧ 1 ≤ e.kind ∧ e.kind ≤ 6 ∧ (e.kind = 1 → stOf es e.txn = 0 ∧ 1 ≤ e.level ∧ e.level ≤ 5) ∧ (e.kind ≠ 1 → stOf es e.txn = 1)
instance (es : List Ev) (e : Ev) : Decidable (CkFrame es e) := by unfold CkFrame; exact inferInstance
def esF (es : List Ev) (e : Ev) : List Ev := if CkFrame es e then es ++ [e] else es
theorem hist_frame_spec (h : Hs) (es b c : List Ev) (e : Ev) : GSpec prog false n_hist_checker_frame [.ptr 1000 0, e.av] (ckH h es b c) (vb (ofP (CkFrame es e))) (ckH h (esF es e) b c) := by
  refine gspecM1 hist_checker_frame_is (by simp) (by decide) rfl rfl ?_
  by_cases hF : CkFrame es e
  · have hE : esF es e = es ++ [e] := if_pos hF
    rw [hE]
    obtain ⟨h1, h2, h3, h4, h5⟩ := id hF
    have n1 : ¬e.txn < 1 := by omega
    have n2 : ¬e.kind < 1 := by omega
    have n3 : ¬6 < e.kind := by omega
    by_cases k1 : e.kind = 1
    · obtain ⟨g1, g2, g3⟩ := h4 k1
      have n4 : ¬e.level < 1 := by omega
      have n5 : ¬5 < e.level := by omega
      have hg := gset_gS (es := es) (e := e) (.inl k1)
      rw [k1] at hg
      simp -dsimp [hist_checker_frame, Ev.av, n1, n2, n3, k1, g1, n4, n5, hg, hF]
    · have g1 := h5 k1
      by_cases k5 : e.kind = 5
      · have hg := gset_gS (es := es) (e := e) (.inr (.inl k5))
        rw [k5] at hg
        simp -dsimp [hist_checker_frame, Ev.av, n1, n2, n3, k1, g1, k5, hg, hF]
      · by_cases k6 : e.kind = 6
        · have hg := gset_gS (es := es) (e := e) (.inr (.inr k6))
          rw [k6] at hg
          simp -dsimp [hist_checker_frame, Ev.av, n1, n2, n3, k1, g1, k6, hg, hF]
        · have hg := gS_same (es := es) (e := e) (by omega)
          simp -dsimp [hist_checker_frame, Ev.av, n1, n2, n3, k1, g1, k5, k6, hg, hF]
  · have hE : esF es e = es := if_neg hF
    rw [hE]
    simp -dsimp [hist_checker_frame, Ev.av, hF]
    unfold CkFrame at hF
    grind
def CkW (h : Hs) (es : List Ev) (e : Ev) : Prop := e.kind = 3 → KeyOk h e.table e.key ∧ e.n = wrote es e.txn e.table e.key + 1
noncomputable def esW (h : Hs) (es : List Ev) (e : Ev) : List Ev := @ite _ (CkW h es e) (Classical.propDecidable _) (es ++ [e]) es
set_option maxRecDepth 5000 in
set_option maxHeartbeats 4000000 in
theorem hist_write_spec {h : Hs} (ht : h.TbsOk) (a es : List Ev) (hes : es.length < 2 ^ 40) (e : Ev) : GSpec prog false n_hist_checker_write [.ptr 1000 0, e.av] (ckH h a es es) (vb (ofP (e.kind = 3 → WriteOk h es e))) (ckH h a (esW h es e) (esW h es e)) := by
  refine gspecM1 hist_checker_write_is (by simp) (by decide) rfl rfl ?_
  by_cases k3 : e.kind = 3
  · simp -dsimp [hist_checker_write, Ev.av, k3]
    refine call_pure (hist_key_spec ht a es e.table e.key) (by simp [ckIV]; rfl) (by simp [ckIV]) ?_
    by_cases hK : KeyOk h e.table e.key
    · have hwl := wrote_le es e.txn e.table e.key
      have hw := wrap_in (n := (wrote es e.txn e.table e.key : Int) + 1) (by omega)
      by_cases hn : e.n = wrote es e.txn e.table e.key + 1
      · have hE : esW h es e = es ++ [e] := if_pos fun g => ⟨hK, hn⟩
        rw [hE]
        obtain ⟨h0, t, htt, hr, hc⟩ := id hK
        have hgW := gset_gW (es := es) (e := e) k3
        have hWO : WriteOk h es e ↔ e.row = [] ∨ (Fits t e.row ∧ e.row[0]? = some e.key) := by
          unfold WriteOk
          constructor
          · rintro ⟨_, _, g | ⟨t', g2, g3, g4⟩⟩
            · exact .inl g
            · rw [htt] at g2; cases g2; exact .inr ⟨g3, g4⟩
          · rintro (g | ⟨g3, g4⟩)
            · exact ⟨hK, hn, .inl g⟩
            · exact ⟨hK, hn, .inr ⟨t, htt, g3, g4⟩⟩
        have hw1 : IntKind.i64.wrap 1 = 1 := by rw [IntKind.wrap_i64]; omega
        by_cases h1 : wrote es e.txn e.table e.key = 0
        · have hn1 : e.n = 1 := by omega
          rw [h1] at hgW
          have hgP := gset_gP (es := es) (e := e) k3 hn1
          by_cases hs : spots es e.txn = []
          · rw [hs] at hgP
            by_cases hrow : e.row = []
            · simp -dsimp [hK, hw1, hn1, h1, gP_nil hs, hrow, hWO]
              exact ⟨hgW, hgP⟩
            · obtain ⟨v, hv⟩ : ∃ v, e.row[0]? = some v := some_at (List.length_pos_iff.2 hrow)
              simp -dsimp [hK, hw1, hn1, h1, gP_nil hs, hrow, h0, htt]
              repeat' apply And.intro
              all_goals try omega
              all_goals
                refine call_pure (row_Fits_spec t e.row) (by simp [tbAV, rowIV, rowC]) (by simp [tbAV]) ?_
                by_cases hf : Fits t e.row
                · simp -dsimp [hf, hv, hWO, hrow, ofP_eq, Vl.eq_iff]
                  exact ⟨hgW, hgP⟩
                · simp -dsimp [hf, hWO, hrow]
                  exact ⟨hgW, hgP⟩
          · have hsl := spots_le es e.txn
            by_cases hrow : e.row = []
            · simp -dsimp [hK, hw1, hn1, h1, gP_some hs, hrow, hWO]
              exact ⟨by omega, by omega, hgW, hgP⟩
            · obtain ⟨v, hv⟩ : ∃ v, e.row[0]? = some v := some_at (List.length_pos_iff.2 hrow)
              simp -dsimp [hK, hw1, hn1, h1, gP_some hs, hrow, h0, htt]
              repeat' apply And.intro
              all_goals try omega
              all_goals
                refine call_pure (row_Fits_spec t e.row) (by simp [tbAV, rowIV, rowC]) (by simp [tbAV]) ?_
                by_cases hf : Fits t e.row
                · simp -dsimp [hf, hv, hWO, hrow, ofP_eq, Vl.eq_iff]
                  exact ⟨hgW, hgP⟩
                · simp -dsimp [hf, hWO, hrow]
                  exact ⟨hgW, hgP⟩
        · have hgP := gP_same (es := es) (e := e) (by omega)
          have hn1 : ¬((wrote es e.txn e.table e.key : Int) + 1 = 1) := by omega
          by_cases hrow : e.row = []
          · simp -dsimp [hK, hw, hn, hn1, hrow, hWO]
            exact ⟨hgW, hgP.symm⟩
          · obtain ⟨v, hv⟩ : ∃ v, e.row[0]? = some v := some_at (List.length_pos_iff.2 hrow)
            simp -dsimp [hK, hw, hn, hn1, hrow, h0, htt]
            repeat' apply And.intro
            all_goals
              refine call_pure (row_Fits_spec t e.row) (by simp [tbAV, rowIV, rowC]) (by simp [tbAV]) ?_
              by_cases hf : Fits t e.row
              · simp -dsimp [hf, hv, hWO, hrow, ofP_eq, Vl.eq_iff]
                exact ⟨hgW, hgP.symm⟩
              · simp -dsimp [hf, hWO, hrow]
                exact ⟨hgW, hgP.symm⟩
      · have hE : esW h es e = es := if_neg fun g => hn (g k3).2
        rw [hE]
        simp -dsimp [hK, hw, hn]
        exact fun g => hn g.2.1
    · have hE : esW h es e = es := if_neg fun g => hK (g k3).1
      rw [hE]
      simp -dsimp [hK]
      exact fun g => hK g.1
  · have hE : esW h es e = es ++ [e] := if_pos fun g => absurd g k3
    rw [hE]
    simp -dsimp [hist_checker_write, Ev.av, k3, gW_same k3, gP_same (fun g => k3 g.1)]
end Go.Rt
end

/- Contracts: the checker looks at the orders. -/
section
namespace Go.Rt
open Go.Vm
def LeftP (h : Hs) (es : List Ev) (i : Nat) (t : Int) (o : Int × Vl) : Prop := (stOf es t = 5 ∧ o ∈ spots es t) ∧ ¬∃ x, x ∈ h.order.take i ∧ (x.table = o.1 ∧ x.key = o.2) ∧ t ∈ x.txns
theorem hist_order_spec {h : Hs} (hok : h.Ok) (es : List Ev) (hes : es.length < 2 ^ 40) : GSpec prog true n_hist_checker_order [.iv (ckIV h es es)] [] (vb (ofP (OrderOk h es))) [] := by
  refine gspec1 hist_checker_order_is (by simp) (by decide) rfl ?_
  simp -dsimp [hist_checker_order, ckIV]
  intro L _ hL _
  refine loop_left [] [] (fun left last => ⟨[(20, .ptr 20 0), (0, .iv (ckIV h es es)), (3, .mpr 15)], [(20, .iter skS (gPi es) left last), (15, .map skW (gLeft fun t o => (stOf es t = 5 ∧ o ∈ spots es t) ∧ [Value.int .i64 t] ∉ left))]⟩)
    (fun left => ∀ k, k ∈ left → k ∈ L) L ?_ (fun _ h => h) ?_
  · have h0 : (gLeft fun t o => (stOf es t = 5 ∧ o ∈ spots es t) ∧ [Value.int .i64 t] ∉ L) = fun _ => none := by
      rw [← gLeft_none]
      refine gLeft_congr fun t o => ⟨?_, fun g => g.elim⟩
      rintro ⟨⟨_, g⟩, g2⟩
      refine g2 ((hL _).2 ?_)
      rw [gPi_some (List.ne_nil_of_mem g)]
      intro g3; cases g3
    simp -dsimp [ckIV, h0]
  · intro left last hq
    simp -dsimp [hist_checker_order_l12, ckIV]
    refine ⟨?_, ?_⟩
    · rintro rfl
      have hol := hok.order
      refine loop_idx [20] [10, 11, 14] h.order.length (fun i => ⟨[(51, vi i), (50, vi h.order.length), (49, .iv (.lst 5 (insC h.order))), (3, .mpr 15), (8, .mpr 44)],
          [(44, .map skM (gMet (h.order.take i))), (15, .map skW (gLeft (LeftP h es i)))]⟩) (fun i => Upto i fun i => ∀ o, h.order[i]? = some o → InsCk h es i o) ?_ ?_ ?_
      · have h0 : (gLeft fun t o => (stOf es t = 5 ∧ o ∈ spots es t) ∧ ¬[Value.int .i64 t] ∈ ([] : List (List Value))) = gLeft (LeftP h es 0) := gLeft_congr fun t o => by simp [LeftP]
        simp -dsimp [gMet_nil]
        simpa using h0
      · exact upto_zero
      · intro i hi hqi
        simp -dsimp [hist_checker_order_l31]
        refine ⟨fun hlt => ?_, fun hge => ?_⟩
        · obtain ⟨o, ho⟩ := some_at hlt
          have hw := wrap_in (n := (i : Int) + 1) (by omega)
          have hml := metN_le (h.order.take i) o.table o.key
          rw [List.length_take] at hml
          have hw1 := wrap_in (n := (metN (h.order.take i) o.table o.key : Int) + 1) (by omega)
          have hm0 := metN_zero (l := h.order.take i) (table := o.table) (k := o.key)
          have hno : ¬InsCk h es i o → ¬OrderOk h es := fun g1 g => g1 (g.1 i hlt o ho)
          by_cases hm : metN (h.order.take i) o.table o.key = 0
          · have hg : gMet (h.order.take i) [.int .i64 o.table, .bool o.key.text, .int .i64 o.key.n, .string o.key.s] = none := by simp [gMet, hm]
            have hset := gMet_set (h.order.take i) o
            rw [hm] at hset
            have hw1' : IntKind.i64.wrap 1 = 1 := by rw [IntKind.wrap_i64]; omega
            have hset' : gset (gMet (h.order.take i)) [.int .i64 o.table, .bool o.key.text, .int .i64 o.key.n, .string o.key.s] (some [ci 1]) = gMet (h.order.take (i + 1)) := by rw [take_next ho]; exact hset
            have hm1 : metN (h.order.take (i + 1)) o.table o.key = 1 := by rw [take_next ho, metN_next, hm, if_pos ⟨rfl, rfl⟩]
            have htl := hok.txns o (List.mem_of_getElem? ho)
            have hLo : ∀ t, LeftP h es i t (o.table, o.key) ↔ stOf es t = 5 ∧ (o.table, o.key) ∈ spots es t := fun t =>
              ⟨fun g => g.1, fun g => ⟨g, fun ⟨x, g1, g2, _⟩ => hm0.1 hm x g1 g2⟩⟩
            simp -dsimp [ho, Ins.cells_eq o, hg, hm, hw1', hset', hm1]
            constructor
            all_goals
              intro n
              refine ⟨fun g => hno fun g2 => absurd g2.2.1 (by rw [g]; simp), fun hne => ?_⟩
              refine loop_idx [10] [14] o.txns.length (fun k => ⟨[(79, vi k), (78, vi o.txns.length), (77, .iv (.lst 1 (intsC o.txns))), (11, .ptr 11 0), (51, vi i), (50, vi h.order.length), (49, .iv (.lst 5 (insC h.order))), (3, .mpr 15), (8, .mpr 44)],
                  [(11, .box [.iv (ci o.table), .iv (cb o.key.text), .iv (ci o.key.n), .iv (.v (.string o.key.s))]), (44, .map skM (gMet (h.order.take (i + 1)))), (15, .map skW (gLeft fun t x => LeftP h es i t x ∧ ¬(x = (o.table, o.key) ∧ t ∈ o.txns.take k)))]⟩)
                (fun k => Upto k fun k => ∀ t, o.txns[k]? = some t → stOf es t = 5 ∧ (o.table, o.key) ∈ spots es t ∧ t ∉ o.txns.take k) ?_ ?_ ?_
              · simp -dsimp
              · exact upto_zero
              · intro k hk hqk
                simp -dsimp [hist_checker_order_l29]
                refine ⟨fun hklt => ?_, fun hkge => ?_⟩
                · obtain ⟨t, htk⟩ := some_at hklt
                  have hwk := wrap_in (n := (k : Int) + 1) (by omega)
                  simp -dsimp [htk, hwk, lk_gLeft]
                  refine ⟨fun g => hno fun g2 => ?_, fun g1 g2 => ⟨hklt, ?_, hqk.succ fun t' ht' => ?_⟩⟩
                  · obtain ⟨a1, a2, a3⟩ := g2.2.2 k hklt t htk
                    exact a3 (g ((hLo t).2 ⟨a1, a2⟩))
                  · refine (gLeft_del _ t (o.table, o.key)).trans (gLeft_congr fun t' x => ?_)
                    rw [take_next htk, List.mem_append, List.mem_singleton]
                    constructor
                    · rintro ⟨⟨a1, a2⟩, a3⟩
                      exact ⟨a1, fun e g => g.elim (a2 e) fun e2 => a3 ⟨e2, e⟩⟩
                    · rintro ⟨a1, a2⟩
                      exact ⟨⟨a1, fun e g => a2 e (.inl g)⟩, fun g => a2 g.2 (.inr g.1)⟩
                  · rw [htk] at ht'; cases ht'
                    exact ⟨((hLo t).1 g1).1, ((hLo t).1 g1).2, g2⟩
                · simp -dsimp [hw]
                  refine ⟨hlt, gLeft_congr fun t x => ?_, Upto.succ hqi fun o' ho' => ?_⟩
                  · rw [List.take_of_length_le hkge]
                    unfold LeftP
                    rw [take_next ho]
                    constructor
                    · rintro ⟨⟨a1, a2⟩, a3⟩
                      refine ⟨a1, ?_⟩
                      rintro ⟨y, b1, b2, b3⟩
                      rcases List.mem_append.1 b1 with b1 | b1
                      · exact a2 ⟨y, b1, b2, b3⟩
                      · simp only [List.mem_singleton] at b1; subst b1
                        exact a3 (by rw [b2.1, b2.2]) b3
                    · rintro ⟨a1, a2⟩
                      refine ⟨⟨a1, fun ⟨y, b1, b2, b3⟩ => a2 ⟨y, List.mem_append_left _ b1, b2, b3⟩⟩, fun e g => a2 ⟨o, by simp, ?_, g⟩⟩
                      subst e; exact ⟨rfl, rfl⟩
                  · rw [ho] at ho'; cases ho'
                    exact ⟨hm0.1 hm, List.length_pos_iff.2 hne, fun j hj => hqk j (by omega)⟩
          · have hn : ¬InsCk h es i o := fun g => hm (hm0.2 g.1)
            obtain ⟨c, hc⟩ : ∃ c, gMet (h.order.take i) [.int .i64 o.table, .bool o.key.text, .int .i64 o.key.n, .string o.key.s] = some c := ⟨_, by simp only [gMet]; rw [if_neg hm]⟩
            have hc1 : c = [ci (metN (h.order.take i) o.table o.key)] := by
              simp only [gMet] at hc
              rw [if_neg hm] at hc
              exact (Option.some.inj hc).symm
            have hgt : (1 : Int) < (metN (h.order.take i) o.table o.key : Int) + 1 := by omega
            subst hc1
            simp -dsimp [ho, Ins.cells_eq o, hw1, hc, hgt]
            exact hno hn
        · intro n hn
          have h2 : (n = 0) ↔ OrderOk h es := by
            rw [hn, gLeft_empty]
            have hi' : i = h.order.length := by omega
            subst hi'
            unfold OrderOk LeftP
            rw [List.take_length]
            constructor
            · intro g
              refine ⟨hqi, fun t o g1 g2 => ?_⟩
              have := g t o
              exact Classical.byContradiction fun g3 => this ⟨⟨g1, g2⟩, g3⟩
            · rintro ⟨_, g⟩ t o ⟨⟨g1, g2⟩, g3⟩
              exact g3 (g t o g1 g2)
          rw [ofP_eq, ← h2]
          simp
    · intro k c hk hc hkd
      obtain ⟨txn, rfl, hsp, rfl⟩ := gPi_key hc
      simp -dsimp [hc]
      by_cases h5 : stOf es txn = 5
      · have hsl := spots_le es txn
        simp -dsimp [h5]
        refine loop_idx [] [7] (spots es txn).length (fun i => ⟨[(35, vi i), (34, vi (spots es txn).length), (33, .iv (.lst 4 ((spots es txn).map obC))), (4, vi txn), (20, .ptr 20 0), (0, .iv (ckIV h es es)), (3, .mpr 15)],
            [(20, .iter skS (gPi es) (rmk [.int .i64 txn] left) (some [.int .i64 txn])), (15, .map skW (gLeft fun t o => ((stOf es t = 5 ∧ o ∈ spots es t) ∧ [Value.int .i64 t] ∉ left) ∨ (t = txn ∧ o ∈ (spots es txn).take i)))]⟩) (fun _ => True) ?_ trivial ?_
        · simp -dsimp [ckIV]
        · intro i hi _
          simp -dsimp [hist_checker_order_l11, ckIV]
          refine ⟨fun hlt => ?_, fun hge => ?_⟩
          · obtain ⟨o, ho⟩ := some_at hlt
            have hw := wrap_in (n := (i : Int) + 1) (by omega)
            simp -dsimp [ho, obC, hw, gLeft_set, take_next ho]
            exact ⟨hlt, gLeft_congr fun t x => by grind⟩
          · refine ⟨_, hk, ⟨rfl, gLeft_congr fun t x => ?_⟩, fun q hq' => hq q (rmk_mem.1 hq').1⟩
            rw [List.take_of_length_le hge, rmk_mem]
            constructor
            · rintro (⟨g1, g2⟩ | ⟨rfl, g⟩)
              · exact ⟨g1, fun g => g2 g.1⟩
              · exact ⟨⟨h5, g⟩, fun g => g.2 rfl⟩
            · rintro ⟨⟨g1, g2⟩, g3⟩
              by_cases e : t = txn
              · subst e; exact .inr ⟨rfl, g2⟩
              · exact .inl ⟨⟨g1, g2⟩, fun g => g3 ⟨g, fun e2 => e (by cases e2; rfl)⟩⟩
      · simp -dsimp [h5]
        refine ⟨_, hk, ⟨rfl, gLeft_congr fun t x => ?_⟩, fun q hq' => hq q (rmk_mem.1 hq').1⟩
        rw [rmk_mem]
        constructor
        · rintro ⟨g1, g2⟩; exact ⟨g1, fun g => g2 g.1⟩
        · rintro ⟨⟨g1, g2⟩, g3⟩
          exact ⟨⟨g1, g2⟩, fun g => g3 ⟨g, fun e2 => h5 (by cases e2; exact g1)⟩⟩
end Go.Rt
end

/- Contracts: the checker asks about an event. -/
section
namespace Go.Rt
open Go.Vm
def AskA (h : Hs) (es : List Ev) (e : Ev) : Prop := CkFrame es e ∧ (e.kind = 2 → ReadOk h es e) ∧ (e.kind = 4 → SawOk h es e)
def AskOk (h : Hs) (es : List Ev) (e : Ev) : Prop := CkFrame es e ∧ (e.kind = 2 → ReadOk h es e) ∧ (e.kind = 4 → SawOk h es e) ∧ (e.kind = 3 → WriteOk h es e)
noncomputable def esX (h : Hs) (es : List Ev) (e : Ev) : List Ev := @ite _ (AskA h es e) (Classical.propDecidable _) (esW h es e) es
theorem hist_Check_1_spec {h : Hs} (ht : h.TbsOk) (htl : h.tables.length < 2 ^ 63) (es : List Ev) (hes : es.length < 2 ^ 40) (e : Ev) (heok : e.Ok) :
    GSpec prog false n_hist_Check_1 [e.av, .ptr 1004 0] ((1004, .box [.ptr 1000 0]) :: ckH h es es es) (vb (ofP (AskOk h es e))) ((1004, .box [.ptr 1000 0]) :: ckH h (esF es e) (esX h es e) (esX h es e)) := by
  refine gspecM1 hist_Check_1_is (by simp) (by decide) rfl rfl ?_
  have hEF : ¬CkFrame es e → esF es e = es := fun g => if_neg g
  simp -dsimp [hist_Check_1, Ev.av]
  refine call_mut (hist_frame_spec h es es es e) rfl (by simp) (by simp [Ev.av]) (by simp [Ev.av]) (by simp) (by simp) (by simp) (by simp) ?_
  simp -dsimp
  refine ⟨fun h1 => ?_, fun h1 => ?_⟩
  · refine call_pure (hist_read_spec ht (esF es e) es e) (by simp [ckIV, Ev.av]; rfl) (by simp [ckIV, Ev.av]) ?_
    by_cases h2 : e.kind = 2 → ReadOk h es e
    · simp -dsimp [ofP_true.2 h2]
      refine call_pure (hist_saw_spec ht htl (esF es e) es (by omega) e heok) (by simp [ckIV, Ev.av]; rfl) (by simp [ckIV, Ev.av]) ?_
      by_cases h3 : e.kind = 4 → SawOk h es e
      · have hX : esX h es e = esW h es e := if_pos ⟨h1, h2, h3⟩
        rw [hX]
        simp -dsimp [ofP_true.2 h3]
        refine call_mut (hist_write_spec ht (esF es e) es hes e) rfl (by simp) (by simp [Ev.av]) (by simp [Ev.av]) (by simp) (by simp) (by simp) (by simp) ?_
        simp -dsimp [ofP_inj]
        exact ⟨fun g => ⟨h1, h2, h3, g⟩, fun g => g.2.2.2⟩
      · have hX : esX h es e = es := if_neg fun g => h3 g.2.2
        rw [hX]
        simp -dsimp [ofP_false.2 h3]
        exact fun g => h3 g.2.2.1
    · have hX : esX h es e = es := if_neg fun g => h2 g.2.1
      rw [hX]
      simp -dsimp [ofP_false.2 h2]
      exact fun g => h2 g.2.1
  · have hX : esX h es e = es := if_neg fun g => h1 g.1
    rw [hX]
    exact ⟨fun g => h1 g.1, rfl, rfl⟩
end Go.Rt
end

/- Contracts: the checker. -/
section
namespace Go.Rt
open Go.Vm
theorem Ev.av_eq (e : Ev) : e.av = .agg ([ci e.txn, ci e.kind, ci e.level, ci e.table, cb e.key.text, ci e.key.n, .v (.string e.key.s), ci e.frm.txn, ci e.frm.n, ci e.n, .lst 3 (rowC e.row),
    ci e.pred.op, ci e.pred.col, cb e.pred.v.text, ci e.pred.v.n, .v (.string e.pred.v.s), cb e.pred.w.text, ci e.pred.w.n, .v (.string e.pred.w.s), .lst 9 (e.pred.l.map Pd.cells), .lst 5 (refsC e.refs), cb e.cur].map .iv) := by
  unfold Ev.av; rw [Ev.cells_eq]
abbrev lkBox (h : Hs) : Ob := .box [.iv (.lst 1 (tbsC h.tables)), .iv (.lst 22 (evsC h.events)), .iv (.lst 5 (insC h.order)), .mpr 11, .mpr 12, .mpr 13]
abbrev lkH (h : Hs) (a b c : List Ev) : Hp := [(3, .box [.ptr 15 0]), (15, lkBox h), (11, .map skS (gS a)), (12, .map skW (gW b)), (13, .mapo skS 4 (gP c) none)]
theorem hist_Check_1_loc {h : Hs} (ht : h.TbsOk) (htl : h.tables.length < 2 ^ 63) (es : List Ev) (hes : es.length < 2 ^ 40) (e : Ev) (heok : e.Ok) :
    GSpec prog false n_hist_Check_1 [e.av, .ptr 3 0] (lkH h es es es) (vb (ofP (AskOk h es e))) (lkH h (esF es e) (esX h es e) (esX h es e)) := by
  have hs := hist_Check_1_spec ht htl es hes e heok
  rw [Ev.av_eq] at hs ⊢
  exact hs.ren (Ren.swaps [(1004, 3), (1000, 15), (1001, 11), (1002, 12), (1003, 13)]) rfl
theorem loop_le {P : Program} {c : VCode} {s s' : St} {O : Outs} (h : Le s s') (k : loopW P c s' O) : loopW P c s O := by
  obtain ⟨I, ⟨k, s2, h2, h3⟩, h4⟩ := k
  exact ⟨I, ⟨k, s2, h.trans h2, h3⟩, h4⟩
theorem gS_nil : gS [] = fun _ => none := by
  funext q; unfold gS; split
  · rfl
  · rfl
theorem gW_nil : gW [] = fun _ => none := by
  funext q; unfold gW; split
  · rfl
  · rfl
theorem gP_nil' : gP [] = fun _ => none := by
  funext q; unfold gP; split
  · rfl
  · rfl
theorem ok_Check_1 : okFn prog n_hist_Check_1 = true := by kernel_rfl
theorem ok_order : okFn prog n_hist_checker_order = true := by kernel_rfl
def CheckP (h : Hs) : Prop := ((1 ≤ h.tables.length ∧ h.tables.length ≤ 3) ∧ Upto h.tables.length fun i => ∀ t, h.tables[i]? = some t → TbOk t) ∧
  (Upto h.events.length fun i => ∀ e, h.events[i]? = some e → AskOk h (h.events.take i) e) ∧ OrderOk h h.events
noncomputable def checkErr (h : Hs) : Int := if ofP (CheckP h) = true then 0 else 180
theorem checkErr_yes {h : Hs} (hc : CheckP h) : checkErr h = 0 := if_pos (ofP_true.2 hc)
theorem checkErr_no {h : Hs} (hc : ¬CheckP h) : checkErr h = 180 := if_neg (by simpa using hc)
theorem hist_Check_spec {h : Hs} (hok : h.Ok) (hev : h.events.length < 2 ^ 40) : GSpec prog true n_hist_Check [h.av] [] (vi (checkErr h)) [] := by
  refine gspec1 hist_Check_is (by simp) (by decide) rfl ?_
  by_cases hn : 1 ≤ h.tables.length ∧ h.tables.length ≤ 3
  · have n1 : ¬(h.tables.length : Int) < 1 := by omega
    have n2 : ¬(3 : Int) < h.tables.length := by omega
    simp -dsimp [hist_Check, Hs.av, n1, n2]
    refine loop_le (le_mapo _ (id := 13) (sk := skS) 4 rfl (by simp)) ?_
    refine loop_idx [] [7] h.tables.length (fun i => ⟨[(32, vi i), (31, vi h.tables.length), (30, .iv (.lst 1 (tbsC h.tables))), (4, .fn n_hist_Check_1 [] [.ptr 3 0]), (5, .fn n_hist_checker_order [.ptr 15 0] []), (1, .ptr 1 0)],
        (1, .box [.iv (.lst 1 (tbsC h.tables)), .iv (.lst 22 (evsC h.events)), .iv (.lst 5 (insC h.order))]) :: lkH h [] [] []⟩) (fun i => Upto i fun i => ∀ t, h.tables[i]? = some t → TbOk t) ?_ ?_ ?_
    · simp -dsimp [gS_nil, gW_nil, gP_nil']
    · exact upto_zero
    · intro i hi hq
      simp -dsimp [hist_Check_l10]
      refine ⟨fun hlt => ?_, fun hge => ?_⟩
      · obtain ⟨t, hti⟩ := some_at hlt
        have hw := wrap_in (n := (i : Int) + 1) (by omega)
        simp -dsimp [hti]
        refine call_pure (row_Check_spec t) (by simp [tbAV]) (by simp [tbAV]) ?_
        simp -dsimp [hw]
        refine ⟨fun g => ?_, fun g => ⟨hlt, hq.succ fun t' ht' => by rw [hti] at ht'; cases ht'; exact g⟩⟩
        rw [checkErr_no fun g2 => g (g2.1.2 i hlt t hti)]
      · have hT : h.TbsOk := fun t ht => by
          obtain ⟨j, hj⟩ := List.getElem?_of_mem ht
          exact hq j (by have := (List.getElem?_eq_some_iff.1 hj).1; omega) t hj
        have htl := hok.tables
        refine loop_idx [] [9] h.events.length (fun i => ⟨[(43, vi i), (42, vi h.events.length), (41, .iv (.lst 22 (evsC h.events))), (4, .fn n_hist_Check_1 [] [.ptr 3 0]), (5, .fn n_hist_checker_order [.ptr 15 0] []), (1, .ptr 1 0)],
            (1, .box [.iv (.lst 1 (tbsC h.tables)), .iv (.lst 22 (evsC h.events)), .iv (.lst 5 (insC h.order))]) :: lkH h (h.events.take i) (h.events.take i) (h.events.take i)⟩)
          (fun i => Upto i fun i => ∀ e, h.events[i]? = some e → AskOk h (h.events.take i) e) ?_ ?_ ?_
        · simp -dsimp
        · exact upto_zero
        · intro j hj hqj
          simp -dsimp [hist_Check_l16]
          refine ⟨fun hjlt => ?_, fun hjge => ?_⟩
          · obtain ⟨e, he⟩ := some_at hjlt
            have hwj := wrap_in (n := (j : Int) + 1) (by omega)
            have heok := hok.ev e (List.mem_of_getElem? he)
            have hlen : (h.events.take j).length < 2 ^ 40 := by rw [List.length_take]; omega
            simp -dsimp [he]
            refine ⟨ok_Check_1, call_mut (hist_Check_1_loc hT htl (h.events.take j) hlen e heok) rfl (by simp) (by simp [Ev.av]) (by simp [Ev.av]) (by simp) (by simp) (by simp) (by simp) ?_⟩
            by_cases ha : AskOk h (h.events.take j) e
            · have e1 : esF (h.events.take j) e = h.events.take (j + 1) := by rw [take_next he]; exact if_pos ha.1
              have e2 : esX h (h.events.take j) e = h.events.take (j + 1) := by
                rw [take_next he]
                unfold esX
                rw [if_pos ⟨ha.1, ha.2.1, ha.2.2.1⟩]
                exact if_pos fun g => ⟨(ha.2.2.2 g).1, (ha.2.2.2 g).2.1⟩
              simp -dsimp [ha, e1, e2, hwj]
              exact ⟨hjlt, hqj.succ fun e' he' => by rw [he] at he'; cases he'; exact ha⟩
            · simp -dsimp [ha]
              rw [checkErr_no fun g2 => ha (g2.2.1 j hjlt e he)]
          · rw [List.take_of_length_le hjge]
            refine ⟨ok_order, call_purev (hist_order_spec hok h.events hev) (by simp) (by simp [ckIV]; rfl) (by simp [ckIV]) ?_⟩
            simp -dsimp
            constructor
            · intro g
              rw [checkErr_yes ⟨⟨hn, fun k hk => hq k (by omega)⟩, fun k hk => hqj k (by omega), g⟩]
            · intro g
              rw [checkErr_no fun g2 => g g2.2.2]
  · have hno : ¬CheckP h := fun g => hn g.1.1
    by_cases n1 : (h.tables.length : Int) < 1
    · simp -dsimp [hist_Check, Hs.av, n1, checkErr_no hno]
    · have n2 : (3 : Int) < h.tables.length := by omega
      simp -dsimp [hist_Check, Hs.av, n1, n2, checkErr_no hno]
end Go.Rt
end

/- The two questions about a history are one: no program in sight. -/
section
namespace Go.Rt
open Go.Vm
theorem rev_ind {α : Type} {p : List α → Prop} (nil : p []) (snoc : ∀ (l : List α) (x : α), p l → p (l ++ [x])) (l : List α) : p l := by
  rw [← List.reverse_reverse l]
  induction l.reverse with
  | nil => exact nil
  | cons x r ih => rw [List.reverse_cons]; exact snoc _ _ ih
theorem bl_trans : ∀ {x y z : List UInt8}, Op.bytesLess x y = true → Op.bytesLess y z = true → Op.bytesLess x z = true
  | _, [], _, h, _ => by simp [Op.bytesLess] at h
  | _, _ :: _, [], _, h => by simp [Op.bytesLess] at h
  | [], _ :: _, _ :: _, _, _ => rfl
  | a :: x, b :: y, c :: z, h1, h2 => by
    simp only [Op.bytesLess, Bool.or_eq_true, decide_eq_true_eq, Bool.and_eq_true, beq_iff_eq] at h1 h2 ⊢
    rcases h1 with h1 | ⟨rfl, h1⟩
    · rcases h2 with h2 | ⟨rfl, h2⟩
      · exact .inl (UInt8.lt_trans h1 h2)
      · exact .inl h1
    · rcases h2 with h2 | ⟨rfl, h2⟩
      · exact .inl h2
      · exact .inr ⟨rfl, bl_trans h1 h2⟩
theorem scmp_lt {a b : ByteArray} : scmp a b < 0 ↔ strLt a b = true := by
  unfold scmp; split
  · rename_i h; simp [h]
  · rename_i h; split <;> simp [h]
theorem icmp_lt {a b : Int} : icmp a b < 0 ↔ a < b := by
  unfold icmp; split
  · rename_i h; simp [h]
  · rename_i h; split <;> simp [h]
theorem cmp_lt {a b : Vl} : a.cmp b < 0 ↔ (a.text = true ∧ b.text = true ∧ strLt a.s b.s = true) ∨ (a.text = false ∧ b.text = true) ∨ (a.text = false ∧ b.text = false ∧ a.n < b.n) := by
  unfold Vl.cmp
  cases a.text <;> cases b.text <;> simp [scmp_lt, icmp_lt]
theorem cmp_trans {a b c : Vl} (h1 : a.cmp b < 0) (h2 : b.cmp c < 0) : a.cmp c < 0 := by
  rw [cmp_lt] at *
  rcases h1 with ⟨h1, h3, h4⟩ | ⟨h1, h3⟩ | ⟨h1, h3, h4⟩ <;> rcases h2 with ⟨g1, g3, g4⟩ | ⟨g1, g3⟩ | ⟨g1, g3, g4⟩ <;> simp_all
  · exact bl_trans h4 g4
  · omega
theorem cmp_irr (a : Vl) : ¬a.cmp a < 0 := by
  rw [cmp_lt]
  simp [strLt_irr]
theorem refs_rise {h : Hs} {es : List Ev} {e : Ev} (hr : Upto e.refs.length (RefAt h es e)) : ∀ {i j : Nat}, i < j → ∀ {a b : Rf}, e.refs[i]? = some a → e.refs[j]? = some b → a.key.cmp b.key < 0 := by
  intro i j
  induction j with
  | zero => intro h; omega
  | succ j ih =>
    intro hij a b ha hb
    have hjl := (List.getElem?_eq_some_iff.1 hb).1
    obtain ⟨q, hq⟩ : ∃ q, e.refs[j]? = some q := some_at (by omega)
    have h1 := (hr (j + 1) hjl b hb).2.2 q (by omega) (by simpa using hq)
    rcases Nat.lt_or_ge i j with h2 | h2
    · exact cmp_trans (ih h2 ha hq) h1
    · obtain rfl : i = j := by omega
      rw [ha] at hq; cases hq; exact h1
theorem lastRef_some {l : List Rf} (hu : ∀ a b, a ∈ l → b ∈ l → a.key = b.key → a = b) : ∀ k v, lastRef l k = some v ↔ There l k v := by
  intro k v
  have key : ∀ (l' : List Rf), (∀ a, a ∈ l' → a ∈ l) → (lastRef l' k = some v ↔ There l' k v) := by
    intro l'
    induction l' using rev_ind with
    | nil => intro _; simp [lastRef]
    | snoc l' r ih =>
      intro hs
      have ih := ih fun a ha => hs a (List.mem_append_left _ ha)
      rw [lastRef_next]
      have hthere : There (l' ++ [r]) k v ↔ There l' k v ∨ (r.key = k ∧ r.frm = v) := by
        rw [there_next, ← Vl.eq_iff, ← Vs.eq_iff]
      rw [hthere]
      by_cases hk : r.key = k
      · rw [if_pos hk]
        constructor
        · intro g; exact .inr ⟨hk, Option.some.inj g⟩
        · rintro (⟨q, g1, g2, g3⟩ | ⟨_, g⟩)
          · have := hu q r (hs q (List.mem_append_left _ g1)) (hs r (by simp)) (by rw [g2, hk])
            subst this; rw [g3]
          · rw [g]
      · rw [if_neg hk, ih]
        exact ⟨.inl, fun g => g.elim id fun g => absurd g.1 hk⟩
  exact key l fun _ h => h
theorem refs_uniq {h : Hs} {es : List Ev} {e : Ev} (hr : Upto e.refs.length (RefAt h es e)) : ∀ a b, a ∈ e.refs → b ∈ e.refs → a.key = b.key → a = b := by
  intro a b ha hb hk
  obtain ⟨i, hi⟩ := List.getElem?_of_mem ha
  obtain ⟨j, hj⟩ := List.getElem?_of_mem hb
  rcases Nat.lt_trichotomy i j with h1 | h1 | h1
  · have := refs_rise hr h1 hi hj; rw [hk] at this; exact absurd this (cmp_irr _)
  · subst h1; rw [hi] at hj; exact Option.some.inj hj
  · have := refs_rise hr h1 hj hi; rw [hk] at this; exact absurd this (cmp_irr _)
def Stands (es : List Ev) : Prop := ∀ t, (¬Begun es t ∧ NoEnd es t ∧ stOf es t = 0 ∧ ended es t = 0) ∨ (Begun es t ∧ NoEnd es t ∧ stOf es t = 1 ∧ ended es t = 0) ∨
  (Begun es t ∧ ¬NoEnd es t ∧ stOf es t = ended es t ∧ (ended es t = 5 ∨ ended es t = 6))
theorem Stands.nil : Stands [] := fun t => .inl ⟨by simp, by simp, rfl, rfl⟩
theorem Stands.ck {es : List Ev} (hs : Stands es) (e : Ev) : CkFrame es e ↔ FrameOk es e := by
  unfold CkFrame FrameOk
  rcases hs e.txn with ⟨h1, h2, h3, h4⟩ | ⟨h1, h2, h3, h4⟩ | ⟨h1, h2, h3, h4⟩
  · rw [h3]; simp only [h1, h2]; grind
  · rw [h3]; simp only [h1, h2]; grind
  · rw [h3]; simp only [h1, h2]; grind
theorem noEnd_iff {es : List Ev} {t : Int} : NoEnd es t ↔ ∀ x, x ∈ es → ¬x.ends t := by
  unfold NoEnd Ev.ends
  constructor
  · rintro h x hx ⟨h1, h2⟩; have := h x hx h1; omega
  · intro h x hx h1; have := h x hx; constructor <;> (intro h2; exact this ⟨h1, by omega⟩)
theorem ended_no {es r : List Ev} {t : Int} (h : NoEnd es t) : ended (es ++ r) t = ended r t := by
  rw [noEnd_iff] at h
  induction es with
  | nil => rfl
  | cons x es ih =>
    rw [List.cons_append, ended, if_neg (h x List.mem_cons_self)]
    exact ih fun y hy => h y (List.mem_cons_of_mem _ hy)
theorem ended_yes {es r : List Ev} {t : Int} (h : ¬NoEnd es t) : ended (es ++ r) t = ended es t := by
  rw [noEnd_iff] at h
  induction es with
  | nil => exact absurd (fun x hx => by cases hx) h
  | cons x es ih =>
    rw [List.cons_append, ended, ended]
    by_cases hx : x.ends t
    · rw [if_pos hx, if_pos hx]
    · rw [if_neg hx, if_neg hx]
      refine ih fun g => h fun y hy => ?_
      rcases List.mem_cons.1 hy with rfl | hy
      · exact hx
      · exact g y hy
theorem ended_one (e : Ev) (t : Int) : ended [e] t = if e.ends t then e.kind else 0 := by rw [ended]; rfl
theorem Stands.next {es : List Ev} (hs : Stands es) {e : Ev} (hf : FrameOk es e) : Stands (es ++ [e]) := by
  intro t
  obtain ⟨f1, f2, f3, f4, f5, f6⟩ := hf
  rw [begun_next, noEnd_next, stOf_next]
  by_cases ht : e.txn = t
  · subst ht
    rw [ended_no f4, ended_one]
    have hends : e.ends e.txn ↔ e.kind = 5 ∨ e.kind = 6 := ⟨fun g => g.2, fun g => ⟨rfl, g⟩⟩
    rcases hs e.txn with ⟨h1, h2, h3, h4⟩ | ⟨h1, h2, h3, h4⟩ | ⟨h1, h2, h3, h4⟩
    · have k1 : e.kind = 1 := Classical.byContradiction fun g => h1 (f6 g)
      right; left
      have : ¬e.ends e.txn := fun g => by have := hends.1 g; omega
      simp [k1, h2, this]
    · have k1 : e.kind ≠ 1 := fun g => (f5 g).1 h1
      by_cases k5 : e.kind = 5 ∨ e.kind = 6
      · right; right
        rw [if_pos ⟨rfl, .inr k5⟩, if_pos (hends.2 k5)]
        refine ⟨.inl h1, ?_, rfl, k5⟩
        rintro ⟨_, g⟩
        have := g rfl
        omega
      · right; left
        rw [if_neg (by rintro ⟨_, g⟩; omega), if_neg (fun g => k5 (hends.1 g))]
        exact ⟨.inl h1, ⟨h2, fun _ => by omega⟩, h3, rfl⟩
    · exact absurd f4 h2
  · have e1 : stOf es t = stOf es t := rfl
    rw [if_neg fun g => ht g.1]
    have e2 : ended (es ++ [e]) t = ended es t := by
      by_cases hn : NoEnd es t
      · rw [ended_no hn, ended_one, if_neg fun g => ht g.1]
        exact (ended_none fun x hx => noEnd_iff.1 hn x hx).symm
      · exact ended_yes hn
    rw [e2]
    have e3 : (Begun es t ∨ e.txn = t) ↔ Begun es t := ⟨fun g => g.elim id fun g => absurd g ht, .inl⟩
    have e4 : (NoEnd es t ∧ (e.txn = t → e.kind ≠ 5 ∧ e.kind ≠ 6)) ↔ NoEnd es t := ⟨fun g => g.1, fun g => ⟨g, fun g2 => absurd g2 ht⟩⟩
    rw [e3, e4]
    exact hs t
def Frames (es : List Ev) : Prop := Upto es.length fun i => ∀ e, es[i]? = some e → FrameOk (es.take i) e
theorem upto_snoc {α : Type} {l : List α} {x : α} {p : List α → α → Prop} : (Upto (l ++ [x]).length fun i => ∀ e, (l ++ [x])[i]? = some e → p ((l ++ [x]).take i) e) ↔
    (Upto l.length fun i => ∀ e, l[i]? = some e → p (l.take i) e) ∧ p l x := by
  constructor
  · intro h
    refine ⟨fun i hi e he => ?_, ?_⟩
    · have := h i (by rw [List.length_append]; omega) e (by rw [List.getElem?_append_left hi]; exact he)
      rwa [List.take_append_of_le_length (by omega)] at this
    · have := h l.length (by simp) x (by simp)
      rwa [List.take_left] at this
  · rintro ⟨h1, h2⟩ i hi e he
    by_cases hl : i < l.length
    · rw [List.getElem?_append_left hl] at he
      rw [List.take_append_of_le_length (by omega)]
      exact h1 i hl e he
    · have : i = l.length := by simp at hi; omega
      subst this
      rw [List.take_left]
      simp at he
      subst he
      exact h2
theorem Frames.stands {es : List Ev} : Frames es → Stands es := by
  induction es using rev_ind with
  | nil => exact fun _ => Stands.nil
  | snoc es e ih => intro h; have := upto_snoc.1 h; exact (ih this.1).next this.2
def Counts (es : List Ev) : Prop := Upto es.length fun i => ∀ e, es[i]? = some e → e.kind = 3 → e.n = wrote (es.take i) e.txn e.table e.key + 1
theorem Counts.spots {es : List Ev} : Counts es → ∀ t o, o ∈ spots es t ↔ 0 < wrote es t o.1 o.2 := by
  induction es using rev_ind with
  | nil => intro _ t o; simp [Go.Rt.spots, wrote]
  | snoc es e ih =>
    intro h t o
    have h2 := (upto_snoc (p := fun (es : List Ev) (e : Ev) => e.kind = 3 → e.n = wrote es e.txn e.table e.key + 1)).1 h
    rw [spots_next, wrote_next, List.mem_append, ih h2.1 t o]
    obtain ⟨tab, k⟩ := o
    by_cases hw : e.isW t tab k = true
    · rw [if_pos hw]
      obtain ⟨w1, w2, w3, w4⟩ := Ev.isW_iff.1 hw
      have hk := Vl.eq_iff.2 w4
      subst w2 w3 hk
      have hn := h2.2 w1
      by_cases h0 : 0 < wrote es e.txn e.table e.key
      · simp [h0]
      · rw [if_pos ⟨w1, rfl, by omega⟩]; simp
    · rw [if_neg hw, Nat.add_zero]
      constructor
      · rintro (g | g)
        · exact g
        · split at g
          · rename_i c
            simp only [List.mem_singleton, Prod.mk.injEq] at g
            exact absurd (Ev.isW_iff.2 ⟨c.1, c.2.1, g.1.symm, by rw [g.2], by rw [g.2], by rw [g.2]⟩) hw
          · cases g
      · exact .inl
theorem wrote_pos {es : List Ev} {t tab : Int} {k : Vl} : 0 < wrote es t tab k ↔ ∃ x, x ∈ es ∧ x.kind = 3 ∧ x.txn = t ∧ x.table = tab ∧ x.key = k := by
  unfold wrote
  rw [List.length_pos_iff_exists_mem]
  constructor
  · rintro ⟨x, hx⟩
    obtain ⟨h1, h2⟩ := List.mem_filter.1 hx
    obtain ⟨w1, w2, w3, w4⟩ := Ev.isW_iff.1 h2
    exact ⟨x, h1, w1, w2, w3, Vl.eq_iff.2 w4⟩
  · rintro ⟨x, h1, w1, w2, w3, w4⟩
    exact ⟨x, List.mem_filter.2 ⟨h1, Ev.isW_iff.2 ⟨w1, w2, w3, Vl.eq_iff.1 w4⟩⟩⟩
theorem saw_iff {h : Hs} {es : List Ev} (hc : Counts es) {e : Ev} (he : 1 ≤ e.txn) : SawOk h es e ↔ PredOk h es e := by
  unfold SawOk PredOk
  refine and_congr_right fun _ => and_congr_right fun hr => ?_
  have hl := lastRef_some (refs_uniq hr)
  constructor
  · intro g x hx k3 k1 k2
    have hpos : 0 < wrote es e.txn x.table x.key := wrote_pos.2 ⟨x, hx, k3, k1, rfl, rfl⟩
    have := g (x.table, x.key) ((hc.spots _ _).2 hpos) k2
    rw [k2] at this
    cases hlr : lastRef e.refs x.key with
    | none => rw [hlr] at this; have := congrArg Vs.txn this; simp at this; omega
    | some v => rw [hlr] at this; simp only [Option.getD_some] at this; subst this; exact (hl _ _).1 hlr
  · rintro g ⟨tab, k⟩ ho rfl
    have hpos := (hc.spots _ _).1 ho
    obtain ⟨x, hx, k3, k1, k2, rfl⟩ := wrote_pos.1 hpos
    have := g x hx k3 k1 k2
    have h5 := (hl _ _).2 this
    simp only
    rw [h5]
    rfl
theorem ask_iff {h : Hs} {es : List Ev} (hs : Stands es) (hc : Counts es) {e : Ev} : AskOk h es e ↔ EventOk h es e := by
  unfold AskOk EventOk
  rw [hs.ck]
  constructor
  · rintro ⟨h1, h2, h3, h4⟩; exact ⟨h1, h2, h4, fun g => (saw_iff hc h1.1).1 (h3 g)⟩
  · rintro ⟨h1, h2, h3, h4⟩; exact ⟨h1, h2, fun g => (saw_iff hc h1.1).2 (h4 g), h3⟩
def Events (h : Hs) (es : List Ev) : Prop := Upto es.length fun i => ∀ e, es[i]? = some e → EventOk h (es.take i) e
theorem Events.good {h : Hs} {es : List Ev} (g : Events h es) : Frames es ∧ Counts es :=
  ⟨fun i hi e he => (g i hi e he).1, fun i hi e he k3 => ((g i hi e he).2.2.1 k3).2.1⟩
theorem asks_iff {h : Hs} (es : List Ev) : (Upto es.length fun i => ∀ e, es[i]? = some e → AskOk h (es.take i) e) ↔ Events h es := by
  induction es using rev_ind with
  | nil => exact ⟨fun _ => upto_zero, fun _ => upto_zero⟩
  | snoc es e ih =>
    unfold Events
    rw [upto_snoc (p := AskOk h), upto_snoc (p := EventOk h), ih]
    refine and_congr_right fun g => ?_
    exact ask_iff g.good.1.stands g.good.2
theorem stands_five {es : List Ev} (hs : Stands es) (t : Int) : stOf es t = 5 ↔ ended es t = 5 := by
  rcases hs t with ⟨_, _, h3, h4⟩ | ⟨_, _, h3, h4⟩ | ⟨_, _, h3, h4⟩ <;> omega
theorem order_iff {h : Hs} (hs : Stands h.events) (hc : Counts h.events) : OrderOk h h.events ↔
    (Upto h.order.length fun i => ∀ o, h.order[i]? = some o → InstallOk h i o) ∧ Upto h.events.length fun i => ∀ e, h.events[i]? = some e → InstalledOk h e := by
  unfold OrderOk
  refine and_congr ?_ ?_
  · have key : ∀ i o, InsCk h h.events i o ↔ InstallOk h i o := by
      intro i o
      unfold InsCk InstallOk
      constructor
      · rintro ⟨h1, h2, h3⟩
        exact ⟨h1, fun k hk t ht => ⟨(stands_five hs t).1 (h3 k hk t ht).1, Nat.pos_iff_ne_zero.1 ((hc.spots _ _).1 (h3 k hk t ht).2.1), (h3 k hk t ht).2.2⟩, h2⟩
      · rintro ⟨h1, h2, h3⟩
        exact ⟨h1, h3, fun k hk t ht => ⟨(stands_five hs t).2 (h2 k hk t ht).1, (hc.spots _ _).2 (Nat.pos_iff_ne_zero.2 (h2 k hk t ht).2.1), (h2 k hk t ht).2.2⟩⟩
    constructor
    · intro g i hi o ho; exact (key i o).1 (g i hi o ho)
    · intro g i hi o ho; exact (key i o).2 (g i hi o ho)
  · constructor
    · intro g i hi e he k3 k5
      have hm := List.mem_of_getElem? he
      exact g e.txn (e.table, e.key) ((stands_five hs _).2 k5) ((hc.spots _ _).2 (wrote_pos.2 ⟨e, hm, k3, rfl, rfl, rfl⟩))
    · rintro g t ⟨tab, k⟩ h1 h2
      obtain ⟨x, hx, k3, rfl, rfl, rfl⟩ := wrote_pos.1 ((hc.spots _ _).1 h2)
      obtain ⟨i, hi⟩ := List.getElem?_of_mem hx
      exact g i (List.getElem?_eq_some_iff.1 hi).1 x hi k3 ((stands_five hs _).1 h1)
theorem check_iff (h : Hs) : CheckP h ↔ WellP h := by
  unfold CheckP WellP
  rw [asks_iff]
  have hT : ((1 ≤ h.tables.length ∧ h.tables.length ≤ 3) ∧ Upto h.tables.length fun i => ∀ t, h.tables[i]? = some t → TbOk t) ↔ TablesOk h := by
    unfold TablesOk
    refine and_congr_right fun _ => ?_
    constructor
    · intro g t ht
      obtain ⟨j, hj⟩ := List.getElem?_of_mem ht
      exact g j (List.getElem?_eq_some_iff.1 hj).1 t hj
    · intro g i hi t ht; exact g t (List.mem_of_getElem? ht)
  rw [hT]
  refine and_congr_right fun _ => ?_
  constructor
  · rintro ⟨g1, g2⟩
    have g3 := (order_iff g1.good.1.stands g1.good.2).1 g2
    exact ⟨fun i hi e he => ⟨g1 i hi e he, g3.2 i hi e he⟩, g3.1⟩
  · rintro ⟨g1, g2⟩
    have g4 : Events h h.events := fun i hi e he => (g1 i hi e he).1
    exact ⟨g4, (order_iff g4.good.1.stands g4.good.2).2 ⟨g2, fun i hi e he => (g1 i hi e he).2⟩⟩
end Go.Rt
end

/- What a book of versions knows, as data. No program in sight. -/
section
namespace Go.Rt
open Go.Vm
def lastB {α : Type} (p : α → Bool) (l : List α) : Option α := l.foldl (fun s e => if p e = true then some e else s) none
theorem lastB_next {α : Type} (p : α → Bool) (l : List α) (e : α) : lastB p (l ++ [e]) = if p e = true then some e else lastB p l := by
  unfold lastB; rw [List.foldl_append]; rfl
theorem lastB_nil {α : Type} (p : α → Bool) : lastB p [] = none := rfl
theorem lastB_rev {α : Type} (p : α → Bool) (l : List α) : lastB p l = l.reverse.find? p := by
  suffices h : ∀ r : List α, lastB p r.reverse = r.find? p by
    have := h l.reverse; rwa [List.reverse_reverse] at this
  intro r
  induction r with
  | nil => rfl
  | cons a r ih =>
    rw [List.reverse_cons, lastB_next, List.find?_cons, ih]
    cases p a <;> rfl
theorem lastB_none {α : Type} {p : α → Bool} {l : List α} : lastB p l = none ↔ ∀ e, e ∈ l → p e = false := by
  rw [lastB_rev, List.find?_eq_none]
  simp only [List.mem_reverse, Bool.not_eq_true]
theorem lastB_some {α : Type} {p : α → Bool} {l : List α} {e : α} (h : lastB p l = some e) : e ∈ l ∧ p e = true := by
  rw [lastB_rev] at h
  exact ⟨List.mem_reverse.1 (List.mem_of_find?_eq_some h), List.find?_some h⟩
abbrev skL : Sk := (false, [.i .i64], false)
abbrev skR : Sk := (true, [.i .i64, .b, .i .i64, .s, .i .i64, .i .i64], false)
abbrev skC : Sk := (true, [.i .i64, .b, .i .i64, .s], false)
def Ev.isB (t : Int) (e : Ev) : Bool := decide (e.kind = 1) && decide (e.txn = t)
def Ev.isN (txn table : Int) (k : Vl) (m : Int) (e : Ev) : Bool := e.isW txn table k && decide (e.n = m)
def Ins.isO (table : Int) (k : Vl) (o : Ins) : Bool := decide (o.table = table) && decide (o.key = k)
def vsC (l : List Vs) : List (List IV) := l.map Vs.cells
@[simp] theorem vsC_len (l : List Vs) : (vsC l).length = l.length := by simp [vsC]
@[simp] theorem vsC_get (l : List Vs) (i : Nat) : (vsC l)[i]? = (l[i]?).map Vs.cells := by simp [vsC]
def gLv (es : List Ev) : List Value → Option (List IV)
  | [.int .i64 t] => (lastB (Ev.isB t) es).map fun e => [ci e.level]
  | _ => none
def gRw (es : List Ev) : List Value → Option (List IV)
  | [.int .i64 table, .bool t, .int .i64 n, .string s, .int .i64 txn, .int .i64 m] => (lastB (Ev.isN txn table ⟨t, n, s⟩ m) es).map fun e => [.lst 3 (rowC e.row)]
  | _ => none
def gLs (es : List Ev) : List Value → Option (List IV)
  | [.int .i64 table, .bool t, .int .i64 n, .string s, .int .i64 txn, .int .i64 m] => if m = 0 then (lastB (Ev.isW txn table ⟨t, n, s⟩) es).map fun e => [ci e.n] else none
  | _ => none
def lastN' (es : List Ev) (txn table : Int) (k : Vl) : Int := ((lastB (Ev.isW txn table k) es).map Ev.n).getD 0
def chnI (es : List Ev) (o : Ins) : List Vs := ⟨0, 0⟩ :: o.txns.map fun txn => ⟨txn, lastN' es txn o.table o.key⟩
def gCh (es : List Ev) (os : List Ins) : List Value → Option (List IV)
  | [.int .i64 table, .bool t, .int .i64 n, .string s] => (lastB (Ins.isO table ⟨t, n, s⟩) os).map fun o => [.lst 2 (vsC (chnI es o))]
  | _ => none
theorem gLv_nil : gLv [] = fun _ => none := by funext q; unfold gLv; split <;> rfl
theorem gRw_nil : gRw [] = fun _ => none := by funext q; unfold gRw; split <;> rfl
theorem gLs_nil : gLs [] = fun _ => none := by
  funext q; unfold gLs; split
  · split <;> rfl
  · rfl
theorem gCh_nil (es : List Ev) : gCh es [] = fun _ => none := by funext q; unfold gCh; split <;> rfl
theorem gset_gLv {es : List Ev} {e : Ev} (hk : e.kind = 1) : gset (gLv es) [.int .i64 e.txn] (some [ci e.level]) = gLv (es ++ [e]) := by
  funext q
  simp only [gset]
  split
  · rename_i h; subst h
    simp [gLv, lastB_next, Ev.isB, hk]
  · rename_i hne
    unfold gLv
    split
    · rename_i t
      rw [lastB_next, if_neg]
      simp only [Ev.isB, Bool.and_eq_true, decide_eq_true_eq]
      rintro ⟨_, rfl⟩; exact hne rfl
    · rfl
theorem gLv_same {es : List Ev} {e : Ev} (hk : e.kind ≠ 1) : gLv (es ++ [e]) = gLv es := by
  funext q
  unfold gLv
  split
  · rw [lastB_next, if_neg]
    simp [Ev.isB, hk]
  · rfl
theorem isW_self {e : Ev} (hk : e.kind = 3) : e.isW e.txn e.table e.key = true := Ev.isW_iff.2 ⟨hk, rfl, rfl, rfl, rfl, rfl⟩
theorem gset_gRw {es : List Ev} {e : Ev} (hk : e.kind = 3) :
    gset (gRw es) [.int .i64 e.table, .bool e.key.text, .int .i64 e.key.n, .string e.key.s, .int .i64 e.txn, .int .i64 e.n] (some [.lst 3 (rowC e.row)]) = gRw (es ++ [e]) := by
  funext q
  simp only [gset]
  split
  · rename_i h; subst h
    have : e.isN e.txn e.table e.key e.n = true := by unfold Ev.isN; rw [isW_self hk]; simp
    simp [gRw, lastB_next, this]
  · rename_i hne
    unfold gRw
    split
    · rename_i table t n s txn m
      rw [lastB_next, if_neg]
      simp only [Ev.isN, Bool.and_eq_true, decide_eq_true_eq, Ev.isW_iff]
      rintro ⟨⟨_, h1, h2, h3, h4, h5⟩, h6⟩
      subst h1 h2 h3 h4 h5 h6
      exact hne rfl
    · rfl
theorem gRw_same {es : List Ev} {e : Ev} (hk : e.kind ≠ 3) : gRw (es ++ [e]) = gRw es := by
  funext q
  unfold gRw
  split
  · rw [lastB_next, if_neg]
    simp only [Ev.isN, Bool.and_eq_true, decide_eq_true_eq, Ev.isW_iff]
    exact fun h => hk h.1.1
  · rfl
theorem gset_gLs {es : List Ev} {e : Ev} (hk : e.kind = 3) :
    gset (gLs es) [.int .i64 e.table, .bool e.key.text, .int .i64 e.key.n, .string e.key.s, .int .i64 e.txn, .int .i64 0] (some [ci e.n]) = gLs (es ++ [e]) := by
  funext q
  simp only [gset]
  split
  · rename_i h; subst h
    have := isW_self hk
    simp [gLs, lastB_next, this]
  · rename_i hne
    unfold gLs
    split
    · rename_i table t n s txn m
      by_cases hm : m = 0
      · rw [if_pos hm, if_pos hm, lastB_next, if_neg]
        simp only [Ev.isW_iff]
        rintro ⟨_, h1, h2, h3, h4, h5⟩
        subst h1 h2 h3 h4 h5 hm
        exact hne rfl
      · rw [if_neg hm, if_neg hm]
    · rfl
theorem gLs_same {es : List Ev} {e : Ev} (hk : e.kind ≠ 3) : gLs (es ++ [e]) = gLs es := by
  funext q
  unfold gLs
  split
  · split
    · rw [lastB_next, if_neg]
      simp only [Ev.isW_iff]
      exact fun h => hk h.1
    · rfl
  · rfl
theorem gset_gCh (es : List Ev) (os : List Ins) (o : Ins) : gset (gCh es os) [.int .i64 o.table, .bool o.key.text, .int .i64 o.key.n, .string o.key.s] (some [.lst 2 (vsC (chnI es o))]) = gCh es (os ++ [o]) := by
  funext q
  simp only [gset]
  split
  · rename_i h; subst h
    simp [gCh, lastB_next, Ins.isO]
  · rename_i hne
    unfold gCh
    split
    · rename_i table t n s
      rw [lastB_next, if_neg]
      simp only [Ins.isO, Bool.and_eq_true, decide_eq_true_eq, Vl.eq_iff]
      rintro ⟨h1, h2, h3, h4⟩
      subst h1 h2 h3 h4
      exact hne rfl
    · rfl
@[simp] theorem lk_gLs (es : List Ev) (txn table : Int) (t : Bool) (n : Int) (s : ByteArray) :
    lkR [.iv (.v (.int .i64 0))] false false (gLs es [.int .i64 table, .bool t, .int .i64 n, .string s, .int .i64 txn, .int .i64 0]) = vi (lastN' es txn table ⟨t, n, s⟩) := by
  simp only [gLs, if_true, lastN']
  cases lastB (Ev.isW txn table ⟨t, n, s⟩) es <;> rfl
def commits (es : List Ev) : List Int := (es.filter fun e => decide (e.kind = 5)).map Ev.txn
theorem commits_nil : commits [] = [] := rfl
theorem commits_next (es : List Ev) (e : Ev) : commits (es ++ [e]) = commits es ++ if e.kind = 5 then [e.txn] else [] := by
  unfold commits
  rw [List.filter_append, List.map_append]
  congr 1
  by_cases h : e.kind = 5 <;> simp [h]
theorem commits_le (es : List Ev) : (commits es).length ≤ es.length := by
  unfold commits; rw [List.length_map]; exact List.length_filter_le _ _
end Go.Rt
end
