/- Contracts of functions of the program, and what they lean on. Conditions: those of each theorem. -/
import Derived.Test.YtiabgaimhgifeabPD
import Derived.Test.YtiabgaimhgifeabPA
import Derived.Test.YtiabgaimhgifeabPC

set_option linter.unusedVariables false
set_option linter.unusedSimpArgs false

/- Contracts: the checker looks at the orders. -/
section
namespace Go.Rt
open Go.Vm
/-- what is left, ahead of an order -/
def LeftP (h : Hs) (es : List Ev) (i : Nat) (t : Int) (o : Int × Vl) : Prop := (stOf es t = 5 ∧ o ∈ spots es t) ∧ ¬∃ x, x ∈ h.order.take i ∧ (x.table = o.1 ∧ x.key = o.2) ∧ t ∈ x.txns
theorem hist_order_spec {h : Hs} (hok : h.Ok) (es : List Ev) (hes : es.length < 2 ^ 32) : GSpec prog true n_hist_checker_order [.iv (ckIV h es es)] [] (vb (ofP (OrderOk h es))) [] := by
  refine gspec1 hist_checker_order_is (by simp) (by decide) rfl ?_
  simp -dsimp [hist_checker_order, ckIV]
  intro L _ hL _
  refine loop_left [] [] (fun left last => ⟨[(20, .ptr 20 0), (0, .iv (ckIV h es es)), (3, .mpr 15)], [(20, .iter skS (gPi es) left last), (15, .map skW (gLeft fun t o => (stOf es t = 5 ∧ o ∈ spots es t) ∧ [Value.int .i64 t] ∉ left))]⟩)
    (fun left => ∀ k, k ∈ left → k ∈ L) L ?_ (fun _ h => h) ?_
  · have h0 : (gLeft fun t o => (stOf es t = 5 ∧ o ∈ spots es t) ∧ [Value.int .i64 t] ∉ L) = fun _ => none := by
      rw [← gLeft_none]
      refine gLeft_congr fun t o => ⟨?_, fun g => g.elim⟩
      rintro ⟨⟨_, g⟩, g2⟩
      refine g2 ((hL _).2 ?_)
      rw [gPi_some (List.ne_nil_of_mem g)]
      intro g3; cases g3
    simp -dsimp [ckIV, h0]
  · intro left last hq
    simp -dsimp [hist_checker_order_l12, ckIV]
    refine ⟨?_, ?_⟩
    · rintro rfl
      have hol := hok.order
      refine loop_idx [20] [10, 11, 14] h.order.length (fun i => ⟨[(51, vi i), (50, vi h.order.length), (49, .iv (.lst 5 (insC h.order))), (3, .mpr 15), (8, .mpr 44)],
          [(44, .map skM (gMet (h.order.take i))), (15, .map skW (gLeft (LeftP h es i)))]⟩) (fun i => Upto i fun i => ∀ o, h.order[i]? = some o → InsCk h es i o) ?_ ?_ ?_
      · have h0 : (gLeft fun t o => (stOf es t = 5 ∧ o ∈ spots es t) ∧ ¬[Value.int .i64 t] ∈ ([] : List (List Value))) = gLeft (LeftP h es 0) := gLeft_congr fun t o => by simp [LeftP]
        simp -dsimp [gMet_nil]
        simpa using h0
      · exact upto_zero
      · intro i hi hqi
        simp -dsimp [hist_checker_order_l31]
        refine ⟨fun hlt => ?_, fun hge => ?_⟩
        · obtain ⟨o, ho⟩ := some_at hlt
          have hw := wrap_in (n := (i : Int) + 1) (by omega)
          have hml := metN_le (h.order.take i) o.table o.key
          rw [List.length_take] at hml
          have hw1 := wrap_in (n := (metN (h.order.take i) o.table o.key : Int) + 1) (by omega)
          have hm0 := metN_zero (l := h.order.take i) (table := o.table) (k := o.key)
          have hno : ¬InsCk h es i o → ¬OrderOk h es := fun g1 g => g1 (g.1 i hlt o ho)
          by_cases hm : metN (h.order.take i) o.table o.key = 0
          · have hg : gMet (h.order.take i) [.int .i64 o.table, .bool o.key.text, .int .i64 o.key.n, .string o.key.s] = none := by simp [gMet, hm]
            have hset := gMet_set (h.order.take i) o
            rw [hm] at hset
            have hw1' : IntKind.i64.wrap 1 = 1 := by rw [IntKind.wrap_i64]; omega
            have hset' : gset (gMet (h.order.take i)) [.int .i64 o.table, .bool o.key.text, .int .i64 o.key.n, .string o.key.s] (some [ci 1]) = gMet (h.order.take (i + 1)) := by rw [take_next ho]; exact hset
            have hm1 : metN (h.order.take (i + 1)) o.table o.key = 1 := by rw [take_next ho, metN_next, hm, if_pos ⟨rfl, rfl⟩]
            have htl := hok.txns o (List.mem_of_getElem? ho)
            have hLo : ∀ t, LeftP h es i t (o.table, o.key) ↔ stOf es t = 5 ∧ (o.table, o.key) ∈ spots es t := fun t =>
              ⟨fun g => g.1, fun g => ⟨g, fun ⟨x, g1, g2, _⟩ => hm0.1 hm x g1 g2⟩⟩
            simp -dsimp [ho, Ins.cells_eq o, hg, hm, hw1', hset', hm1]
            constructor
            all_goals
              intro n
              refine ⟨fun g => hno fun g2 => absurd g2.2.1 (by rw [g]; simp), fun hne => ?_⟩
              refine loop_idx [10] [14] o.txns.length (fun k => ⟨[(79, vi k), (78, vi o.txns.length), (77, .iv (.lst 1 (intsC o.txns))), (11, .ptr 11 0), (51, vi i), (50, vi h.order.length), (49, .iv (.lst 5 (insC h.order))), (3, .mpr 15), (8, .mpr 44)],
                  [(11, .box [.iv (ci o.table), .iv (cb o.key.text), .iv (ci o.key.n), .iv (.v (.string o.key.s))]), (44, .map skM (gMet (h.order.take (i + 1)))), (15, .map skW (gLeft fun t x => LeftP h es i t x ∧ ¬(x = (o.table, o.key) ∧ t ∈ o.txns.take k)))]⟩)
                (fun k => Upto k fun k => ∀ t, o.txns[k]? = some t → stOf es t = 5 ∧ (o.table, o.key) ∈ spots es t ∧ t ∉ o.txns.take k) ?_ ?_ ?_
              · simp -dsimp
              · exact upto_zero
              · intro k hk hqk
                simp -dsimp [hist_checker_order_l29]
                refine ⟨fun hklt => ?_, fun hkge => ?_⟩
                · obtain ⟨t, htk⟩ := some_at hklt
                  have hwk := wrap_in (n := (k : Int) + 1) (by omega)
                  simp -dsimp [htk, hwk, lk_gLeft]
                  refine ⟨fun g => hno fun g2 => ?_, fun g1 g2 => ⟨hklt, ?_, hqk.succ fun t' ht' => ?_⟩⟩
                  · obtain ⟨a1, a2, a3⟩ := g2.2.2 k hklt t htk
                    exact a3 (g ((hLo t).2 ⟨a1, a2⟩))
                  · refine (gLeft_del _ t (o.table, o.key)).trans (gLeft_congr fun t' x => ?_)
                    rw [take_next htk, List.mem_append, List.mem_singleton]
                    constructor
                    · rintro ⟨⟨a1, a2⟩, a3⟩
                      exact ⟨a1, fun e g => g.elim (a2 e) fun e2 => a3 ⟨e2, e⟩⟩
                    · rintro ⟨a1, a2⟩
                      exact ⟨⟨a1, fun e g => a2 e (.inl g)⟩, fun g => a2 g.2 (.inr g.1)⟩
                  · rw [htk] at ht'; cases ht'
                    exact ⟨((hLo t).1 g1).1, ((hLo t).1 g1).2, g2⟩
                · simp -dsimp [hw]
                  refine ⟨hlt, gLeft_congr fun t x => ?_, Upto.succ hqi fun o' ho' => ?_⟩
                  · rw [List.take_of_length_le hkge]
                    unfold LeftP
                    rw [take_next ho]
                    constructor
                    · rintro ⟨⟨a1, a2⟩, a3⟩
                      refine ⟨a1, ?_⟩
                      rintro ⟨y, b1, b2, b3⟩
                      rcases List.mem_append.1 b1 with b1 | b1
                      · exact a2 ⟨y, b1, b2, b3⟩
                      · simp only [List.mem_singleton] at b1; subst b1
                        exact a3 (by rw [b2.1, b2.2]) b3
                    · rintro ⟨a1, a2⟩
                      refine ⟨⟨a1, fun ⟨y, b1, b2, b3⟩ => a2 ⟨y, List.mem_append_left _ b1, b2, b3⟩⟩, fun e g => a2 ⟨o, by simp, ?_, g⟩⟩
                      subst e; exact ⟨rfl, rfl⟩
                  · rw [ho] at ho'; cases ho'
                    exact ⟨hm0.1 hm, List.length_pos_iff.2 hne, fun j hj => hqk j (by omega)⟩
          · have hn : ¬InsCk h es i o := fun g => hm (hm0.2 g.1)
            obtain ⟨c, hc⟩ : ∃ c, gMet (h.order.take i) [.int .i64 o.table, .bool o.key.text, .int .i64 o.key.n, .string o.key.s] = some c := ⟨_, by simp only [gMet]; rw [if_neg hm]⟩
            have hc1 : c = [ci (metN (h.order.take i) o.table o.key)] := by
              simp only [gMet] at hc
              rw [if_neg hm] at hc
              exact (Option.some.inj hc).symm
            have hgt : (1 : Int) < (metN (h.order.take i) o.table o.key : Int) + 1 := by omega
            subst hc1
            simp -dsimp [ho, Ins.cells_eq o, hw1, hc, hgt]
            exact hno hn
        · intro n hn
          have h2 : (n = 0) ↔ OrderOk h es := by
            rw [hn, gLeft_empty]
            have hi' : i = h.order.length := by omega
            subst hi'
            unfold OrderOk LeftP
            rw [List.take_length]
            constructor
            · intro g
              refine ⟨hqi, fun t o g1 g2 => ?_⟩
              have := g t o
              exact Classical.byContradiction fun g3 => this ⟨⟨g1, g2⟩, g3⟩
            · rintro ⟨_, g⟩ t o ⟨⟨g1, g2⟩, g3⟩
              exact g3 (g t o g1 g2)
          rw [ofP_eq, ← h2]
          simp
    · intro k c hk hc hkd
      obtain ⟨txn, rfl, hsp, rfl⟩ := gPi_key hc
      simp -dsimp [hc]
      by_cases h5 : stOf es txn = 5
      · have hsl := spots_le es txn
        simp -dsimp [h5]
        refine loop_idx [] [7] (spots es txn).length (fun i => ⟨[(35, vi i), (34, vi (spots es txn).length), (33, .iv (.lst 4 ((spots es txn).map obC))), (4, vi txn), (20, .ptr 20 0), (0, .iv (ckIV h es es)), (3, .mpr 15)],
            [(20, .iter skS (gPi es) (rmk [.int .i64 txn] left) (some [.int .i64 txn])), (15, .map skW (gLeft fun t o => ((stOf es t = 5 ∧ o ∈ spots es t) ∧ [Value.int .i64 t] ∉ left) ∨ (t = txn ∧ o ∈ (spots es txn).take i)))]⟩) (fun _ => True) ?_ trivial ?_
        · simp -dsimp [ckIV]
        · intro i hi _
          simp -dsimp [hist_checker_order_l11, ckIV]
          refine ⟨fun hlt => ?_, fun hge => ?_⟩
          · obtain ⟨o, ho⟩ := some_at hlt
            have hw := wrap_in (n := (i : Int) + 1) (by omega)
            simp -dsimp [ho, obC, hw, gLeft_set, take_next ho]
            exact ⟨hlt, gLeft_congr fun t x => by grind⟩
          · refine ⟨_, hk, ⟨rfl, gLeft_congr fun t x => ?_⟩, fun q hq' => hq q (rmk_mem.1 hq').1⟩
            rw [List.take_of_length_le hge, rmk_mem]
            constructor
            · rintro (⟨g1, g2⟩ | ⟨rfl, g⟩)
              · exact ⟨g1, fun g => g2 g.1⟩
              · exact ⟨⟨h5, g⟩, fun g => g.2 rfl⟩
            · rintro ⟨⟨g1, g2⟩, g3⟩
              by_cases e : t = txn
              · subst e; exact .inr ⟨rfl, g2⟩
              · exact .inl ⟨⟨g1, g2⟩, fun g => g3 ⟨g, fun e2 => e (by cases e2; rfl)⟩⟩
      · simp -dsimp [h5]
        refine ⟨_, hk, ⟨rfl, gLeft_congr fun t x => ?_⟩, fun q hq' => hq q (rmk_mem.1 hq').1⟩
        rw [rmk_mem]
        constructor
        · rintro ⟨g1, g2⟩; exact ⟨g1, fun g => g2 g.1⟩
        · rintro ⟨⟨g1, g2⟩, g3⟩
          exact ⟨⟨g1, g2⟩, fun g => g3 ⟨g, fun e2 => h5 (by cases e2; exact g1)⟩⟩
end Go.Rt
end

/- Contracts: the checker asks about an event. -/
section
namespace Go.Rt
open Go.Vm
/-- what the checker asks of an event ahead of its write -/
def AskA (h : Hs) (es : List Ev) (e : Ev) : Prop := CkFrame es e ∧ (e.kind = 2 → ReadOk h es e) ∧ (e.kind = 4 → SawOk h es e)
def AskOk (h : Hs) (es : List Ev) (e : Ev) : Prop := CkFrame es e ∧ (e.kind = 2 → ReadOk h es e) ∧ (e.kind = 4 → SawOk h es e) ∧ (e.kind = 3 → WriteOk h es e)
noncomputable def esX (h : Hs) (es : List Ev) (e : Ev) : List Ev := @ite _ (AskA h es e) (Classical.propDecidable _) (esW h es e) es
theorem hist_Check_1_spec {h : Hs} (ht : h.TbsOk) (htl : h.tables.length < 2 ^ 63) (es : List Ev) (hes : es.length < 2 ^ 32) (e : Ev) (heok : e.Ok) :
    GSpec prog false n_hist_Check_1 [e.av, .ptr 1004 0] ((1004, .box [.ptr 1000 0]) :: ckH h es es es) (vb (ofP (AskOk h es e))) ((1004, .box [.ptr 1000 0]) :: ckH h (esF es e) (esX h es e) (esX h es e)) := by
  refine gspecM1 hist_Check_1_is (by simp) (by decide) rfl rfl ?_
  have hEF : ¬CkFrame es e → esF es e = es := fun g => if_neg g
  simp -dsimp [hist_Check_1, Ev.av]
  refine call_mut (hist_frame_spec h es es es e) rfl (by simp) (by simp [Ev.av]) (by simp [Ev.av]) (by simp) (by simp) (by simp) (by simp) ?_
  simp -dsimp
  refine ⟨fun h1 => ?_, fun h1 => ?_⟩
  · refine call_pure (hist_read_spec ht (esF es e) es e) (by simp [ckIV, Ev.av]; rfl) (by simp [ckIV, Ev.av]) ?_
    by_cases h2 : e.kind = 2 → ReadOk h es e
    · simp -dsimp [ofP_true.2 h2]
      refine call_pure (hist_saw_spec ht htl (esF es e) es (by omega) e heok) (by simp [ckIV, Ev.av]; rfl) (by simp [ckIV, Ev.av]) ?_
      by_cases h3 : e.kind = 4 → SawOk h es e
      · have hX : esX h es e = esW h es e := if_pos ⟨h1, h2, h3⟩
        rw [hX]
        simp -dsimp [ofP_true.2 h3]
        refine call_mut (hist_write_spec ht (esF es e) es hes e) rfl (by simp) (by simp [Ev.av]) (by simp [Ev.av]) (by simp) (by simp) (by simp) (by simp) ?_
        simp -dsimp [ofP_inj]
        exact ⟨fun g => ⟨h1, h2, h3, g⟩, fun g => g.2.2.2⟩
      · have hX : esX h es e = es := if_neg fun g => h3 g.2.2
        rw [hX]
        simp -dsimp [ofP_false.2 h3]
        exact fun g => h3 g.2.2.1
    · have hX : esX h es e = es := if_neg fun g => h2 g.2.1
      rw [hX]
      simp -dsimp [ofP_false.2 h2]
      exact fun g => h2 g.2.1
  · have hX : esX h es e = es := if_neg fun g => h1 g.1
    rw [hX]
    exact ⟨fun g => h1 g.1, rfl, rfl⟩
end Go.Rt
end

/- Contracts: the checker. -/
section
namespace Go.Rt
open Go.Vm
theorem Ev.av_eq (e : Ev) : e.av = .agg ([ci e.txn, ci e.kind, ci e.level, ci e.table, cb e.key.text, ci e.key.n, .v (.string e.key.s), ci e.frm.txn, ci e.frm.n, ci e.n, .lst 3 (rowC e.row),
    ci e.pred.op, ci e.pred.col, cb e.pred.v.text, ci e.pred.v.n, .v (.string e.pred.v.s), cb e.pred.w.text, ci e.pred.w.n, .v (.string e.pred.w.s), .lst 9 (e.pred.l.map Pd.cells), .lst 5 (refsC e.refs), cb e.cur].map .iv) := by
  unfold Ev.av; rw [Ev.cells_eq]
abbrev lkBox (h : Hs) : Ob := .box [.iv (.lst 1 (tbsC h.tables)), .iv (.lst 22 (evsC h.events)), .iv (.lst 5 (insC h.order)), .mpr 11, .mpr 12, .mpr 13]
abbrev lkH (h : Hs) (a b c : List Ev) : Hp := [(3, .box [.ptr 15 0]), (15, lkBox h), (11, .map skS (gS a)), (12, .map skW (gW b)), (13, .mapo skS 4 (gP c) none)]
theorem hist_Check_1_loc {h : Hs} (ht : h.TbsOk) (htl : h.tables.length < 2 ^ 63) (es : List Ev) (hes : es.length < 2 ^ 32) (e : Ev) (heok : e.Ok) :
    GSpec prog false n_hist_Check_1 [e.av, .ptr 3 0] (lkH h es es es) (vb (ofP (AskOk h es e))) (lkH h (esF es e) (esX h es e) (esX h es e)) := by
  have hs := hist_Check_1_spec ht htl es hes e heok
  rw [Ev.av_eq] at hs ⊢
  exact hs.ren (Ren.swaps [(1004, 3), (1000, 15), (1001, 11), (1002, 12), (1003, 13)]) rfl
theorem loop_le {P : Program} {c : VCode} {s s' : St} {O : Outs} (h : Le s s') (k : loopW P c s' O) : loopW P c s O := by
  obtain ⟨I, ⟨k, s2, h2, h3⟩, h4⟩ := k
  exact ⟨I, ⟨k, s2, h.trans h2, h3⟩, h4⟩
theorem gS_nil : gS [] = fun _ => none := by
  funext q; unfold gS; split
  · rfl
  · rfl
theorem gW_nil : gW [] = fun _ => none := by
  funext q; unfold gW; split
  · rfl
  · rfl
theorem gP_nil' : gP [] = fun _ => none := by
  funext q; unfold gP; split
  · rfl
  · rfl
theorem ok_Check_1 : okFn prog n_hist_Check_1 = true := by kernel_rfl
theorem ok_order : okFn prog n_hist_checker_order = true := by kernel_rfl
/-- is a history well formed, as the checker asks -/
def CheckP (h : Hs) : Prop := ((1 ≤ h.tables.length ∧ h.tables.length ≤ 3) ∧ Upto h.tables.length fun i => ∀ t, h.tables[i]? = some t → TbOk t) ∧
  (Upto h.events.length fun i => ∀ e, h.events[i]? = some e → AskOk h (h.events.take i) e) ∧ OrderOk h h.events
noncomputable def checkErr (h : Hs) : Int := if ofP (CheckP h) = true then 0 else 180
theorem checkErr_yes {h : Hs} (hc : CheckP h) : checkErr h = 0 := if_pos (ofP_true.2 hc)
theorem checkErr_no {h : Hs} (hc : ¬CheckP h) : checkErr h = 180 := if_neg (by simpa using hc)
theorem hist_Check_spec {h : Hs} (hok : h.Ok) (hev : h.events.length < 2 ^ 32) : GSpec prog true n_hist_Check [h.av] [] (vi (checkErr h)) [] := by
  refine gspec1 hist_Check_is (by simp) (by decide) rfl ?_
  by_cases hn : 1 ≤ h.tables.length ∧ h.tables.length ≤ 3
  · have n1 : ¬(h.tables.length : Int) < 1 := by omega
    have n2 : ¬(3 : Int) < h.tables.length := by omega
    simp -dsimp [hist_Check, Hs.av, n1, n2]
    refine loop_le (le_mapo _ (id := 13) (sk := skS) 4 rfl (by simp)) ?_
    refine loop_idx [] [7] h.tables.length (fun i => ⟨[(32, vi i), (31, vi h.tables.length), (30, .iv (.lst 1 (tbsC h.tables))), (4, .fn n_hist_Check_1 [] [.ptr 3 0]), (5, .fn n_hist_checker_order [.ptr 15 0] []), (1, .ptr 1 0)],
        (1, .box [.iv (.lst 1 (tbsC h.tables)), .iv (.lst 22 (evsC h.events)), .iv (.lst 5 (insC h.order))]) :: lkH h [] [] []⟩) (fun i => Upto i fun i => ∀ t, h.tables[i]? = some t → TbOk t) ?_ ?_ ?_
    · simp -dsimp [gS_nil, gW_nil, gP_nil']
    · exact upto_zero
    · intro i hi hq
      simp -dsimp [hist_Check_l10]
      refine ⟨fun hlt => ?_, fun hge => ?_⟩
      · obtain ⟨t, hti⟩ := some_at hlt
        have hw := wrap_in (n := (i : Int) + 1) (by omega)
        simp -dsimp [hti]
        refine call_pure (row_Check_spec t) (by simp [tbAV]) (by simp [tbAV]) ?_
        simp -dsimp [hw]
        refine ⟨fun g => ?_, fun g => ⟨hlt, hq.succ fun t' ht' => by rw [hti] at ht'; cases ht'; exact g⟩⟩
        rw [checkErr_no fun g2 => g (g2.1.2 i hlt t hti)]
      · have hT : h.TbsOk := fun t ht => by
          obtain ⟨j, hj⟩ := List.getElem?_of_mem ht
          exact hq j (by have := (List.getElem?_eq_some_iff.1 hj).1; omega) t hj
        have htl := hok.tables
        refine loop_idx [] [9] h.events.length (fun i => ⟨[(43, vi i), (42, vi h.events.length), (41, .iv (.lst 22 (evsC h.events))), (4, .fn n_hist_Check_1 [] [.ptr 3 0]), (5, .fn n_hist_checker_order [.ptr 15 0] []), (1, .ptr 1 0)],
            (1, .box [.iv (.lst 1 (tbsC h.tables)), .iv (.lst 22 (evsC h.events)), .iv (.lst 5 (insC h.order))]) :: lkH h (h.events.take i) (h.events.take i) (h.events.take i)⟩)
          (fun i => Upto i fun i => ∀ e, h.events[i]? = some e → AskOk h (h.events.take i) e) ?_ ?_ ?_
        · simp -dsimp
        · exact upto_zero
        · intro j hj hqj
          simp -dsimp [hist_Check_l16]
          refine ⟨fun hjlt => ?_, fun hjge => ?_⟩
          · obtain ⟨e, he⟩ := some_at hjlt
            have hwj := wrap_in (n := (j : Int) + 1) (by omega)
            have heok := hok.ev e (List.mem_of_getElem? he)
            have hlen : (h.events.take j).length < 2 ^ 32 := by rw [List.length_take]; omega
            simp -dsimp [he]
            refine ⟨ok_Check_1, call_mut (hist_Check_1_loc hT htl (h.events.take j) hlen e heok) rfl (by simp) (by simp [Ev.av]) (by simp [Ev.av]) (by simp) (by simp) (by simp) (by simp) ?_⟩
            by_cases ha : AskOk h (h.events.take j) e
            · have e1 : esF (h.events.take j) e = h.events.take (j + 1) := by rw [take_next he]; exact if_pos ha.1
              have e2 : esX h (h.events.take j) e = h.events.take (j + 1) := by
                rw [take_next he]
                unfold esX
                rw [if_pos ⟨ha.1, ha.2.1, ha.2.2.1⟩]
                exact if_pos fun g => ⟨(ha.2.2.2 g).1, (ha.2.2.2 g).2.1⟩
              simp -dsimp [ha, e1, e2, hwj]
              exact ⟨hjlt, hqj.succ fun e' he' => by rw [he] at he'; cases he'; exact ha⟩
            · simp -dsimp [ha]
              rw [checkErr_no fun g2 => ha (g2.2.1 j hjlt e he)]
          · rw [List.take_of_length_le hjge]
            refine ⟨ok_order, call_purev (hist_order_spec hok h.events hev) (by simp) (by simp [ckIV]; rfl) (by simp [ckIV]) ?_⟩
            simp -dsimp
            constructor
            · intro g
              rw [checkErr_yes ⟨⟨hn, fun k hk => hq k (by omega)⟩, fun k hk => hqj k (by omega), g⟩]
            · intro g
              rw [checkErr_no fun g2 => g g2.2.2]
  · have hno : ¬CheckP h := fun g => hn g.1.1
    by_cases n1 : (h.tables.length : Int) < 1
    · simp -dsimp [hist_Check, Hs.av, n1, checkErr_no hno]
    · have n2 : (3 : Int) < h.tables.length := by omega
      simp -dsimp [hist_Check, Hs.av, n1, n2, checkErr_no hno]
end Go.Rt
end

/- The two questions about a history are one: no program in sight. -/
section
namespace Go.Rt
open Go.Vm
theorem rev_ind {α : Type} {p : List α → Prop} (nil : p []) (snoc : ∀ (l : List α) (x : α), p l → p (l ++ [x])) (l : List α) : p l := by
  rw [← List.reverse_reverse l]
  induction l.reverse with
  | nil => exact nil
  | cons x r ih => rw [List.reverse_cons]; exact snoc _ _ ih
theorem bl_trans : ∀ {x y z : List UInt8}, Op.bytesLess x y = true → Op.bytesLess y z = true → Op.bytesLess x z = true
  | _, [], _, h, _ => by simp [Op.bytesLess] at h
  | _, _ :: _, [], _, h => by simp [Op.bytesLess] at h
  | [], _ :: _, _ :: _, _, _ => rfl
  | a :: x, b :: y, c :: z, h1, h2 => by
    simp only [Op.bytesLess, Bool.or_eq_true, decide_eq_true_eq, Bool.and_eq_true, beq_iff_eq] at h1 h2 ⊢
    rcases h1 with h1 | ⟨rfl, h1⟩
    · rcases h2 with h2 | ⟨rfl, h2⟩
      · exact .inl (UInt8.lt_trans h1 h2)
      · exact .inl h1
    · rcases h2 with h2 | ⟨rfl, h2⟩
      · exact .inl h2
      · exact .inr ⟨rfl, bl_trans h1 h2⟩
theorem scmp_lt {a b : ByteArray} : scmp a b < 0 ↔ strLt a b = true := by
  unfold scmp; split
  · rename_i h; simp [h]
  · rename_i h; split <;> simp [h]
theorem icmp_lt {a b : Int} : icmp a b < 0 ↔ a < b := by
  unfold icmp; split
  · rename_i h; simp [h]
  · rename_i h; split <;> simp [h]
theorem cmp_lt {a b : Vl} : a.cmp b < 0 ↔ (a.text = true ∧ b.text = true ∧ strLt a.s b.s = true) ∨ (a.text = false ∧ b.text = true) ∨ (a.text = false ∧ b.text = false ∧ a.n < b.n) := by
  unfold Vl.cmp
  cases a.text <;> cases b.text <;> simp [scmp_lt, icmp_lt]
theorem cmp_trans {a b c : Vl} (h1 : a.cmp b < 0) (h2 : b.cmp c < 0) : a.cmp c < 0 := by
  rw [cmp_lt] at *
  rcases h1 with ⟨h1, h3, h4⟩ | ⟨h1, h3⟩ | ⟨h1, h3, h4⟩ <;> rcases h2 with ⟨g1, g3, g4⟩ | ⟨g1, g3⟩ | ⟨g1, g3, g4⟩ <;> simp_all
  · exact bl_trans h4 g4
  · omega
theorem cmp_irr (a : Vl) : ¬a.cmp a < 0 := by
  rw [cmp_lt]
  simp [strLt_irr]
/-- keys that rise -/
theorem refs_rise {h : Hs} {es : List Ev} {e : Ev} (hr : Upto e.refs.length (RefAt h es e)) : ∀ {i j : Nat}, i < j → ∀ {a b : Rf}, e.refs[i]? = some a → e.refs[j]? = some b → a.key.cmp b.key < 0 := by
  intro i j
  induction j with
  | zero => intro h; omega
  | succ j ih =>
    intro hij a b ha hb
    have hjl := (List.getElem?_eq_some_iff.1 hb).1
    obtain ⟨q, hq⟩ : ∃ q, e.refs[j]? = some q := some_at (by omega)
    have h1 := (hr (j + 1) hjl b hb).2.2 q (by omega) (by simpa using hq)
    rcases Nat.lt_or_ge i j with h2 | h2
    · exact cmp_trans (ih h2 ha hq) h1
    · obtain rfl : i = j := by omega
      rw [ha] at hq; cases hq; exact h1
theorem lastRef_some {l : List Rf} (hu : ∀ a b, a ∈ l → b ∈ l → a.key = b.key → a = b) : ∀ k v, lastRef l k = some v ↔ There l k v := by
  intro k v
  have key : ∀ (l' : List Rf), (∀ a, a ∈ l' → a ∈ l) → (lastRef l' k = some v ↔ There l' k v) := by
    intro l'
    induction l' using rev_ind with
    | nil => intro _; simp [lastRef]
    | snoc l' r ih =>
      intro hs
      have ih := ih fun a ha => hs a (List.mem_append_left _ ha)
      rw [lastRef_next]
      have hthere : There (l' ++ [r]) k v ↔ There l' k v ∨ (r.key = k ∧ r.frm = v) := by
        rw [there_next, ← Vl.eq_iff, ← Vs.eq_iff]
      rw [hthere]
      by_cases hk : r.key = k
      · rw [if_pos hk]
        constructor
        · intro g; exact .inr ⟨hk, Option.some.inj g⟩
        · rintro (⟨q, g1, g2, g3⟩ | ⟨_, g⟩)
          · have := hu q r (hs q (List.mem_append_left _ g1)) (hs r (by simp)) (by rw [g2, hk])
            subst this; rw [g3]
          · rw [g]
      · rw [if_neg hk, ih]
        exact ⟨.inl, fun g => g.elim id fun g => absurd g.1 hk⟩
  exact key l fun _ h => h
theorem refs_uniq {h : Hs} {es : List Ev} {e : Ev} (hr : Upto e.refs.length (RefAt h es e)) : ∀ a b, a ∈ e.refs → b ∈ e.refs → a.key = b.key → a = b := by
  intro a b ha hb hk
  obtain ⟨i, hi⟩ := List.getElem?_of_mem ha
  obtain ⟨j, hj⟩ := List.getElem?_of_mem hb
  rcases Nat.lt_trichotomy i j with h1 | h1 | h1
  · have := refs_rise hr h1 hi hj; rw [hk] at this; exact absurd this (cmp_irr _)
  · subst h1; rw [hi] at hj; exact Option.some.inj hj
  · have := refs_rise hr h1 hj hi; rw [hk] at this; exact absurd this (cmp_irr _)
/-- how a transaction stands is what its events say -/
def Stands (es : List Ev) : Prop := ∀ t, (¬Begun es t ∧ NoEnd es t ∧ stOf es t = 0 ∧ ended es t = 0) ∨ (Begun es t ∧ NoEnd es t ∧ stOf es t = 1 ∧ ended es t = 0) ∨
  (Begun es t ∧ ¬NoEnd es t ∧ stOf es t = ended es t ∧ (ended es t = 5 ∨ ended es t = 6))
theorem Stands.nil : Stands [] := fun t => .inl ⟨by simp, by simp, rfl, rfl⟩
theorem Stands.ck {es : List Ev} (hs : Stands es) (e : Ev) : CkFrame es e ↔ FrameOk es e := by
  unfold CkFrame FrameOk
  rcases hs e.txn with ⟨h1, h2, h3, h4⟩ | ⟨h1, h2, h3, h4⟩ | ⟨h1, h2, h3, h4⟩
  · rw [h3]; simp only [h1, h2]; grind
  · rw [h3]; simp only [h1, h2]; grind
  · rw [h3]; simp only [h1, h2]; grind
theorem noEnd_iff {es : List Ev} {t : Int} : NoEnd es t ↔ ∀ x, x ∈ es → ¬x.ends t := by
  unfold NoEnd Ev.ends
  constructor
  · rintro h x hx ⟨h1, h2⟩; have := h x hx h1; omega
  · intro h x hx h1; have := h x hx; constructor <;> (intro h2; exact this ⟨h1, by omega⟩)
theorem ended_no {es r : List Ev} {t : Int} (h : NoEnd es t) : ended (es ++ r) t = ended r t := by
  rw [noEnd_iff] at h
  induction es with
  | nil => rfl
  | cons x es ih =>
    rw [List.cons_append, ended, if_neg (h x List.mem_cons_self)]
    exact ih fun y hy => h y (List.mem_cons_of_mem _ hy)
theorem ended_yes {es r : List Ev} {t : Int} (h : ¬NoEnd es t) : ended (es ++ r) t = ended es t := by
  rw [noEnd_iff] at h
  induction es with
  | nil => exact absurd (fun x hx => by cases hx) h
  | cons x es ih =>
    rw [List.cons_append, ended, ended]
    by_cases hx : x.ends t
    · rw [if_pos hx, if_pos hx]
    · rw [if_neg hx, if_neg hx]
      refine ih fun g => h fun y hy => ?_
      rcases List.mem_cons.1 hy with rfl | hy
      · exact hx
      · exact g y hy
theorem ended_one (e : Ev) (t : Int) : ended [e] t = if e.ends t then e.kind else 0 := by rw [ended]; rfl
theorem Stands.next {es : List Ev} (hs : Stands es) {e : Ev} (hf : FrameOk es e) : Stands (es ++ [e]) := by
  intro t
  obtain ⟨f1, f2, f3, f4, f5, f6⟩ := hf
  rw [begun_next, noEnd_next, stOf_next]
  by_cases ht : e.txn = t
  · subst ht
    rw [ended_no f4, ended_one]
    have hends : e.ends e.txn ↔ e.kind = 5 ∨ e.kind = 6 := ⟨fun g => g.2, fun g => ⟨rfl, g⟩⟩
    rcases hs e.txn with ⟨h1, h2, h3, h4⟩ | ⟨h1, h2, h3, h4⟩ | ⟨h1, h2, h3, h4⟩
    · have k1 : e.kind = 1 := Classical.byContradiction fun g => h1 (f6 g)
      right; left
      have : ¬e.ends e.txn := fun g => by have := hends.1 g; omega
      simp [k1, h2, this]
    · have k1 : e.kind ≠ 1 := fun g => (f5 g).1 h1
      by_cases k5 : e.kind = 5 ∨ e.kind = 6
      · right; right
        rw [if_pos ⟨rfl, .inr k5⟩, if_pos (hends.2 k5)]
        refine ⟨.inl h1, ?_, rfl, k5⟩
        rintro ⟨_, g⟩
        have := g rfl
        omega
      · right; left
        rw [if_neg (by rintro ⟨_, g⟩; omega), if_neg (fun g => k5 (hends.1 g))]
        exact ⟨.inl h1, ⟨h2, fun _ => by omega⟩, h3, rfl⟩
    · exact absurd f4 h2
  · have e1 : stOf es t = stOf es t := rfl
    rw [if_neg fun g => ht g.1]
    have e2 : ended (es ++ [e]) t = ended es t := by
      by_cases hn : NoEnd es t
      · rw [ended_no hn, ended_one, if_neg fun g => ht g.1]
        exact (ended_none fun x hx => noEnd_iff.1 hn x hx).symm
      · exact ended_yes hn
    rw [e2]
    have e3 : (Begun es t ∨ e.txn = t) ↔ Begun es t := ⟨fun g => g.elim id fun g => absurd g ht, .inl⟩
    have e4 : (NoEnd es t ∧ (e.txn = t → e.kind ≠ 5 ∧ e.kind ≠ 6)) ↔ NoEnd es t := ⟨fun g => g.1, fun g => ⟨g, fun g2 => absurd g2 ht⟩⟩
    rw [e3, e4]
    exact hs t
/-- each event is framed as it may be -/
def Frames (es : List Ev) : Prop := Upto es.length fun i => ∀ e, es[i]? = some e → FrameOk (es.take i) e
theorem upto_snoc {α : Type} {l : List α} {x : α} {p : List α → α → Prop} : (Upto (l ++ [x]).length fun i => ∀ e, (l ++ [x])[i]? = some e → p ((l ++ [x]).take i) e) ↔
    (Upto l.length fun i => ∀ e, l[i]? = some e → p (l.take i) e) ∧ p l x := by
  constructor
  · intro h
    refine ⟨fun i hi e he => ?_, ?_⟩
    · have := h i (by rw [List.length_append]; omega) e (by rw [List.getElem?_append_left hi]; exact he)
      rwa [List.take_append_of_le_length (by omega)] at this
    · have := h l.length (by simp) x (by simp)
      rwa [List.take_left] at this
  · rintro ⟨h1, h2⟩ i hi e he
    by_cases hl : i < l.length
    · rw [List.getElem?_append_left hl] at he
      rw [List.take_append_of_le_length (by omega)]
      exact h1 i hl e he
    · have : i = l.length := by simp at hi; omega
      subst this
      rw [List.take_left]
      simp at he
      subst he
      exact h2
theorem Frames.stands {es : List Ev} : Frames es → Stands es := by
  induction es using rev_ind with
  | nil => exact fun _ => Stands.nil
  | snoc es e ih => intro h; have := upto_snoc.1 h; exact (ih this.1).next this.2
/-- each write bears the next number -/
def Counts (es : List Ev) : Prop := Upto es.length fun i => ∀ e, es[i]? = some e → e.kind = 3 → e.n = wrote (es.take i) e.txn e.table e.key + 1
theorem Counts.spots {es : List Ev} : Counts es → ∀ t o, o ∈ spots es t ↔ 0 < wrote es t o.1 o.2 := by
  induction es using rev_ind with
  | nil => intro _ t o; simp [Go.Rt.spots, wrote]
  | snoc es e ih =>
    intro h t o
    have h2 := (upto_snoc (p := fun (es : List Ev) (e : Ev) => e.kind = 3 → e.n = wrote es e.txn e.table e.key + 1)).1 h
    rw [spots_next, wrote_next, List.mem_append, ih h2.1 t o]
    obtain ⟨tab, k⟩ := o
    by_cases hw : e.isW t tab k = true
    · rw [if_pos hw]
      obtain ⟨w1, w2, w3, w4⟩ := Ev.isW_iff.1 hw
      have hk := Vl.eq_iff.2 w4
      subst w2 w3 hk
      have hn := h2.2 w1
      by_cases h0 : 0 < wrote es e.txn e.table e.key
      · simp [h0]
      · rw [if_pos ⟨w1, rfl, by omega⟩]; simp
    · rw [if_neg hw, Nat.add_zero]
      constructor
      · rintro (g | g)
        · exact g
        · split at g
          · rename_i c
            simp only [List.mem_singleton, Prod.mk.injEq] at g
            exact absurd (Ev.isW_iff.2 ⟨c.1, c.2.1, g.1.symm, by rw [g.2], by rw [g.2], by rw [g.2]⟩) hw
          · cases g
      · exact .inl
theorem wrote_pos {es : List Ev} {t tab : Int} {k : Vl} : 0 < wrote es t tab k ↔ ∃ x, x ∈ es ∧ x.kind = 3 ∧ x.txn = t ∧ x.table = tab ∧ x.key = k := by
  unfold wrote
  rw [List.length_pos_iff_exists_mem]
  constructor
  · rintro ⟨x, hx⟩
    obtain ⟨h1, h2⟩ := List.mem_filter.1 hx
    obtain ⟨w1, w2, w3, w4⟩ := Ev.isW_iff.1 h2
    exact ⟨x, h1, w1, w2, w3, Vl.eq_iff.2 w4⟩
  · rintro ⟨x, h1, w1, w2, w3, w4⟩
    exact ⟨x, List.mem_filter.2 ⟨h1, Ev.isW_iff.2 ⟨w1, w2, w3, Vl.eq_iff.1 w4⟩⟩⟩
theorem saw_iff {h : Hs} {es : List Ev} (hc : Counts es) {e : Ev} (he : 1 ≤ e.txn) : SawOk h es e ↔ PredOk h es e := by
  unfold SawOk PredOk
  refine and_congr_right fun _ => and_congr_right fun hr => ?_
  have hl := lastRef_some (refs_uniq hr)
  constructor
  · intro g x hx k3 k1 k2
    have hpos : 0 < wrote es e.txn x.table x.key := wrote_pos.2 ⟨x, hx, k3, k1, rfl, rfl⟩
    have := g (x.table, x.key) ((hc.spots _ _).2 hpos) k2
    rw [k2] at this
    cases hlr : lastRef e.refs x.key with
    | none => rw [hlr] at this; have := congrArg Vs.txn this; simp at this; omega
    | some v => rw [hlr] at this; simp only [Option.getD_some] at this; subst this; exact (hl _ _).1 hlr
  · rintro g ⟨tab, k⟩ ho rfl
    have hpos := (hc.spots _ _).1 ho
    obtain ⟨x, hx, k3, k1, k2, rfl⟩ := wrote_pos.1 hpos
    have := g x hx k3 k1 k2
    have h5 := (hl _ _).2 this
    simp only
    rw [h5]
    rfl
theorem ask_iff {h : Hs} {es : List Ev} (hs : Stands es) (hc : Counts es) {e : Ev} : AskOk h es e ↔ EventOk h es e := by
  unfold AskOk EventOk
  rw [hs.ck]
  constructor
  · rintro ⟨h1, h2, h3, h4⟩; exact ⟨h1, h2, h4, fun g => (saw_iff hc h1.1).1 (h3 g)⟩
  · rintro ⟨h1, h2, h3, h4⟩; exact ⟨h1, h2, fun g => (saw_iff hc h1.1).2 (h4 g), h3⟩
def Events (h : Hs) (es : List Ev) : Prop := Upto es.length fun i => ∀ e, es[i]? = some e → EventOk h (es.take i) e
theorem Events.good {h : Hs} {es : List Ev} (g : Events h es) : Frames es ∧ Counts es :=
  ⟨fun i hi e he => (g i hi e he).1, fun i hi e he k3 => ((g i hi e he).2.2.1 k3).2.1⟩
theorem asks_iff {h : Hs} (es : List Ev) : (Upto es.length fun i => ∀ e, es[i]? = some e → AskOk h (es.take i) e) ↔ Events h es := by
  induction es using rev_ind with
  | nil => exact ⟨fun _ => upto_zero, fun _ => upto_zero⟩
  | snoc es e ih =>
    unfold Events
    rw [upto_snoc (p := AskOk h), upto_snoc (p := EventOk h), ih]
    refine and_congr_right fun g => ?_
    exact ask_iff g.good.1.stands g.good.2
theorem stands_five {es : List Ev} (hs : Stands es) (t : Int) : stOf es t = 5 ↔ ended es t = 5 := by
  rcases hs t with ⟨_, _, h3, h4⟩ | ⟨_, _, h3, h4⟩ | ⟨_, _, h3, h4⟩ <;> omega
theorem order_iff {h : Hs} (hs : Stands h.events) (hc : Counts h.events) : OrderOk h h.events ↔
    (Upto h.order.length fun i => ∀ o, h.order[i]? = some o → InstallOk h i o) ∧ Upto h.events.length fun i => ∀ e, h.events[i]? = some e → InstalledOk h e := by
  unfold OrderOk
  refine and_congr ?_ ?_
  · have key : ∀ i o, InsCk h h.events i o ↔ InstallOk h i o := by
      intro i o
      unfold InsCk InstallOk
      constructor
      · rintro ⟨h1, h2, h3⟩
        exact ⟨h1, fun k hk t ht => ⟨(stands_five hs t).1 (h3 k hk t ht).1, Nat.pos_iff_ne_zero.1 ((hc.spots _ _).1 (h3 k hk t ht).2.1), (h3 k hk t ht).2.2⟩, h2⟩
      · rintro ⟨h1, h2, h3⟩
        exact ⟨h1, h3, fun k hk t ht => ⟨(stands_five hs t).2 (h2 k hk t ht).1, (hc.spots _ _).2 (Nat.pos_iff_ne_zero.2 (h2 k hk t ht).2.1), (h2 k hk t ht).2.2⟩⟩
    constructor
    · intro g i hi o ho; exact (key i o).1 (g i hi o ho)
    · intro g i hi o ho; exact (key i o).2 (g i hi o ho)
  · constructor
    · intro g i hi e he k3 k5
      have hm := List.mem_of_getElem? he
      exact g e.txn (e.table, e.key) ((stands_five hs _).2 k5) ((hc.spots _ _).2 (wrote_pos.2 ⟨e, hm, k3, rfl, rfl, rfl⟩))
    · rintro g t ⟨tab, k⟩ h1 h2
      obtain ⟨x, hx, k3, rfl, rfl, rfl⟩ := wrote_pos.1 ((hc.spots _ _).1 h2)
      obtain ⟨i, hi⟩ := List.getElem?_of_mem hx
      exact g i (List.getElem?_eq_some_iff.1 hi).1 x hi k3 ((stands_five hs _).1 h1)
/-- the checker's question is the document's -/
theorem check_iff (h : Hs) : CheckP h ↔ WellP h := by
  unfold CheckP WellP
  rw [asks_iff]
  have hT : ((1 ≤ h.tables.length ∧ h.tables.length ≤ 3) ∧ Upto h.tables.length fun i => ∀ t, h.tables[i]? = some t → TbOk t) ↔ TablesOk h := by
    unfold TablesOk
    refine and_congr_right fun _ => ?_
    constructor
    · intro g t ht
      obtain ⟨j, hj⟩ := List.getElem?_of_mem ht
      exact g j (List.getElem?_eq_some_iff.1 hj).1 t hj
    · intro g i hi t ht; exact g t (List.mem_of_getElem? ht)
  rw [hT]
  refine and_congr_right fun _ => ?_
  constructor
  · rintro ⟨g1, g2⟩
    have g3 := (order_iff g1.good.1.stands g1.good.2).1 g2
    exact ⟨fun i hi e he => ⟨g1 i hi e he, g3.2 i hi e he⟩, g3.1⟩
  · rintro ⟨g1, g2⟩
    have g4 : Events h h.events := fun i hi e he => (g1 i hi e he).1
    exact ⟨g4, (order_iff g4.good.1.stands g4.good.2).2 ⟨g2, fun i hi e he => (g1 i hi e he).2⟩⟩
end Go.Rt
end

/- Contracts: how a transaction ended. -/
section
namespace Go.Rt
open Go.Vm
theorem hist_Ended_1_spec (e : Ev) (txn : Int) : GSpec prog true n_hist_Ended_1 [e.av, .iv (.pt [ci txn])] [] (vb (ofP (e.ends txn))) [] := by
  refine gspec1 hist_Ended_1_is (by simp) (by decide) rfl ?_
  simp -dsimp [hist_Ended_1, Ev.av, ofP_eq, Ev.ends]
  grind
theorem ok_Ended_1 : okFn prog n_hist_Ended_1 = true := by kernel_rfl
noncomputable def endIx (es : List Ev) (txn : Int) : Int := match es.findIdx? (fun e => decide (e.ends txn)) with
  | some i => i
  | none => -1
theorem endIx_at {es : List Ev} {txn : Int} {i : Nat} {e : Ev} (he : es[i]? = some e) (h : e.ends txn) (hn : Upto i fun j => ∀ x, es[j]? = some x → ¬x.ends txn) : endIx es txn = i := by
  have : es.findIdx? (fun e => decide (e.ends txn)) = some i := by
    rw [List.findIdx?_eq_some_iff_getElem]
    have hl := (List.getElem?_eq_some_iff.1 he).1
    have hg := (List.getElem?_eq_some_iff.1 he).2
    refine ⟨hl, by rw [hg]; simpa using h, fun j hj => ?_⟩
    have := hn j hj es[j] (List.getElem?_eq_getElem (by omega))
    simpa using this
  unfold endIx; rw [this]
theorem endIx_none {es : List Ev} {txn : Int} (hn : ∀ x, x ∈ es → ¬x.ends txn) : endIx es txn = -1 := by
  have : es.findIdx? (fun e => decide (e.ends txn)) = none := by
    rw [List.findIdx?_eq_none_iff]
    intro x hx
    have := hn x hx
    simpa using this
  unfold endIx; rw [this]
theorem upto_all {α : Type} {l : List α} {i : Nat} {p : α → Prop} (hi : l.length ≤ i) (h : Upto i fun j => ∀ x, l[j]? = some x → p x) : ∀ x, x ∈ l → p x := by
  intro x hx
  obtain ⟨j, hj⟩ := List.getElem?_of_mem hx
  exact h j (by have := (List.getElem?_eq_some_iff.1 hj).1; omega) x hj
theorem IndexFunc_Ev_spec (es : List Ev) (hl : es.length < 2 ^ 63) (txn : Int) : GSpec prog true n_slices_IndexFunc_api_Event_api_Event [.iv (.lst 22 (evsC es)), .fn n_hist_Ended_1 [] [.val (.pt [ci txn])]] [] (vi (endIx es txn)) [] := by
  refine gspec1 slices_IndexFunc_api_Event_api_Event_is (by simp) (by decide) rfl ?_
  simp -dsimp [slices_IndexFunc_api_Event_api_Event]
  refine loop_idx [] [] es.length (fun i => ⟨[(8, vi i), (7, vi es.length), (0, .iv (.lst 22 (evsC es))), (1, .fn n_hist_Ended_1 [] [.val (.pt [ci txn])])], []⟩)
    (fun i => Upto i fun j => ∀ x, es[j]? = some x → ¬x.ends txn) ?_ ?_ ?_
  · simp -dsimp
  · exact upto_zero
  · intro i hi hq
    simp -dsimp [slices_IndexFunc_api_Event_api_Event_l7]
    refine ⟨fun hlt => ?_, fun hge => ?_⟩
    · obtain ⟨e, he⟩ := some_at hlt
      have hw := wrap_in (n := (i : Int) + 1) (by omega)
      simp -dsimp [he]
      refine ⟨ok_Ended_1, call_purev (hist_Ended_1_spec e txn) (by simp) (by simp [Ev.av]) (by simp [Ev.av]) ?_⟩
      simp -dsimp [hw]
      refine ⟨fun g => ?_, fun g => ⟨hlt, hq.succ fun x hx => by rw [he] at hx; cases hx; exact g⟩⟩
      rw [endIx_at he g hq]
    · rw [endIx_none (upto_all hge hq)]
theorem first_at {α : Type} (p : α → Prop) : ∀ {l : List α}, (∃ e, e ∈ l ∧ p e) → ∃ i e, l[i]? = some e ∧ p e ∧ Upto i fun j => ∀ x, l[j]? = some x → ¬p x
  | [], ⟨_, h, _⟩ => by cases h
  | x :: r, ⟨e, h, he⟩ => by
    by_cases hx : p x
    · exact ⟨0, x, rfl, hx, upto_zero⟩
    · rcases List.mem_cons.1 h with rfl | h
      · exact absurd he hx
      · obtain ⟨i, e', h1, h2, h3⟩ := first_at p (l := r) ⟨e, h, he⟩
        refine ⟨i + 1, e', by simpa using h1, h2, fun j hj y hy => ?_⟩
        cases j with
        | zero => simp at hy; subst hy; exact hx
        | succ j => exact h3 j (by omega) y (by simpa using hy)
theorem hist_Ended_spec {h : Hs} (hok : h.Ok) (txn : Int) : GSpec prog true n_hist_Ended [h.av, vi txn] [] (vi (ended h.events txn)) [] := by
  refine gspec1 hist_Ended_is (by simp) (by decide) rfl ?_
  simp -dsimp [hist_Ended, Hs.av]
  refine call_pure (IndexFunc_Ev_spec h.events hok.events txn) (by simp) (by simp) ?_
  by_cases hE : ∃ e, e ∈ h.events ∧ e.ends txn
  · obtain ⟨i, e, h1, h2, h3⟩ := first_at (fun e : Ev => e.ends txn) hE
    rw [endIx_at h1 h2 h3, ended_at (i := i) (fun j hj => h3 j hj) h1 h2]
    have n1 : ¬(i : Int) < 0 := by omega
    simp -dsimp [h1, n1]
  · have hn : ∀ x, x ∈ h.events → ¬x.ends txn := fun x hx g => hE ⟨x, hx, g⟩
    rw [endIx_none hn, ended_none hn]
    simp -dsimp
end Go.Rt
end

/- Contracts: a history, completed. -/
section
namespace Go.Rt
open Go.Vm
set_option maxRecDepth 8000 in
set_option maxHeartbeats 8000000 in
theorem hist_Complete_spec {h : Hs} (hok : h.Ok) (hlen : h.events.length < 2 ^ 31) (ht : h.tables.length < 2 ^ 31) (ho : h.order.length < 2 ^ 31) (htb : ∀ t ∈ h.tables, t.length ≤ 140737488355328) (htx : ∀ o ∈ h.order, o.txns.length < 2 ^ 32)
    (hev : ∀ e ∈ h.events, e.row.length < 2 ^ 32 ∧ e.refs.length < 2 ^ 32 ∧ e.pred.Few) : GSpec prog false n_hist_Complete [h.av] [] (.agg ((complete h).cells.map .iv)) [(2, .box ((complete h).cells.map .iv))] := by
  refine gspecCL [72, 90, 3, 1] 2 (complete h).cells rfl hist_Complete_is (by simp [Hs.av]) (by decide) ?_
  simp -dsimp [hist_Complete, Hs.av]
  refine loop_idxL [5, 26] h.tables.length (fun i => ⟨[(16, vi i), (15, vi h.tables.length), (14, .iv (.lst 1 (tbsC h.tables))), (1, .ptr 1 0), (2, .ptr 2 0), (3, .ptr 3 0)],
    [(3, .box [.sl 27 1 0 i, .sl 72 22 0 0, .sl 45 5 0 0]), (27, .list 1 (tbsC (h.tables.take i))), (72, .list 22 []), (45, .list 5 []), (2, .box [.nil 1, .nil 22, .nil 5]), (1, .box (h.cells.map .iv))]⟩) (fun _ => True) ?_ trivial ?_
  · refine ((le_own (j := 3) (i := 0) (id := 27) rfl rfl rfl (by decide)).trans ((le_own (j := 3) (i := 1) (id := 72) rfl rfl rfl (by decide)).trans ((le_own (j := 3) (i := 2) (id := 45) rfl rfl rfl (by decide)).trans (LeTo.le (D := []) ?_))))
    simp -dsimp [St.add, Hs.cells, tbsC]
  · intro i hi _
    by_cases hil : i < h.tables.length
    · have hil2 : ¬h.tables.length ≤ i := by omega
      obtain ⟨t, hti⟩ := some_at hil
      have hiw := wrap_in (n := (i : Int) + 1) (by omega)
      have htc : GSpec prog false n_slices_Clone_bool_bool [.iv (tbIV t)] [] (.iv (tbIV t)) [] := Clone_bools (by have := htb t (List.mem_of_getElem? hti); simpa using this)
      have hnx : tbsC (h.tables.take (i + 1)) = tbsC (h.tables.take i) ++ [[tbIV t]] := by rw [List.take_add_one, hti]; simp [tbsC]
      simp -dsimp [hist_Complete_l7, Hs.cells, hil2, hti]
      intro _
      constructor
      all_goals
        refine call_mut htc rfl (by simp) (by simp) (by simp) (by simp) (by simp) (by simp) (by simp) ?_
        simp -dsimp [hiw, hnx]
        omega
    · have hie : i = h.tables.length := by omega
      subst hie
      simp -dsimp [hist_Complete_l7, Hs.cells]
      refine loop_idx [5, 27] [7, 44] h.order.length (fun i => ⟨[(33, vi i), (32, vi h.order.length), (31, .iv (.lst 5 (insC h.order))), (1, .ptr 1 0), (2, .ptr 2 0), (3, .ptr 3 0)],
        [(3, .box [.iv (.lst 1 (tbsC h.tables)), .sl 72 22 0 0, .sl 45 5 0 i]), (45, .list 5 (insC (h.order.take i))), (72, .list 22 []), (2, .box [.nil 1, .nil 22, .nil 5]), (1, .box (h.cells.map .iv))]⟩) (fun _ => True) ?_ trivial ?_
      · simp -dsimp [Hs.cells, insC, List.take_of_length_le]
      · intro i hi _
        by_cases hil : i < h.order.length
        · have hil2 : ¬h.order.length ≤ i := by omega
          obtain ⟨o, hoi⟩ := some_at hil
          have hiw := wrap_in (n := (i : Int) + 1) (by omega)
          have hnx : insC (h.order.take (i + 1)) = insC (h.order.take i) ++ [o.cells] := by rw [List.take_add_one, hoi]; simp [insC]
          have hoc : GSpec prog false n_slices_Clone_int_int [.iv (intsIV o.txns)] [] (.iv (intsIV o.txns)) [] := Clone_ints (by have := htx o (List.mem_of_getElem? hoi); simpa using this)
          simp -dsimp [hist_Complete_l14, Hs.cells, hil2, hoi, Ins.cells_eq o]
          intro _
          refine call_mut hoc rfl (by simp [intsIV]) (by simp [intsIV]) (by simp) (by simp) (by simp) (by simp) (by simp) ?_
          simp -dsimp [hiw, hnx, Ins.cells_eq o, intsIV]
          omega
        · have hie : i = h.order.length := by omega
          subst hie
          simp -dsimp [hist_Complete_l14, Hs.cells]
          refine loop_idx [45] [10, 64, 71] h.events.length (fun i => ⟨[(52, vi i), (51, vi h.events.length), (50, .iv (.lst 22 (evsC h.events))), (8, .mpr 48), (1, .ptr 1 0), (2, .ptr 2 0), (3, .ptr 3 0)],
            [(3, .box [.iv (.lst 1 (tbsC h.tables)), .sl 72 22 0 i, .iv (.lst 5 (insC h.order))]), (72, .list 22 (evsC (h.events.take i))), (48, .map skS (gT (begs h.events (h.events.take i)))), (2, .box [.nil 1, .nil 22, .nil 5]), (1, .box (h.cells.map .iv))]⟩) (fun _ => True) ?_ trivial ?_
          · have h0 : gT (begs h.events []) = fun _ => none := by
              funext q; unfold gT; split <;> simp [begs]
            simp -dsimp [Hs.cells, evsC, List.take_of_length_le, h0]
          · intro i hi _
            by_cases hil : i < h.events.length
            · have hil2 : ¬h.events.length ≤ i := by omega
              obtain ⟨e, hei⟩ := some_at hil
              have hiw := wrap_in (n := (i : Int) + 1) (by omega)
              have hnx : evsC (h.events.take (i + 1)) = evsC (h.events.take i) ++ [e.cells] := by rw [List.take_add_one, hei]; simp [evsC]
              have hbn := begs_next (es := h.events) hei
              obtain ⟨hv1, hv2, hv3⟩ := hev e (List.mem_of_getElem? hei)
              have hrow : GSpec prog false n_row_Clone [.iv (.lst 3 (rowC e.row))] [] (.iv (.lst 3 (rowC e.row))) [] := row_Clone_spec (by simpa using hv1)
              have hrefs : GSpec prog false n_slices_Clone_api_Ref_api_Ref [.iv (.lst 5 (refsC e.refs))] [] (.iv (.lst 5 (refsC e.refs))) [] := Clone_refs (by simpa using hv2)
              have hpred := pred_Clone_spec hv3 64
              by_cases hk : e.kind = 1
              · simp -dsimp [hist_Complete_l24, Hs.cells, hil2, hei, Ev.cells_eq e, hk, -hist_Complete_t19]
                intro _
                simp -dsimp [hist_Complete_t19]
                by_cases hz : ended h.events e.txn = 0
                · rw [if_pos ⟨hk, hz⟩] at hbn
                  repeat' first
                    | apply And.intro
                    | (refine call_mut hrow rfl (by simp) (by simp) (by simp) (by simp) (by simp) (by simp) (by simp) ?_; simp -dsimp [hiw, hnx, hk, hbn, hz, Ev.cells_eq e, gset_gT])
                    | (refine call_mut hrefs rfl (by simp) (by simp) (by simp) (by simp) (by simp) (by simp) (by simp) ?_; simp -dsimp [hiw, hnx, hk, hbn, hz, Ev.cells_eq e, gset_gT])
                    | (refine call_newC hpred (by decide) rfl (by simp [Pd.av_eq]) (by simp [Pd.av_eq]) ?_; simp -dsimp [hiw, hnx, hk, hbn, hz, Ev.cells_eq e, gset_gT, Pd.cells_eq e.pred])
                    | (refine call_pure (hist_Ended_spec hok e.txn) (by simp [Hs.av, Hs.cells]) (by simp [Hs.av, Hs.cells]) ?_; simp -dsimp [hiw, hnx, hk, hbn, hz, Ev.cells_eq e, gset_gT])
                  all_goals omega
                · rw [if_neg (fun h => hz h.2)] at hbn
                  repeat' first
                    | apply And.intro
                    | (refine call_mut hrow rfl (by simp) (by simp) (by simp) (by simp) (by simp) (by simp) (by simp) ?_; simp -dsimp [hiw, hnx, hk, hbn, hz, Ev.cells_eq e])
                    | (refine call_mut hrefs rfl (by simp) (by simp) (by simp) (by simp) (by simp) (by simp) (by simp) ?_; simp -dsimp [hiw, hnx, hk, hbn, hz, Ev.cells_eq e])
                    | (refine call_newC hpred (by decide) rfl (by simp [Pd.av_eq]) (by simp [Pd.av_eq]) ?_; simp -dsimp [hiw, hnx, hk, hbn, hz, Ev.cells_eq e, Pd.cells_eq e.pred])
                    | (refine call_pure (hist_Ended_spec hok e.txn) (by simp [Hs.av, Hs.cells]) (by simp [Hs.av, Hs.cells]) ?_; simp -dsimp [hiw, hnx, hk, hbn, hz, Ev.cells_eq e])
                  all_goals omega
              · rw [if_neg (fun h => hk h.1)] at hbn
                simp -dsimp [hist_Complete_l24, Hs.cells, hil2, hei, Ev.cells_eq e, hk, -hist_Complete_t19]
                intro _
                simp -dsimp [hist_Complete_t19]
                repeat' first
                  | apply And.intro
                  | (refine call_mut hrow rfl (by simp) (by simp) (by simp) (by simp) (by simp) (by simp) (by simp) ?_; simp -dsimp [hiw, hnx, hk, hbn, Ev.cells_eq e])
                  | (refine call_mut hrefs rfl (by simp) (by simp) (by simp) (by simp) (by simp) (by simp) (by simp) ?_; simp -dsimp [hiw, hnx, hk, hbn, Ev.cells_eq e])
                  | (refine call_newC hpred (by decide) rfl (by simp [Pd.av_eq]) (by simp [Pd.av_eq]) ?_; simp -dsimp [hiw, hnx, hk, hbn, Ev.cells_eq e, Pd.cells_eq e.pred])
                all_goals omega
            · have hie : i = h.events.length := by omega
              subst hie
              simp -dsimp [hist_Complete_l24, Hs.cells]
              refine call_newC (maps_Keys_at (gT (begs h.events h.events)) 89) (by decide) rfl (by simp) (by simp) ?_
              simp -dsimp
              have hol := opens_len h.events (txns h.events)
              have htl := txns_len h.events
              have hos := opens_sorted h.events
              refine call_new ((Sorted_gT (begs_opens h.events) hos (by omega)).freshL 90 (by simp [AV.shal, AV.shal2, AV.shal1]) (fun ρ => by simp [AV.ren, AV.ren2, AV.ren1, CapV.ren])) (by decide) (by simp) (by simp) ?_
              have hcomp : (complete h).cells = [.lst 1 (tbsC h.tables), .lst 22 (evsC (h.events ++ (opens h.events (txns h.events)).map abortEv)), .lst 5 (insC h.order)] := rfl
              rw [hcomp]
              generalize opens h.events (txns h.events) = T at *
              simp -dsimp [intsIV]
              refine loop_idx [89] [100] T.length (fun i => ⟨[(92, vi i), (91, vi T.length), (90, .sl 90 1 0 T.length), (1, .ptr 1 0), (2, .ptr 2 0), (3, .ptr 3 0)],
                [(3, .box [.iv (.lst 1 (tbsC h.tables)), .sl 72 22 0 (h.events ++ (T.take i).map abortEv).length, .iv (.lst 5 (insC h.order))]), (72, .list 22 (evsC (h.events ++ (T.take i).map abortEv))), (90, .list 1 (intsC T)), (2, .box [.nil 1, .nil 22, .nil 5]), (1, .box (h.cells.map .iv))]⟩) (fun _ => True) ?_ trivial ?_
              · simp -dsimp [Hs.cells, evsC]
              · intro i hi _
                by_cases hil : i < T.length
                · have hil2 : ¬T.length ≤ i := by omega
                  obtain ⟨x, hx⟩ := some_at hil
                  have hiw := wrap_in (n := (i : Int) + 1) (by omega)
                  have hnx : T.take (i + 1) = T.take i ++ [x] := by rw [List.take_add_one, hx]; rfl
                  simp -dsimp [hist_Complete_l30, Hs.cells, hil2, hx, hiw, hnx]
                  intro _
                  refine ⟨hil, by omega, by omega, hil, by omega, ?_⟩
                  simp only [evsC, List.map_append, List.map_cons, List.map_nil, List.append_assoc]
                  rfl
                · have hie : i = T.length := by omega
                  subst hie
                  simp -dsimp [hist_Complete_l30, Hs.cells]
                  exact List.take_of_length_le (by simp)
end Go.Rt
end

/- Contracts: the document's example. -/
section
namespace Go.Rt
open Go.Vm
def k5 : Vl := ⟨false, 5, ⟨#[]⟩⟩
def noPd : Pd := .mk 0 0 Vl.zero Vl.zero []
def exEv0 : Ev := ⟨1, 1, 1, 0, Vl.zero, ⟨0, 0⟩, 0, [], noPd, [], false⟩
def exEv1 (n : Int) : Ev := ⟨1, 3, 0, 0, k5, ⟨0, 0⟩, n, [k5], noPd, [], false⟩
def exEv2 : Ev := ⟨1, 5, 0, 0, Vl.zero, ⟨0, 0⟩, 0, [], noPd, [], false⟩
def exH (n : Int) : Hs := ⟨[[false]], [exEv0, exEv1 n, exEv2], [⟨0, k5, [1]⟩]⟩
theorem exH_well : WellP (exH 1) := by
  have t1 : TablesOk (exH 1) := by
    refine ⟨by simp [exH], fun t ht => ?_⟩
    simp [exH] at ht
    subst ht
    simp [TbOk]
  have hk : KeyOk (exH 1) 0 k5 := ⟨by omega, [false], rfl, by decide, rfl⟩
  refine ⟨t1, fun i hi e he => ?_, fun i hi o ho => ?_⟩
  · have hi3 : i < 3 := hi
    match i, hi3, he with
    | 0, _, he =>
      obtain rfl : e = exEv0 := by simpa [exH] using he.symm
      refine ⟨⟨⟨by decide, by decide, by decide, by simp, fun _ => ⟨by simp, by decide, by decide⟩, fun g => absurd rfl g⟩, fun g => (by cases g), fun g => (by cases g), fun g => (by cases g)⟩, fun g => (by cases g)⟩
    | 1, _, he =>
      obtain rfl : e = exEv1 1 := by simpa [exH] using he.symm
      refine ⟨⟨⟨by decide, by decide, by decide, ?_, fun g => (by cases g), fun _ => ⟨exEv0, by simp [exH], rfl⟩⟩, fun g => (by cases g), fun _ => ⟨hk, ?_, .inr ⟨[false], rfl, ?_, rfl⟩⟩, fun g => (by cases g)⟩, fun _ _ => ⟨_, List.mem_singleton.2 rfl, ⟨rfl, rfl⟩, by simp [exEv1]⟩⟩
      · intro x hx _
        simp [exH] at hx; subst hx; decide
      · simp [exH, wrote, exEv1, exEv0, Ev.isW]
      · refine ⟨by simp [TbOk], rfl, fun i hi v c hv hc => ?_⟩
        obtain rfl : i = 0 := by simp [exEv1] at hi; omega
        simp [exEv1] at hv hc
        subst hv hc
        decide
    | 2, _, he =>
      obtain rfl : e = exEv2 := by simpa [exH] using he.symm
      refine ⟨⟨⟨by decide, by decide, by decide, ?_, fun g => (by cases g), fun _ => ⟨exEv0, by simp [exH], rfl⟩⟩, fun g => (by cases g), fun g => (by cases g), fun g => (by cases g)⟩, fun g => (by cases g)⟩
      intro x hx _
      simp [exH] at hx
      rcases hx with rfl | rfl <;> decide
  · have hi1 : i < 1 := hi
    obtain rfl : i = 0 := by omega
    obtain rfl : o = ⟨0, k5, [1]⟩ := by simpa [exH] using ho.symm
    refine ⟨fun x hx => by simp at hx, fun j hj t ht => ?_, by simp⟩
    obtain rfl : j = 0 := by simp at hj; omega
    obtain rfl : t = 1 := by simpa using ht.symm
    refine ⟨by simp [exH, ended, Ev.ends, exEv0, exEv1, exEv2], ?_, by simp⟩
    simp [exH, wrote, exEv1, exEv0, Ev.isW, exEv2]
theorem exH_ill : ¬WellP (exH 2) := by
  intro h
  have := ((h.2.1 1 (by decide) (exEv1 2) rfl).1.2.2.1 rfl).2.1
  simp [exH, wrote, exEv1, exEv0, Ev.isW] at this
theorem exPd_ok : noPd.Ok := .mk _ (by decide) (by decide) (by decide) fun q hq => by cases hq
theorem exH_ok (n : Int) : (exH n).Ok := by
  refine ⟨by simp [exH], by simp [exH], by simp [exH], fun e he => ?_, fun o ho => ?_, fun t ht => ?_, fun o ho => ?_⟩
  · simp [exH] at he
    rcases he with rfl | rfl | rfl
    all_goals exact ⟨by simp [exEv0, exEv1, exEv2], by simp [exEv0, exEv1, exEv2], exPd_ok, by simp [exEv0, exEv1, exEv2, Vl.zero, k5]; decide, fun r hr => by cases hr⟩
  · simp [exH] at ho; subst ho; decide
  · simp [exH] at ht; subst ht; decide
  · simp [exH] at ho; subst ho; decide
theorem exH_av (n : Int) : (exH n).av = .agg [.iv (.lst 1 [[.lst 1 [[cb false]]]]), .iv (.lst 22 [[ci 1, ci 1, ci 1, ci 0, cb false, ci 0, .v (.string ⟨#[]⟩), ci 0, ci 0, ci 0, .lst 3 [], ci 0, ci 0, cb false, ci 0, .v (.string ⟨#[]⟩), cb false, ci 0, .v (.string ⟨#[]⟩), .lst 9 [], .lst 5 [], cb false],
    [ci 1, ci 3, ci 0, ci 0, cb false, ci 5, .v (.string ⟨#[]⟩), ci 0, ci 0, ci n, .lst 3 [[cb false, ci 5, .v (.string ⟨#[]⟩)]], ci 0, ci 0, cb false, ci 0, .v (.string ⟨#[]⟩), cb false, ci 0, .v (.string ⟨#[]⟩), .lst 9 [], .lst 5 [], cb false],
    [ci 1, ci 5, ci 0, ci 0, cb false, ci 0, .v (.string ⟨#[]⟩), ci 0, ci 0, ci 0, .lst 3 [], ci 0, ci 0, cb false, ci 0, .v (.string ⟨#[]⟩), cb false, ci 0, .v (.string ⟨#[]⟩), .lst 9 [], .lst 5 [], cb false]]), .iv (.lst 5 [[ci 0, cb false, ci 5, .v (.string ⟨#[]⟩), .lst 1 [[ci 1]]]])] := by
  simp [exH, Hs.av, tbsC, evsC, insC, tbIV, boolsC, Ev.cells, exEv0, exEv1, exEv2, noPd, Pd.cells, Pd.cellsL, rowC, refsC, Ins.cells, intsC, k5, Vl.zero]
theorem awake_spec : GSpec prog true n_ratlinelaw18_awake [] [] (vb true) [] := by
  refine gspec1 ratlinelaw18_awake_is (by simp) (by decide) rfl ?_
  simp -dsimp [ratlinelaw18_awake]
  refine call_pure (hist_Check_spec (exH_ok 1) (by decide)) (by rw [exH_av]; simp) (by rw [exH_av]; simp) ?_
  rw [checkErr_yes ((check_iff _).2 exH_well)]
  simp -dsimp
  refine call_pure (hist_Check_spec (exH_ok 2) (by decide)) (by rw [exH_av]; simp) (by rw [exH_av]; simp) ?_
  rw [checkErr_no fun g => exH_ill ((check_iff _).1 g)]
  simp -dsimp
  refine call_pure (hist_Ended_spec (exH_ok 2) 1) (by rw [exH_av]; simp) (by rw [exH_av]; simp) ?_
  have h5 : ended (exH 2).events 1 = 5 := by simp [exH, ended, Ev.ends, exEv0, exEv1, exEv2]
  rw [h5]
  simp -dsimp
end Go.Rt
end

/- The law HistCompletes: what the code comes to. -/
section
namespace Go.Rt
open Go.Vm
theorem few_of_flat {p : Pd} (h : p.Ok) : ∀ d : Int, p.Flat d → p.Few := by
  induction h with
  | mk p _ _ _ _ ih =>
    intro d hf
    obtain ⟨_, h2, h3, _⟩ := (Pd.flat_eq d p).1 hf
    exact .mk p (by omega) fun q hq => ih q hq (d + 1) ((Pd.flatL_iff (d + 1) p.l).1 h3 q hq)
theorem complete_ok {h : Hs} (hok : h.Ok) (hl : h.events.length < 2 ^ 32) : (complete h).Ok := {
  tables := hok.tables
  events := by
    have h1 := opens_len h.events (txns h.events)
    have h2 := txns_len h.events
    simp only [complete, List.length_append, List.length_map]
    omega
  order := hok.order
  ev := fun e he => by
    rcases List.mem_append.1 he with he | he
    · exact hok.ev e he
    · obtain ⟨t, _, rfl⟩ := List.mem_map.1 he
      exact ⟨by simp [abortEv], by simp [abortEv], exPd_ok, by simp [abortEv, ByteArray.size], fun r hr => by cases hr⟩
  txns := hok.txns
  tb := hok.tb
  cols := hok.cols }
theorem few_ev {h : Hs} (hok : h.Ok) (hs : SmallP h) : ∀ e ∈ h.events, e.row.length < 2 ^ 32 ∧ e.refs.length < 2 ^ 32 ∧ e.pred.Few := by
  intro e he
  obtain ⟨i, hi⟩ := List.mem_iff_getElem?.1 he
  have := hs.ev i (List.getElem?_eq_some_iff.1 hi).1 e hi
  exact ⟨by have := this.row; omega, by have := this.refs; omega, few_of_flat (hok.ev e he).pred 0 this.flat⟩
def ColsOk (h : Hs) : Prop := ∀ t ∈ h.tables, t.length ≤ 140737488355328
theorem hist_Complete_at {h : Hs} (hok : h.Ok) (hc : ColsOk h) (hs : SmallP h) (d : Nat) : GSpec prog false n_hist_Complete [h.av] [] (.agg ((complete h).cells.map .iv)) [(d, .box ((complete h).cells.map .iv))] := by
  refine box_at (hist_Complete_spec hok (by have := hs.events; omega) (by have := hs.tables; omega) (by have := hs.order; omega) hc (fun o ho => ?_) (few_ev hok hs)) d (by simp [Hs.av, AV.shal, AV.shal2, AV.shal1]) (fun ρ => by simp [Hs.av, AV.ren, AV.ren2, AV.ren1])
  obtain ⟨i, hi⟩ := List.mem_iff_getElem?.1 ho
  have := hs.txns i (List.getElem?_eq_some_iff.1 hi).1 o hi
  omega
end Go.Rt
end

/- Contracts: HistShorter. -/
section
namespace Go.Rt
open Go.Vm
theorem well_iff (h : Hs) : WellP h ↔ TablesOk h ∧ Events h h.events ∧ (∀ e, e ∈ h.events → InstalledOk h e) ∧ Upto h.order.length fun i => ∀ o, h.order[i]? = some o → InstallOk h i o := by
  unfold WellP Events
  refine and_congr_right fun _ => ?_
  constructor
  · rintro ⟨h1, h2⟩
    refine ⟨fun i hi e he => (h1 i hi e he).1, fun e he => ?_, h2⟩
    obtain ⟨i, hi⟩ := List.getElem?_of_mem he
    exact (h1 i (List.getElem?_eq_some_iff.1 hi).1 e hi).2
  · rintro ⟨h1, h2, h3⟩
    exact ⟨fun i hi e he => ⟨h1 i hi e he, h2 e (List.mem_of_getElem? he)⟩, h3⟩
theorem Events.snoc {h : Hs} {es : List Ev} {x : Ev} : Events h (es ++ [x]) ↔ Events h es ∧ EventOk h es x := upto_snoc (p := EventOk h)
theorem noEnd_ended {es : List Ev} {t : Int} (h : NoEnd es t) : ended es t = 0 := ended_none (noEnd_iff.1 h)
end Go.Rt
end

/- Contracts: HistOrders. -/
section
namespace Go.Rt
open Go.Vm
section
variable {h : Hs} {k : Nat} {o : Ins}
end
end Go.Rt
end

/- Histories cut short, or with one who gives up. No program in sight. -/
section
namespace Go.Rt
open Go.Vm
/-- orders of some transactions alone -/
def keepOne (p : Int → Bool) (o : Ins) : List Ins := if o.txns.filter p = [] then [] else [⟨o.table, o.key, o.txns.filter p⟩]
def keepOrder (p : Int → Bool) (os : List Ins) : List Ins := os.flatMap (keepOne p)
@[simp] theorem keepOrder_nil (p : Int → Bool) : keepOrder p [] = [] := rfl
theorem wrote_append (a b : List Ev) (t tab : Int) (k : Vl) : wrote (a ++ b) t tab k = wrote a t tab k + wrote b t tab k := by
  unfold wrote; rw [List.filter_append, List.length_append]
end Go.Rt
end

/- A well formed history, completed: it is well formed, and all have ended. No program in sight. -/
section
namespace Go.Rt
open Go.Vm
theorem ended_or (es : List Ev) (t : Int) : (NoEnd es t ∧ ended es t = 0) ∨ (¬NoEnd es t ∧ (ended es t = 5 ∨ ended es t = 6)) := by
  by_cases h : NoEnd es t
  · exact .inl ⟨h, noEnd_ended h⟩
  · refine .inr ⟨h, ?_⟩
    rw [noEnd_iff] at h
    induction es with
    | nil => exact absurd (fun x hx => by cases hx) h
    | cons e r ih =>
      rw [ended]
      by_cases he : e.ends t
      · rw [if_pos he]; exact he.2
      · rw [if_neg he]
        refine ih fun hr => h fun x hx => ?_
        rcases List.mem_cons.1 hx with rfl | hx
        · exact he
        · exact hr x hx
theorem ended_aborts (T : List Int) (t : Int) : ended (T.map abortEv) t = if t ∈ T then 6 else 0 := by
  induction T with
  | nil => rfl
  | cons a T ih =>
    rw [List.map_cons, ended]
    by_cases ha : a = t
    · subst ha
      rw [if_pos ⟨rfl, .inr rfl⟩, if_pos List.mem_cons_self]; rfl
    · rw [if_neg (fun h => ha h.1), ih]
      simp [Ne.symm ha]
theorem complete_ended (h : Hs) (t : Int) : ended (complete h).events t = if t ∈ opens h.events (txns h.events) then 6 else ended h.events t := by
  show ended (h.events ++ (opens h.events (txns h.events)).map abortEv) t = _
  rcases ended_or h.events t with ⟨h1, h2⟩ | ⟨h1, h2⟩
  · rw [ended_no h1, ended_aborts, h2]
  · rw [ended_yes h1, if_neg]
    intro hm
    have : ended h.events t = 0 := by simpa using (List.mem_filter.1 hm).2
    omega
theorem begin_of {es : List Ev} (hf : Frames es) : ∀ (i : Nat) (e : Ev), es[i]? = some e → ∃ b ∈ es, b.kind = 1 ∧ b.txn = e.txn ∧ 1 ≤ e.txn := by
  intro i
  induction i using Nat.strongRecOn with
  | ind i ih =>
    intro e he
    have h := hf i (List.getElem?_eq_some_iff.1 he).1 e he
    by_cases hk : e.kind = 1
    · exact ⟨e, List.mem_of_getElem? he, hk, rfl, h.1⟩
    · obtain ⟨x, hx, hxt⟩ := h.2.2.2.2.2 hk
      obtain ⟨j, hj⟩ := List.getElem?_of_mem hx
      rw [List.getElem?_take] at hj
      split at hj
      · rename_i hlt
        obtain ⟨b, h1, h2, h3, h4⟩ := ih j hlt x hj
        exact ⟨b, h1, h2, h3.trans hxt, h.1⟩
      · cases hj
theorem events_aborts {h : Hs} {es : List Ev} (he : Events h es) : ∀ T : List Int, T.Nodup → (∀ t ∈ T, Begun es t ∧ NoEnd es t ∧ 1 ≤ t) → Events h (es ++ T.map abortEv) := by
  intro T
  induction T using rev_ind with
  | nil => intro _ _; simpa using he
  | snoc T t ih =>
    intro hn hT
    obtain ⟨n1, _, n2⟩ := List.nodup_append.1 hn
    have ih := ih n1 fun x hx => hT x (List.mem_append_left _ hx)
    obtain ⟨q1, q2, q3⟩ := hT t (List.mem_append_right _ (by simp))
    have e : es ++ (T ++ [t]).map abortEv = (es ++ T.map abortEv) ++ [abortEv t] := by simp
    rw [e]
    unfold Events
    refine (upto_snoc (p := EventOk h)).2 ⟨ih, ⟨q3, by simp [abortEv], by simp [abortEv], ?_, fun h => (by simp [abortEv] at h), fun _ => ?_⟩, fun h => (by simp [abortEv] at h), fun h => (by simp [abortEv] at h), fun h => (by simp [abortEv] at h)⟩
    · intro x hx hxt
      rcases List.mem_append.1 hx with hx | hx
      · exact q2 x hx hxt
      · obtain ⟨a, ha, rfl⟩ := List.mem_map.1 hx
        exact absurd (show a = t from hxt) (n2 a ha t (by simp))
    · obtain ⟨x, hx, hxt⟩ := q1
      exact ⟨x, List.mem_append_left _ hx, hxt⟩
theorem wrote_aborts (T : List Int) (t tab : Int) (k : Vl) : wrote (T.map abortEv) t tab k = 0 := by
  apply Classical.byContradiction
  intro g
  obtain ⟨x, hx, hk, _⟩ := wrote_pos.1 (Nat.pos_of_ne_zero g)
  obtain ⟨a, _, rfl⟩ := List.mem_map.1 hx
  simp [abortEv] at hk
theorem complete_well {h : Hs} (hw : WellP h) : WellP (complete h) := by
  obtain ⟨w1, w2, w3, w4⟩ := (well_iff h).1 hw
  have hop : ∀ t, t ∈ opens h.events (txns h.events) → (∃ e ∈ h.events, e.kind = 1 ∧ e.txn = t) ∧ ended h.events t = 0 := fun t ht => by
    obtain ⟨h1, h2⟩ := List.mem_filter.1 ht
    exact ⟨mem_txns.1 h1, by simpa using h2⟩
  have h5 : ∀ t, ended (complete h).events t = 5 ↔ ended h.events t = 5 := fun t => by
    rw [complete_ended]
    split
    · rename_i ht; have := (hop t ht).2; omega
    · exact Iff.rfl
  have hwr : ∀ t tab k, wrote (complete h).events t tab k = wrote h.events t tab k := fun t tab k => by
    show wrote (h.events ++ (opens h.events (txns h.events)).map abortEv) t tab k = _
    rw [wrote_append, wrote_aborts, Nat.add_zero]
  have hev : Events h (complete h).events := by
    refine events_aborts w2 _ ((opens_sorted h.events).imp fun h => by omega) fun t ht => ?_
    obtain ⟨⟨e, g1, g2, g3⟩, g4⟩ := hop t ht
    refine ⟨⟨e, g1, g3⟩, ?_, ?_⟩
    · rcases ended_or h.events t with ⟨q, _⟩ | ⟨_, q⟩
      · exact q
      · omega
    · obtain ⟨i, hi⟩ := List.getElem?_of_mem g1
      have := (w2 i (List.getElem?_eq_some_iff.1 hi).1 e hi).1.1
      omega
  refine (well_iff _).2 ⟨w1, ?_, fun e he k3 k5 => ?_, fun i hi o ho => ?_⟩
  · exact hev
  · rcases List.mem_append.1 he with he | he
    · exact w3 e he k3 ((h5 _).1 k5)
    · obtain ⟨a, _, rfl⟩ := List.mem_map.1 he
      simp [abortEv] at k3
  · obtain ⟨q1, q2, q3⟩ := w4 i hi o ho
    refine ⟨q1, fun k hk t ht => ?_, q3⟩
    obtain ⟨r1, r2, r3⟩ := q2 k hk t ht
    exact ⟨(h5 t).2 r1, by rw [hwr]; exact r2, r3⟩
theorem complete_begun {h : Hs} {t : Int} (ht : t ∈ txns (complete h).events) : t ∈ txns h.events := by
  obtain ⟨e, he, hk, hx⟩ := mem_txns.1 ht
  rcases List.mem_append.1 he with he | he
  · exact mem_txns.2 ⟨e, he, hk, hx⟩
  · obtain ⟨a, _, rfl⟩ := List.mem_map.1 he
    simp [abortEv] at hk
/-- there is nothing more to be completed -/
theorem complete_again (h : Hs) : complete (complete h) = complete h := by
  have : opens (complete h).events (txns (complete h).events) = [] := by
    refine List.filter_eq_nil_iff.2 fun t ht => ?_
    have ht := complete_begun ht
    simp only [decide_eq_true_eq]
    rw [complete_ended]
    split
    · omega
    · rename_i hno
      exact fun hz => hno (List.mem_filter.2 ⟨ht, by simpa using hz⟩)
  show (⟨h.tables, (complete h).events ++ (opens (complete h).events (txns (complete h).events)).map abortEv, h.order⟩ : Hs) = complete h
  rw [this]
  simp [complete]
/-- all have ended -/
theorem complete_all {h : Hs} (hw : WellP h) {e : Ev} (he : e ∈ (complete h).events) : ended (complete h).events e.txn = 5 ∨ ended (complete h).events e.txn = 6 := by
  obtain ⟨_, w2, _, _⟩ := (well_iff h).1 hw
  have key : ∀ t, t ∈ txns h.events → ended (complete h).events t = 5 ∨ ended (complete h).events t = 6 := fun t ht => by
    rw [complete_ended]
    split
    · exact .inr rfl
    · rename_i hno
      rcases ended_or h.events t with ⟨_, q⟩ | ⟨_, q⟩
      · exact absurd (List.mem_filter.2 ⟨ht, by simpa using q⟩) hno
      · exact q
  rcases List.mem_append.1 he with he | he
  · obtain ⟨i, hi⟩ := List.getElem?_of_mem he
    obtain ⟨b, g1, g2, g3, _⟩ := begin_of w2.good.1 i e hi
    exact key _ (mem_txns.2 ⟨b, g1, g2, g3⟩)
  · obtain ⟨a, ha, rfl⟩ := List.mem_map.1 he
    exact key a (List.mem_filter.1 ha).1
end Go.Rt
end

/- The law HistStays: what the code comes to. -/
section
namespace Go.Rt
open Go.Vm

theorem few_c {h : Hs} (hok : h.Ok) (hs : SmallP h) : ∀ e ∈ (complete h).events, e.row.length < 2 ^ 32 ∧ e.refs.length < 2 ^ 32 ∧ e.pred.Few := by
  intro e he
  rcases List.mem_append.1 he with he | he
  · exact few_ev hok hs e he
  · obtain ⟨t, _, rfl⟩ := List.mem_map.1 he
    exact ⟨by simp [abortEv], by simp [abortEv], .mk _ (by simp [abortEv, Pd.l]) fun q hq => by cases hq⟩
theorem complete_len {h : Hs} (hs : SmallP h) : (complete h).events.length ≤ 120 := by
  have h1 := opens_len h.events (txns h.events)
  have h2 := txns_len h.events
  have h3 := hs.events
  simp only [complete, List.length_append, List.length_map]
  omega
theorem hist_Complete_twice {h : Hs} (hok : h.Ok) (hc : ColsOk h) (hs : SmallP h) (d : Nat) : GSpec prog false n_hist_Complete [(complete h).av] [] (.agg ((complete h).cells.map .iv)) [(d, .box ((complete h).cells.map .iv))] := by
  have hc2 : (complete h).Ok := complete_ok hok (by have := hs.events; omega)
  have := complete_len hs
  have e1 := hist_Complete_spec hc2 (by omega) (show h.tables.length < 2 ^ 31 by have := hs.tables; omega) (show h.order.length < 2 ^ 31 by have := hs.order; omega) hc (fun o ho => by
    obtain ⟨i, hi⟩ := List.mem_iff_getElem?.1 ho
    have := hs.txns i (List.getElem?_eq_some_iff.1 hi).1 o hi
    omega) (few_c hok hs)
  rw [complete_again] at e1
  exact box_at e1 d (by simp [Hs.av, AV.shal, AV.shal2, AV.shal1]) (fun ρ => by simp [Hs.av, AV.ren, AV.ren2, AV.ren1])

set_option maxRecDepth 8000 in
set_option maxHeartbeats 8000000 in
theorem HistStays_spec {h : Hs} (hok : h.Ok) (hc : ColsOk h) : GSpec prog true n_ratlinelaw18_HistStays [h.av] [] (vb true) [] := by
  refine gspec1 ratlinelaw18_HistStays_is (by simp [Hs.av]) (by decide) rfl ?_
  simp -dsimp [ratlinelaw18_HistStays, Hs.av, -ratlinelaw18_HistStays_t8]
  refine call_pure awake_spec (by simp) (by simp) ?_
  simp -dsimp [-ratlinelaw18_HistStays_t8]
  refine call_pure (ref18_Small_spec hok) (by simp [Hs.av]) (by simp [Hs.av]) ?_
  by_cases hs : ¬SmallP h
  · simp -dsimp [ofP_false.2 hs]
  have hs : SmallP h := Classical.not_not.1 hs
  have hs' : ofP (SmallP h) = true := ofP_true.2 hs
  simp -dsimp [hs', -ratlinelaw18_HistStays_t8]
  refine call_pure (hist_Check_spec hok (by have := hs.events; omega)) (by simp [Hs.av]) (by simp [Hs.av]) ?_
  by_cases hw : ¬CheckP h
  · rw [checkErr_no hw]
    simp -dsimp
  have hw : CheckP h := Classical.not_not.1 hw
  rw [checkErr_yes hw]
  simp -dsimp [-ratlinelaw18_HistStays_t8]
  have hwell := (check_iff h).1 hw
  have hcok : (complete h).Ok := complete_ok hok (by have := hs.events; omega)
  have hcl := complete_len hs
  have hge : h.events.length ≤ (complete h).events.length := by simp [complete]
  have hck : CheckP (complete h) := (check_iff _).2 (complete_well hwell)
  have hall := fun (e : Ev) (he : e ∈ (complete h).events) => complete_all hwell he
  have hat : ∀ i, i < h.events.length → (complete h).events[i]? = h.events[i]? := fun i hi => by simp only [complete]; exact List.getElem?_append_left hi
  have hC := hist_Complete_at hok hc hs 21
  have hD := hist_Complete_twice hok hc hs 27
  generalize complete h = c at *
  refine call_newC hC (by decide) rfl (by simp [Hs.av]) (by simp [Hs.av]) ?_
  simp -dsimp [Hs.cells]
  refine call_pure (hist_Check_spec hcok (by omega)) (by simp [Hs.av, Hs.cells]) (by simp [Hs.av]) ?_
  rw [checkErr_yes hck]
  simp -dsimp
  constructor
  all_goals
    refine call_newC hD (by decide) rfl (by simp [Hs.av, Hs.cells]) (by simp [Hs.av]) ?_
    simp -dsimp [Hs.cells]
    refine call_pure (ref18_Same_refl hcok) (by simp [Hs.av, Hs.cells]) (by simp [Hs.av]) ?_
    have hnl : ¬c.events.length < h.events.length := by omega
    simp -dsimp [Hs.cells, hnl]
    refine loop_idx [21, 27] [] c.events.length (fun i => ⟨[(6, vi i), (1, .ptr 1 0), (5, .ptr 5 0)], [(1, .box (h.cells.map .iv)), (5, .box (c.cells.map .iv))]⟩) (fun _ => True) ?_ trivial ?_
    · simp -dsimp [Hs.cells]
    · intro i hi _
      by_cases hil : i < c.events.length
      · have hil2 : ¬c.events.length ≤ i := by omega
        obtain ⟨x, hx⟩ := some_at hil
        have hxm := List.mem_of_getElem? hx
        have hiw := wrap_in (n := (i : Int) + 1) (by omega)
        simp -dsimp [ratlinelaw18_HistStays_l18, Hs.cells, hil2, hx, Ev.cells_eq x, -ratlinelaw18_HistStays_t15]
        intro _
        refine call_pure (hist_Ended_spec hcok x.txn) (by simp [Hs.av, Hs.cells]) (by simp [Hs.av]) ?_
        have h56 : ended c.events x.txn = 5 ∨ ended c.events x.txn = 6 := hall x hxm
        by_cases hih : i < h.events.length
        · have hy : h.events[i]? = some x := by rw [← hat i hih]; exact hx
          have hxo := hok.ev x (List.mem_of_getElem? hy)
          have hci : (evsC h.events)[i]'(by simpa using hih) = x.cells := by
            have h1 : (evsC h.events)[i]? = some x.cells := by simp [hy]
            exact (List.getElem?_eq_some_iff.1 h1).2
          have hev := ref18_Event_refl hxo.pred hxo.refs hxo.row
          rcases h56 with h5 | h5
          all_goals
            simp -dsimp [h5, Hs.cells, hih, hx, hci, Ev.cells_eq x]
            refine call_pure hev (by simp [Ev.cells_eq x]) (by simp [Ev.cells_eq x]) ?_
            simp -dsimp [hiw]
            exact hil
        · rcases h56 with h5 | h5
          all_goals
            simp -dsimp [h5, Hs.cells, hih, hiw]
            exact hil
      · have hie : i = c.events.length := by omega
        subst hie
        simp -dsimp [ratlinelaw18_HistStays_l18, Hs.cells]
end Go.Rt
end
