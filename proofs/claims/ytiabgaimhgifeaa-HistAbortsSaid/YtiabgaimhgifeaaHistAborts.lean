/- HistAborts is so of every input: the given statement. Conditions: none beyond the statement itself. -/
import Derived.Test.YtiabgaimhgifeaaMD
import Derived.Test.YtiabgaimhgifeaaHistBegins
import Derived.Test.YtiabgaimhgifeaaPG
import Derived.Test.YtiabgaimhgifeaaPF

set_option linter.unusedVariables false
set_option linter.unusedSimpArgs false

/- A slice that is nil is one of any make. -/
section
namespace Go.Vm

@[simp] theorem ev_nilc {s : St} : s.ev (.const (.slice none 0 0)) = .nil 0 := rfl

def nilLe : List AV → List AV → Prop
  | [], [] => True
  | x :: r, y :: q => (x = y ∨ ∃ a b, x = .nil a ∧ y = .nil b) ∧ nilLe r q
  | _, _ => False
@[simp] theorem nilLe_nil : nilLe [] [] ↔ True := ⟨fun h => h, fun h => h⟩
@[simp] theorem nilLe_cons {x y : AV} {r q : List AV} : nilLe (x :: r) (y :: q) ↔ (x = y ∨ ∃ a b, x = .nil a ∧ y = .nil b) ∧ nilLe r q := ⟨fun h => h, fun h => h⟩
theorem nilLe_at : ∀ {cs ds : List AV}, nilLe cs ds → ds.length = cs.length ∧ ∀ (i : Nat) y, ds[i]? = some y → cs[i]? = some y ∨ ∃ a b, cs[i]? = some (.nil a) ∧ y = .nil b
  | [], [], _ => ⟨rfl, fun i y h => by simp at h⟩
  | x :: r, y :: q, h => by
    obtain ⟨g1, g2⟩ := nilLe_at h.2
    refine ⟨by simp [g1], fun i z hz => ?_⟩
    cases i with
    | zero =>
      simp only [List.getElem?_cons_zero, Option.some.injEq] at hz ⊢
      subst hz
      exact h.1
    | succ i => simpa using g2 i z (by simpa using hz)
  | [], _ :: _, h => h.elim
  | _ :: _, [], h => h.elim

theorem le_nils (s : St) {id : Nat} {cs ds : List AV} (ho : look s.hp id = some (.box cs)) (h : nilLe cs ds) : Le s (s.add id (.box ds)) := by
  obtain ⟨h1, h2⟩ := nilLe_at h
  rintro E n a w ⟨ψ, hs⟩
  obtain ⟨b, c, e, q1, q2, q3, q4⟩ := hs.obs id _ ho
  refine ⟨ψ, hs.chg (o' := .box ds) (k := (0, c.size)) ho (Ob.le_none rfl) rfl (by simp [Ob.multi]) q1 (fun _ _ => rfl) rfl ⟨rfl, rfl, rfl⟩
    (fun hm _ => ⟨b, c, e, q1, q2, by rw [q3, h1], fun i x hx => ?_⟩)⟩
  rcases h2 i x hx with g | ⟨a', b', g, rfl⟩
  · exact hm _ _ (q4 i x g)
  · have := hm _ _ (q4 i _ g)
    generalize c.getD i undef = v at this
    cases this
    exact .nil b'

theorem loop_le {P : Program} {c : VCode} {s s' : St} {O : Outs} (h : Le s s') (k : loopW P c s' O) : loopW P c s O := by
  obtain ⟨I, ⟨k, s2, h2, h3⟩, h4⟩ := k
  exact ⟨I, ⟨k, s2, h.trans h2, h3⟩, h4⟩
end Go.Vm
end

/- Contracts: HistAborts. -/
section
namespace Go.Rt
open Go.Vm

/-- the history that is being made, with its lists -/
def gBox (h : Hs) (es : List Ev) (os : List Ins) : Ob := .box [.iv (.lst 1 (tbsC h.tables)), if es = [] then .nil 22 else .sl 63 22 0 es.length, if os = [] then .nil 5 else .sl 131 5 0 os.length]
def gEs (es : List Ev) : Hp := if es = [] then [] else [(63, .list 22 (evsC es))]
def gOs (os : List Ins) : Hp := if os = [] then [] else [(131, .list 5 (insC os))]
abbrev hBox (h : Hs) : Ob := .box [.iv (.lst 1 (tbsC h.tables)), .iv (.lst 22 (evsC h.events)), .iv (.lst 5 (insC h.order))]

theorem gBox_nn (h : Hs) : gBox h [] [] = .box [.iv (.lst 1 (tbsC h.tables)), .nil 22, .nil 5] := rfl
theorem gBox_sn {h : Hs} {es : List Ev} (he : es ≠ []) : gBox h es [] = .box [.iv (.lst 1 (tbsC h.tables)), .sl 63 22 0 es.length, .nil 5] := by unfold gBox; rw [if_neg he]; rfl
theorem gBox_ss {h : Hs} {es : List Ev} (he : es ≠ []) {os : List Ins} (ho : os ≠ []) : gBox h es os = .box [.iv (.lst 1 (tbsC h.tables)), .sl 63 22 0 es.length, .sl 131 5 0 os.length] := by unfold gBox; rw [if_neg he, if_neg ho]
theorem gEs_n : gEs [] = [] := rfl
theorem gEs_s {es : List Ev} (he : es ≠ []) : gEs es = [(63, .list 22 (evsC es))] := if_neg he
theorem gOs_n : gOs [] = [] := rfl
theorem gOs_s {os : List Ins} (ho : os ≠ []) : gOs os = [(131, .list 5 (insC os))] := if_neg ho
theorem nc_cells {txn : Int} {e : Ev} (h1 : e.txn = txn) (h5 : e.kind = 5) : List.take 1 e.cells ++ ci 6 :: List.drop 2 e.cells = (e.noCommit txn).cells := by
  have : e.noCommit txn = { e with kind := 6 } := if_pos ⟨h1, h5⟩
  rw [this, Ev.cells_eq, Ev.cells_eq]; rfl
theorem nc_av {txn : Int} {e : Ev} (h1 : e.txn = txn) (h5 : e.kind = 5) : List.take 1 (List.map AV.iv e.cells) ++ vi 6 :: List.drop 2 (List.map AV.iv e.cells) = (e.noCommit txn).cells.map AV.iv := by
  rw [← nc_cells h1 h5]; simp [List.map_take, List.map_drop]
theorem nc_no {txn : Int} {e : Ev} (h : ¬(e.txn = txn ∧ e.kind = 5)) : e.noCommit txn = e := if_neg h

set_option maxHeartbeats 4000000 in
theorem HistAborts_spec {h : Hs} (hok : h.Ok) (txn : Int) : GSpec prog true n_ratlinelaw18_HistAborts [h.av, vi txn] [] (vb true) [] := by
  refine gspec1 ratlinelaw18_HistAborts_is (by simp) (by decide) rfl ?_
  simp -dsimp [ratlinelaw18_HistAborts, Hs.av]
  refine call_pure awake_spec (by simp) (by simp) ?_
  simp -dsimp
  refine call_pure (ref18_Small_spec hok) (by simp [Hs.av]) (by simp [Hs.av]) ?_
  by_cases hs : SmallP h
  · simp -dsimp [hs]
    refine call_pure (hist_Check_spec hok hs.len) (by simp [Hs.av]) (by simp [Hs.av]) ?_
    by_cases hW : WellP h
    · rw [checkErr_yes ((check_iff _).2 hW)]
      simp -dsimp
      refine call_pure (hist_Ended_spec hok txn) (by simp [Hs.av]) (by simp [Hs.av]) ?_
      by_cases h5 : ended h.events txn = 5
      · have hl := hs.order
        have hel := hs.events
        simp -dsimp [h5]
        refine Vm.loop_le (le_nils _ (id := 7) (cs := [.iv (.lst 1 (tbsC h.tables)), .nil 0, .nil 0]) (ds := [.iv (.lst 1 (tbsC h.tables)), .nil 22, .nil 5]) (by simp) (by simp)) ?_
        refine loop_idx [] [9, 62] h.events.length (fun i => ⟨[(8, vi i), (7, .ptr 7 0), (2, .ptr 2 0), (1, vi txn)],
          (7, gBox h (ncs txn (h.events.take i)) []) :: gEs (ncs txn (h.events.take i)) ++ [(2, hBox h)]⟩) (fun _ => True) ?_ trivial ?_
        · simp -dsimp [gBox, gEs, ncs]
        · intro i hi _
          generalize hes : ncs txn (h.events.take i) = es
          have hesl : es.length ≤ 60 := by rw [← hes]; unfold ncs; rw [List.length_map, List.length_take]; omega
          by_cases h0 : es = []
          · subst h0
            rw [gBox_nn, gEs_n, List.cons_append, List.nil_append]
            simp -dsimp [ratlinelaw18_HistAborts_l17]
            refine ⟨fun hlt => ?_, fun hge => ?_⟩
            · obtain ⟨e, he⟩ := some_at hlt
              have hw := wrap_in (n := (i : Int) + 1) (by omega)
              have hn : ncs txn (h.events.take (i + 1)) = [e.noCommit txn] := by rw [take_next he]; unfold ncs at hes ⊢; rw [List.map_append, hes]; rfl
              by_cases c1 : e.txn = txn
              · by_cases c2 : e.kind = 5
                · have hcc := nc_av c1 c2
                  simp -dsimp [hcc, he, c1, c2, hw, hn, gBox_sn (h := h) (es := [e.noCommit txn]) (by simp), gEs_s (es := [e.noCommit txn]) (by simp), evsC]
                  exact hlt
                · have hcc := nc_no (txn := txn) (e := e) fun g => c2 g.2
                  rw [hcc] at hn
                  simp -dsimp [he, c1, c2, hw, hn, gBox_sn (h := h) (es := [e]) (by simp), gEs_s (es := [e]) (by simp), evsC]
                  exact hlt
              · have hcc := nc_no (txn := txn) (e := e) fun g => c1 g.1
                rw [hcc] at hn
                simp -dsimp [he, c1, hw, hn, gBox_sn (h := h) (es := [e]) (by simp), gEs_s (es := [e]) (by simp), evsC]
                exact hlt
            · have hi' : i = h.events.length := by omega
              subst hi'
              rw [List.take_length] at hes
              have : h.events = [] := by unfold ncs at hes; simpa using hes
              rw [this] at h5
              cases h5
          · rw [gBox_sn h0, gEs_s h0]
            simp -dsimp [ratlinelaw18_HistAborts_l17]
            refine ⟨fun hlt => ?_, fun hge => ?_⟩
            · obtain ⟨e, he⟩ := some_at hlt
              have hw := wrap_in (n := (i : Int) + 1) (by omega)
              have hn : ncs txn (h.events.take (i + 1)) = es ++ [e.noCommit txn] := by rw [take_next he]; unfold ncs at hes ⊢; rw [List.map_append, hes]; rfl
              by_cases c1 : e.txn = txn
              · by_cases c2 : e.kind = 5
                · have hcc := nc_av c1 c2
                  simp -dsimp [hcc, he, c1, c2, hw, hn, gBox_sn (h := h) (es := es ++ [e.noCommit txn]) (by simp), gEs_s (es := es ++ [e.noCommit txn]) (by simp), evsC]
                  exact ⟨by omega, by omega, hlt⟩
                · have hcc := nc_no (txn := txn) (e := e) fun g => c2 g.2
                  rw [hcc] at hn
                  simp -dsimp [he, c1, c2, hw, hn, gBox_sn (h := h) (es := es ++ [e]) (by simp), gEs_s (es := es ++ [e]) (by simp), evsC]
                  exact ⟨by omega, by omega, hlt⟩
              · have hcc := nc_no (txn := txn) (e := e) fun g => c1 g.1
                rw [hcc] at hn
                simp -dsimp [he, c1, hw, hn, gBox_sn (h := h) (es := es ++ [e]) (by simp), gEs_s (es := es ++ [e]) (by simp), evsC]
                exact ⟨by omega, by omega, hlt⟩
            · have hi' : i = h.events.length := by omega
              subst hi'
              rw [List.take_length] at hes
              have hesok : ∀ e, e ∈ es → e.Ok := fun e he => by
                rw [← hes] at he
                obtain ⟨y, hy, rfl⟩ := List.mem_map.1 he
                have := hok.ev y hy
                exact ⟨by rw [nc_row]; exact this.row, by rw [nc_refs]; exact this.refs, by rw [nc_pred]; exact this.pred, by rw [nc_key]; exact this.key, by rw [nc_refs]; exact this.rkey⟩
              have hesl2 : es.length < 2 ^ 32 := by omega
              have hokE : ∀ os : List Ins, os.length ≤ 30 → (∀ o, o ∈ os → o.txns.length < 2 ^ 63) → (∀ o, o ∈ os → o.key.s.size < 2 ^ 63) → Hs.Ok ⟨h.tables, es, os⟩ := fun os g1 g2 g3 =>
                ⟨hok.tables, by show es.length < 2 ^ 63; omega, by show os.length < 2 ^ 63; omega, hesok, g2, hok.tb, g3⟩
              have htE : List.take es.length (evsC es) = evsC es := List.take_of_length_le (by simp)
              refine call_pure (hist_Check_spec (hokE [] (by simp) (fun o ho => by cases ho) fun o ho => by cases ho) hesl2) (by simp [Hs.av, htE, insC]) (by simp [Hs.av]) ?_
              simp -dsimp
              generalize hp : (fun t => decide (t ≠ txn)) = p
              have hpt : ∀ t, p t = decide (t ≠ txn) := fun t => by rw [← hp]
              refine loop_idx [] [13, 121, 120, 130] h.order.length (fun i => ⟨[(12, vi i), (11, vb (ofP (∃ o, o ∈ h.order.take i ∧ txn ∈ o.txns))), (10, vi (checkErr ⟨h.tables, es, []⟩)), (7, .ptr 7 0), (2, .ptr 2 0), (1, vi txn)],
                (7, gBox h es (keepOrder p (h.order.take i))) :: gOs (keepOrder p (h.order.take i)) ++ [(63, .list 22 (evsC es)), (2, hBox h)]⟩) (fun _ => True) ?_ trivial ?_
              · simp -dsimp [gBox_sn h0, gOs_n]
              · intro i hi _
                generalize hos : keepOrder p (h.order.take i) = os
                have hosl : os.length ≤ i := by have := keepOrder_len p (h.order.take i); rw [hos, List.length_take] at this; omega
                by_cases ho0 : os = []
                · subst ho0
                  rw [gBox_sn h0, gOs_n, List.cons_append, List.nil_append]
                  simp -dsimp [ratlinelaw18_HistAborts_l33]
                  refine ⟨fun hlt => ?_, fun hge => ?_⟩
                  · obtain ⟨o, ho⟩ := some_at hlt
                    have hw := wrap_in (n := (i : Int) + 1) (by omega)
                    have hto := hs.txns i hlt o ho
                    have hol := hok.txns o (List.mem_of_getElem? ho)
                    simp -dsimp [ho, Ins.cells_eq o]
                    refine loop_idx [] [120] o.txns.length (fun k => ⟨[(14, vi k), (13, .ptr 13 0), (12, vi i), (11, vb (ofP ((∃ o', o' ∈ h.order.take i ∧ txn ∈ o'.txns) ∨ txn ∈ o.txns.take k))), (10, vi (checkErr ⟨h.tables, es, []⟩)), (7, .ptr 7 0), (2, .ptr 2 0), (1, vi txn)],
                        (13, mkBox 121 o ((o.txns.take k).filter p)) :: mkL 121 ((o.txns.take k).filter p) ++ [(7, .box [.iv (.lst 1 (tbsC h.tables)), .sl 63 22 0 es.length, .nil 5]), (63, .list 22 (evsC es)), (2, hBox h)]⟩) (fun _ => True) ?_ trivial ?_
                    · simp -dsimp [mkBox, mkL]
                    · intro k hk _
                      generalize hlk : (o.txns.take k).filter p = l
                      have hll : l.length ≤ 20 := by rw [← hlk]; exact Nat.le_trans (List.length_filter_le _ _) (by rw [List.length_take]; omega)
                      by_cases hl0 : l = []
                      · subst hl0
                        rw [mkBox_nil, mkL_nil, List.cons_append, List.nil_append]
                        simp -dsimp [ratlinelaw18_HistAborts_l29, ho, Ins.cells_eq o]
                        refine ⟨fun hklt => ?_, fun hkge => ?_⟩
                        · obtain ⟨t, ht⟩ := some_at hklt
                          have hwk := wrap_in (n := (k : Int) + 1) (by omega)
                          have hmem : ∀ x, x ∈ o.txns.take (k + 1) ↔ x ∈ o.txns.take k ∨ x = t := fun x => by rw [take_next ht, List.mem_append, List.mem_singleton]
                          by_cases hte : t = txn
                          · have hl1 : (o.txns.take (k + 1)).filter p = [] := by rw [take_next ht, List.filter_append, hlk, List.filter_cons_of_neg (by rw [hpt]; simpa using hte)]; rfl
                            simp -dsimp [ht, hte, hwk, hl1, mkBox_nil, mkL_nil, hmem]
                            exact hklt
                          · have hte' : ¬txn = t := fun g => hte g.symm
                            have hl1 : (o.txns.take (k + 1)).filter p = [] ++ [t] := by rw [take_next ht, List.filter_append, hlk, List.filter_cons_of_pos (by rw [hpt]; simpa using hte)]; rfl
                            simp -dsimp [ht, hte, hte', hwk, hl1, ho, Ins.cells_eq o, mkBox_some (l := [t]) (by simp), mkL_some (l := [t]) (by simp), hmem]
                            exact ⟨hklt, rfl⟩
                        · rw [List.take_of_length_le hkge] at hlk ⊢
                          have hfl : ofP (∃ o', o' ∈ h.order.take (i + 1) ∧ txn ∈ o'.txns) = ofP ((∃ o', o' ∈ h.order.take i ∧ txn ∈ o'.txns) ∨ txn ∈ o.txns) := by
                            rw [ofP_inj, take_next ho]
                            constructor
                            · rintro ⟨o', g1, g2⟩
                              rcases List.mem_append.1 g1 with g1 | g1
                              · exact .inl ⟨o', g1, g2⟩
                              · simp only [List.mem_singleton] at g1; subst g1; exact .inr g2
                            · rintro (⟨o', g1, g2⟩ | g)
                              · exact ⟨o', List.mem_append_left _ g1, g2⟩
                              · exact ⟨o, by simp, g⟩
                          have hkn : keepOrder p (h.order.take (i + 1)) = [] := by rw [take_next ho, keepOrder_snoc, keepOne, if_pos hlk, List.append_nil, hos]
                          rw [hkn, gBox_sn h0, gOs_n]
                          simp -dsimp [hlt, hw, hfl]
                      · rw [mkBox_some hl0, mkL_some hl0]
                        simp -dsimp [ratlinelaw18_HistAborts_l29, ho, Ins.cells_eq o]
                        refine ⟨fun hklt => ?_, fun hkge => ?_⟩
                        · obtain ⟨t, ht⟩ := some_at hklt
                          have hwk := wrap_in (n := (k : Int) + 1) (by omega)
                          have hmem : ∀ x, x ∈ o.txns.take (k + 1) ↔ x ∈ o.txns.take k ∨ x = t := fun x => by rw [take_next ht, List.mem_append, List.mem_singleton]
                          by_cases hte : t = txn
                          · have hl1 : (o.txns.take (k + 1)).filter p = l := by rw [take_next ht, List.filter_append, hlk, List.filter_cons_of_neg (by rw [hpt]; simpa using hte)]; simp
                            simp -dsimp [ht, hte, hwk, hl1, mkBox_some hl0, mkL_some hl0, hmem]
                            exact hklt
                          · have hte' : ¬txn = t := fun g => hte g.symm
                            have hl1 : (o.txns.take (k + 1)).filter p = l ++ [t] := by rw [take_next ht, List.filter_append, hlk, List.filter_cons_of_pos (by rw [hpt]; simpa using hte)]; rfl
                            simp -dsimp [ht, hte, hte', hwk, hl1, ho, Ins.cells_eq o, mkBox_some (l := l ++ [t]) (by simp), mkL_some (l := l ++ [t]) (by simp), hmem]
                            exact ⟨by omega, by omega, hklt, intsC_snoc l t⟩
                        · rw [List.take_of_length_le hkge] at hlk ⊢
                          have hfl : ofP (∃ o', o' ∈ h.order.take (i + 1) ∧ txn ∈ o'.txns) = ofP ((∃ o', o' ∈ h.order.take i ∧ txn ∈ o'.txns) ∨ txn ∈ o.txns) := by
                            rw [ofP_inj, take_next ho]
                            constructor
                            · rintro ⟨o', g1, g2⟩
                              rcases List.mem_append.1 g1 with g1 | g1
                              · exact .inl ⟨o', g1, g2⟩
                              · simp only [List.mem_singleton] at g1; subst g1; exact .inr g2
                            · rintro (⟨o', g1, g2⟩ | g)
                              · exact ⟨o', List.mem_append_left _ g1, g2⟩
                              · exact ⟨o, by simp, g⟩
                          have hkn : keepOrder p (h.order.take (i + 1)) = [⟨o.table, o.key, l⟩] := by rw [take_next ho, keepOrder_snoc, keepOne, if_neg (by rw [hlk]; exact hl0), hlk, hos]; rfl
                          have hta : List.take l.length (intsC l) = intsC l := List.take_of_length_le (by simp)
                          have hlp : 0 < l.length := List.length_pos_iff.2 hl0
                          rw [hkn, gBox_ss h0 (os := [(⟨o.table, o.key, l⟩ : Ins)]) (by simp), gOs_s (os := [(⟨o.table, o.key, l⟩ : Ins)]) (by simp), hta]
                          simp -dsimp [hlt, hw, hfl, hl0, insC, Ins.cells]
                  · have hi' : i = h.order.length := by omega
                    subst hi'
                    rw [List.take_length] at hos ⊢
                    have hgW : WellP ⟨h.tables, es, []⟩ := by rw [← hos, ← hes, ← hp]; exact aborts_well hW
                    have hwith : WellP ⟨h.tables, es, h.order⟩ ↔ ¬∃ o, o ∈ h.order ∧ txn ∈ o.txns := by rw [← hes]; exact with_well hW
                    have hspo : WellP ⟨h.tables, es, []⟩ ↔ [] = ([] : List Ins) := by have := spoilt_well (txn := txn) hW; rw [hes, hp, hos] at this; exact this
                    have hko := keepOrder_ok hok p
                    rw [hos] at hko
                    have htO : List.take ([] : List Ins).length (insC ([] : List Ins)) = insC ([] : List Ins) := List.take_of_length_le (by simp)
                    rw [checkErr_yes (h := ⟨h.tables, es, []⟩) ((check_iff _).2 (hspo.2 rfl))]
                    refine call_pure (hist_Check_spec (hokE [] (by simp) hko.1 hko.2) hesl2) (by simp [Hs.av, htE, htO, insC]) (by simp [Hs.av]) ?_
                    rw [checkErr_yes ((check_iff _).2 hgW)]
                    simp -dsimp
                    refine call_pure (hist_Check_spec (hokE h.order hl hok.txns hok.cols) hesl2) (by simp [Hs.av, htE]) (by simp [Hs.av]) ?_
                    by_cases hw : ∃ o, o ∈ h.order ∧ txn ∈ o.txns
                    · rw [checkErr_no fun g => (hwith.1 ((check_iff _).1 g)) hw]
                      simp -dsimp [ofP_true.2 hw]
                    · rw [checkErr_yes ((check_iff _).2 (hwith.2 hw))]
                      simp -dsimp [ofP_false.2 hw]
                · rw [gBox_ss h0 ho0, gOs_s ho0]
                  simp -dsimp [ratlinelaw18_HistAborts_l33]
                  refine ⟨fun hlt => ?_, fun hge => ?_⟩
                  · obtain ⟨o, ho⟩ := some_at hlt
                    have hw := wrap_in (n := (i : Int) + 1) (by omega)
                    have hto := hs.txns i hlt o ho
                    have hol := hok.txns o (List.mem_of_getElem? ho)
                    simp -dsimp [ho, Ins.cells_eq o]
                    refine loop_idx [] [120] o.txns.length (fun k => ⟨[(14, vi k), (13, .ptr 13 0), (12, vi i), (11, vb (ofP ((∃ o', o' ∈ h.order.take i ∧ txn ∈ o'.txns) ∨ txn ∈ o.txns.take k))), (10, vi (checkErr ⟨h.tables, es, []⟩)), (7, .ptr 7 0), (2, .ptr 2 0), (1, vi txn)],
                        (13, mkBox 121 o ((o.txns.take k).filter p)) :: mkL 121 ((o.txns.take k).filter p) ++ [(7, .box [.iv (.lst 1 (tbsC h.tables)), .sl 63 22 0 es.length, .sl 131 5 0 os.length]), (131, .list 5 (insC os)), (63, .list 22 (evsC es)), (2, hBox h)]⟩) (fun _ => True) ?_ trivial ?_
                    · simp -dsimp [mkBox, mkL]
                    · intro k hk _
                      generalize hlk : (o.txns.take k).filter p = l
                      have hll : l.length ≤ 20 := by rw [← hlk]; exact Nat.le_trans (List.length_filter_le _ _) (by rw [List.length_take]; omega)
                      by_cases hl0 : l = []
                      · subst hl0
                        rw [mkBox_nil, mkL_nil, List.cons_append, List.nil_append]
                        simp -dsimp [ratlinelaw18_HistAborts_l29, ho, Ins.cells_eq o]
                        refine ⟨fun hklt => ?_, fun hkge => ?_⟩
                        · obtain ⟨t, ht⟩ := some_at hklt
                          have hwk := wrap_in (n := (k : Int) + 1) (by omega)
                          have hmem : ∀ x, x ∈ o.txns.take (k + 1) ↔ x ∈ o.txns.take k ∨ x = t := fun x => by rw [take_next ht, List.mem_append, List.mem_singleton]
                          by_cases hte : t = txn
                          · have hl1 : (o.txns.take (k + 1)).filter p = [] := by rw [take_next ht, List.filter_append, hlk, List.filter_cons_of_neg (by rw [hpt]; simpa using hte)]; rfl
                            simp -dsimp [ht, hte, hwk, hl1, mkBox_nil, mkL_nil, hmem]
                            exact hklt
                          · have hte' : ¬txn = t := fun g => hte g.symm
                            have hl1 : (o.txns.take (k + 1)).filter p = [] ++ [t] := by rw [take_next ht, List.filter_append, hlk, List.filter_cons_of_pos (by rw [hpt]; simpa using hte)]; rfl
                            simp -dsimp [ht, hte, hte', hwk, hl1, ho, Ins.cells_eq o, mkBox_some (l := [t]) (by simp), mkL_some (l := [t]) (by simp), hmem]
                            exact ⟨hklt, rfl⟩
                        · rw [List.take_of_length_le hkge] at hlk ⊢
                          have hfl : ofP (∃ o', o' ∈ h.order.take (i + 1) ∧ txn ∈ o'.txns) = ofP ((∃ o', o' ∈ h.order.take i ∧ txn ∈ o'.txns) ∨ txn ∈ o.txns) := by
                            rw [ofP_inj, take_next ho]
                            constructor
                            · rintro ⟨o', g1, g2⟩
                              rcases List.mem_append.1 g1 with g1 | g1
                              · exact .inl ⟨o', g1, g2⟩
                              · simp only [List.mem_singleton] at g1; subst g1; exact .inr g2
                            · rintro (⟨o', g1, g2⟩ | g)
                              · exact ⟨o', List.mem_append_left _ g1, g2⟩
                              · exact ⟨o, by simp, g⟩
                          have hkn : keepOrder p (h.order.take (i + 1)) = os := by rw [take_next ho, keepOrder_snoc, keepOne, if_pos hlk, List.append_nil, hos]
                          rw [hkn, gBox_ss h0 ho0, gOs_s ho0]
                          simp -dsimp [hlt, hw, hfl]
                      · rw [mkBox_some hl0, mkL_some hl0]
                        simp -dsimp [ratlinelaw18_HistAborts_l29, ho, Ins.cells_eq o]
                        refine ⟨fun hklt => ?_, fun hkge => ?_⟩
                        · obtain ⟨t, ht⟩ := some_at hklt
                          have hwk := wrap_in (n := (k : Int) + 1) (by omega)
                          have hmem : ∀ x, x ∈ o.txns.take (k + 1) ↔ x ∈ o.txns.take k ∨ x = t := fun x => by rw [take_next ht, List.mem_append, List.mem_singleton]
                          by_cases hte : t = txn
                          · have hl1 : (o.txns.take (k + 1)).filter p = l := by rw [take_next ht, List.filter_append, hlk, List.filter_cons_of_neg (by rw [hpt]; simpa using hte)]; simp
                            simp -dsimp [ht, hte, hwk, hl1, mkBox_some hl0, mkL_some hl0, hmem]
                            exact hklt
                          · have hte' : ¬txn = t := fun g => hte g.symm
                            have hl1 : (o.txns.take (k + 1)).filter p = l ++ [t] := by rw [take_next ht, List.filter_append, hlk, List.filter_cons_of_pos (by rw [hpt]; simpa using hte)]; rfl
                            simp -dsimp [ht, hte, hte', hwk, hl1, ho, Ins.cells_eq o, mkBox_some (l := l ++ [t]) (by simp), mkL_some (l := l ++ [t]) (by simp), hmem]
                            exact ⟨by omega, by omega, hklt, intsC_snoc l t⟩
                        · rw [List.take_of_length_le hkge] at hlk ⊢
                          have hfl : ofP (∃ o', o' ∈ h.order.take (i + 1) ∧ txn ∈ o'.txns) = ofP ((∃ o', o' ∈ h.order.take i ∧ txn ∈ o'.txns) ∨ txn ∈ o.txns) := by
                            rw [ofP_inj, take_next ho]
                            constructor
                            · rintro ⟨o', g1, g2⟩
                              rcases List.mem_append.1 g1 with g1 | g1
                              · exact .inl ⟨o', g1, g2⟩
                              · simp only [List.mem_singleton] at g1; subst g1; exact .inr g2
                            · rintro (⟨o', g1, g2⟩ | g)
                              · exact ⟨o', List.mem_append_left _ g1, g2⟩
                              · exact ⟨o, by simp, g⟩
                          have hkn : keepOrder p (h.order.take (i + 1)) = os ++ [⟨o.table, o.key, l⟩] := by rw [take_next ho, keepOrder_snoc, keepOne, if_neg (by rw [hlk]; exact hl0), hlk, hos]
                          have hta : List.take l.length (intsC l) = intsC l := List.take_of_length_le (by simp)
                          have hlp : 0 < l.length := List.length_pos_iff.2 hl0
                          have hi2 := insC_snoc os ⟨o.table, o.key, l⟩
                          rw [hkn, gBox_ss h0 (os := os ++ [(⟨o.table, o.key, l⟩ : Ins)]) (by simp), gOs_s (os := os ++ [(⟨o.table, o.key, l⟩ : Ins)]) (by simp), hta, ← hi2]
                          simp -dsimp [hlt, hw, hfl, hl0, Ins.cells]
                          exact fun _ => ⟨by omega, by omega⟩
                  · have hi' : i = h.order.length := by omega
                    subst hi'
                    rw [List.take_length] at hos ⊢
                    have hgW : WellP ⟨h.tables, es, os⟩ := by rw [← hos, ← hes, ← hp]; exact aborts_well hW
                    have hwith : WellP ⟨h.tables, es, h.order⟩ ↔ ¬∃ o, o ∈ h.order ∧ txn ∈ o.txns := by rw [← hes]; exact with_well hW
                    have hspo : WellP ⟨h.tables, es, []⟩ ↔ os = ([] : List Ins) := by have := spoilt_well (txn := txn) hW; rw [hes, hp, hos] at this; exact this
                    have hko := keepOrder_ok hok p
                    rw [hos] at hko
                    have htO : List.take os.length (insC os) = insC os := List.take_of_length_le (by simp)
                    rw [checkErr_no (h := ⟨h.tables, es, []⟩) fun g => ho0 (hspo.1 ((check_iff _).1 g))]
                    have hos0 : ¬(os.length : Int) = 0 := by have := List.length_pos_iff.2 ho0; omega
                    refine call_pure (hist_Check_spec (hokE os (by omega) hko.1 hko.2) hesl2) (by simp [Hs.av, htE, htO]) (by simp [Hs.av]) ?_
                    rw [checkErr_yes ((check_iff _).2 hgW)]
                    simp -dsimp
                    refine call_pure (hist_Check_spec (hokE h.order hl hok.txns hok.cols) hesl2) (by simp [Hs.av, htE]) (by simp [Hs.av]) ?_
                    by_cases hw : ∃ o, o ∈ h.order ∧ txn ∈ o.txns
                    · rw [checkErr_no fun g => (hwith.1 ((check_iff _).1 g)) hw]
                      simp -dsimp [ofP_true.2 hw, ho0]
                    · rw [checkErr_yes ((check_iff _).2 (hwith.2 hw))]
                      simp -dsimp [ofP_false.2 hw, ho0]
      · simp -dsimp [h5]
    · rw [checkErr_no fun g => hW ((check_iff _).1 g)]
      simp -dsimp
  · simp -dsimp [hs]
end Go.Rt
end

/- HistAborts is so of every input: the given statement. Conditions: none beyond the statement itself. -/
section
namespace Go.Proofs.Ytiabgaimhgifeaa
open Go.ChangeShapes Go.WideShapes Go.ChangeAt Go.RowKit Go.Vm Go.Rt
open Go.Proofs (Try.prog)

set_option maxRecDepth 100000 in
theorem histAborts_lifted (os : Os) (started : os.Started) (H : Type) (enc : TypeId × Value → H) :
    ReturnsInHanded {} Try.checked os 7 .any (Rows.histAbortsSpec.pre6 enc Try.prog Try.f7 Rows.histAbortsRow.domain false) (Rows.histAbortsSpec.post enc Try.prog Try.f7 false true false false) := by
  refine returnsInHanded_of_change (C := Try.checked) own started (by kernel_rfl) Try.func7
    (ChangeSpec.witness6 (enc := enc) (C := Try.checked) false ⟨#[], #[.agg #[.slice none 0 0, .slice none 0 0, .slice none 0 0], .int .i64 0], []⟩ 8 (by kernel_rfl) (by kernel_rfl) (by kernel_rfl) (by kernel_rfl)) ?_
  intro W base args ds gs before hval hW hcnd _
  refine law_contract (C := Try.checked) (S := tset) tset_ok laidOut (fn := Try.f7) (ts := [26, 3]) (tb := 4) (spec := Rows.histAbortsSpec) rfl (by rw [Try.params7]) (by decide) (fun t ht => readable t (by revert ht; simp only [List.mem_cons, List.not_mem_nil, or_false]; grind)) rfl (by kernel_rfl) ?_ ?_ hval hW
  · intro H ds hl
    match ds, hl with
    | [d1, d2], _ => exact ⟨rfl, rfl, rfl⟩
  · intro css hcss
    obtain ⟨h, i, hok, e2⟩ := args_hs_int hcss
    show GSpec Try.prog true 7 (argsT Try.prog [26, 3] css) [] _ []
    rw [e2]
    exact HistAborts_spec hok i

theorem histAborts : Rows.HistAbortsSaid :=
  OpenClaim.holds_of_wide 7 Try.f7 rfl rfl rfl rfl rfl rfl rfl ⟨rfl, rfl, rfl, rfl, rfl⟩ rfl rfl rfl rfl rfl (by kernel_rfl) Try.func7 (by kernel_rfl)
    (of_decide_eq_true (by kernel_rfl)) (by unfold Func.isWrapper; first | (rw [if_pos (by decide +kernel)]; kernel_rfl) | (rw [if_neg (by decide +kernel)]; exact ⟨rfl, rfl⟩))
    (fun os started H enc _ => histAborts_lifted os started H enc)
#print axioms histAborts
end Go.Proofs.Ytiabgaimhgifeaa
end
