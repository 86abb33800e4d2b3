/- HistBegins is so of every input: the given statement. Conditions: none beyond the statement itself. -/
import Derived.Test.YtiabgaimhgifeaaHistOrders
import Derived.Test.YtiabgaimhgifeaaPG
import Derived.Test.YtiabgaimhgifeaaPF

set_option linter.unusedVariables false
set_option linter.unusedSimpArgs false

/- Contracts: HistBegins. -/
section
namespace Go.Rt
open Go.Vm

/-- the box of an order that is being made, and its list -/
def mkBox (id : Nat) (o : Ins) (l : List Int) : Ob := .box [.iv (ci o.table), .iv (cb o.key.text), .iv (ci o.key.n), .iv (.v (.string o.key.s)), if l = [] then .nil 1 else .sl id 1 0 l.length]
def mkL (id : Nat) (l : List Int) : Hp := if l = [] then [] else [(id, .list 1 (intsC l))]

theorem mkBox_nil (id : Nat) (o : Ins) : mkBox id o [] = .box [.iv (ci o.table), .iv (cb o.key.text), .iv (ci o.key.n), .iv (.v (.string o.key.s)), .nil 1] := rfl
theorem mkL_nil (id : Nat) : mkL id [] = [] := rfl
theorem mkBox_some {id : Nat} {o : Ins} {l : List Int} (h : l ≠ []) : mkBox id o l = .box [.iv (ci o.table), .iv (cb o.key.text), .iv (ci o.key.n), .iv (.v (.string o.key.s)), .sl id 1 0 l.length] := by unfold mkBox; rw [if_neg h]
theorem mkL_some {id : Nat} {l : List Int} (h : l ≠ []) : mkL id l = [(id, .list 1 (intsC l))] := if_neg h
theorem keepOrder_ok {h : Hs} (hok : h.Ok) (p : Int → Bool) : (∀ o, o ∈ keepOrder p h.order → o.txns.length < 2 ^ 63) ∧ ∀ o, o ∈ keepOrder p h.order → o.key.s.size < 2 ^ 63 := by
  constructor
  · intro x hx
    obtain ⟨o, h1, h2, rfl⟩ := keepOrder_mem.1 hx
    exact Nat.lt_of_le_of_lt (List.length_filter_le _ _) (hok.txns o h1)
  · intro x hx
    obtain ⟨o, h1, h2, rfl⟩ := keepOrder_mem.1 hx
    exact hok.cols o h1

set_option maxHeartbeats 4000000 in
theorem HistBegins_spec {h : Hs} (hok : h.Ok) (at' : Int) : GSpec prog true n_ratlinelaw18_HistBegins [h.av, vi at'] [] (vb true) [] := by
  refine gspec1 ratlinelaw18_HistBegins_is (by simp) (by decide) rfl ?_
  simp -dsimp [ratlinelaw18_HistBegins, Hs.av]
  refine call_pure awake_spec (by simp) (by simp) ?_
  simp -dsimp
  refine call_pure (ref18_Small_spec hok) (by simp [Hs.av]) (by simp [Hs.av]) ?_
  by_cases hs : SmallP h
  · simp -dsimp [hs]
    refine call_pure (hist_Check_spec hok hs.len) (by simp [Hs.av]) (by simp [Hs.av]) ?_
    by_cases hW : WellP h
    · rw [checkErr_yes ((check_iff _).2 hW)]
      have hl := hs.order
      have hel := hs.events
      obtain ⟨m0, _, hm0⟩ := and_le at' 1023 (by decide)
      have hm' : bits2 .and .i64 at' 1023 = (m0 : Int) := hm0
      have hw1 : IntKind.i64.wrap ((h.events.length : Int) + 1) = ((h.events.length + 1 : Nat) : Int) := by rw [wrap_in (by omega)]; omega
      have hmod : m0 % (h.events.length + 1) < h.events.length + 1 := Nat.mod_lt _ (by omega)
      have htm := tmod_nat m0 (h.events.length + 1)
      generalize hm : m0 % (h.events.length + 1) = m at hmod htm
      simp -dsimp only [Int.natCast_add, Int.natCast_one] at htm hw1
      have hn0 : ¬(h.events.length : Int) + 1 = 0 := by omega
      simp -dsimp [hm', hw1, htm, hn0]
      refine ⟨by omega, ?_⟩
      have htl : (h.events.take m).length < 2 ^ 63 := by rw [List.length_take]; omega
      have hok1 : Hs.Ok ⟨h.tables, h.events.take m, h.order⟩ := ⟨hok.tables, htl, hok.order, fun e he => hok.ev e (List.mem_of_mem_take he), hok.txns, hok.tb, hok.cols⟩
      refine loop_idx [] [10, 92, 91, 100] h.order.length (fun i => ⟨[(9, vi i), (8, .sl 8 5 0 (keepOrder (fun t => decide (ended (h.events.take m) t = 5)) (h.order.take i)).length), (7, .ptr 7 0), (2, .ptr 2 0)],
          [(8, .list 5 (insC (keepOrder (fun t => decide (ended (h.events.take m) t = 5)) (h.order.take i)))), (7, .box [.iv (.lst 1 (tbsC h.tables)), .iv (.lst 22 (evsC (h.events.take m))), .iv (.lst 5 (insC h.order))]),
            (2, .box [.iv (.lst 1 (tbsC h.tables)), .iv (.lst 22 (evsC h.events)), .iv (.lst 5 (insC h.order))])]⟩) (fun _ => True) ?_ trivial ?_
      · simp -dsimp [evsC_take, insC]
      · intro i hi _
        generalize hp : (fun t => decide (ended (h.events.take m) t = 5)) = p
        simp -dsimp [ratlinelaw18_HistBegins_l23]
        refine ⟨fun hlt => ?_, fun hge => ?_⟩
        · obtain ⟨o, ho⟩ := some_at hlt
          have hw := wrap_in (n := (i : Int) + 1) (by omega)
          have hol := hok.txns o (List.mem_of_getElem? ho)
          have hto := hs.txns i hlt o ho
          have hpt : ∀ t, p t = decide (ended (h.events.take m) t = 5) := fun t => by rw [← hp]
          have hkl := keepOrder_len p (h.order.take i)
          rw [List.length_take] at hkl
          simp -dsimp [ho, Ins.cells_eq o]
          refine loop_idx [] [91] o.txns.length (fun k => ⟨[(11, vi k), (10, .ptr 10 0), (9, vi i), (8, .sl 8 5 0 (keepOrder p (h.order.take i)).length), (7, .ptr 7 0), (2, .ptr 2 0)],
            (10, mkBox 92 o ((o.txns.take k).filter p)) :: mkL 92 ((o.txns.take k).filter p) ++ [(8, .list 5 (insC (keepOrder p (h.order.take i)))), (7, .box [.iv (.lst 1 (tbsC h.tables)), .iv (.lst 22 (evsC (h.events.take m))), .iv (.lst 5 (insC h.order))]),
            (2, .box [.iv (.lst 1 (tbsC h.tables)), .iv (.lst 22 (evsC h.events)), .iv (.lst 5 (insC h.order))])]⟩) (fun _ => True) ?_ trivial ?_
          · simp -dsimp [mkBox, mkL]
          · intro k hk _
            generalize hlk : (o.txns.take k).filter p = l
            have hll : l.length ≤ 20 := by rw [← hlk]; exact Nat.le_trans (List.length_filter_le _ _) (by rw [List.length_take]; omega)
            by_cases hl0 : l = []
            · subst hl0
              rw [mkBox_nil, mkL_nil, List.cons_append, List.nil_append]
              simp -dsimp [ratlinelaw18_HistBegins_l19, ho, Ins.cells_eq o]
              refine ⟨fun hklt => ?_, fun hkge => ?_⟩
              · obtain ⟨t, ht⟩ := some_at hklt
                have hwk := wrap_in (n := (k : Int) + 1) (by omega)
                simp -dsimp [ht]
                refine call_pure (ref18_Committed_spec hok1 t) (by simp [Hs.av]) (by simp [Hs.av]) ?_
                by_cases h5 : ended (h.events.take m) t = 5
                · have hl1 : (o.txns.take (k + 1)).filter p = [] ++ [t] := by rw [take_next ht, List.filter_append, hlk, List.filter_cons_of_pos (by rw [hpt]; simpa using h5)]; rfl
                  simp -dsimp [h5, hwk, hl1, ho, ht, Ins.cells_eq o, mkBox_some (l := [t]) (by simp), mkL_some (l := [t]) (by simp), mkBox_nil, mkL_nil]
                  exact ⟨hklt, rfl⟩
                · have hl1 : (o.txns.take (k + 1)).filter p = [] := by rw [take_next ht, List.filter_append, hlk, List.filter_cons_of_neg (by rw [hpt]; simpa using h5)]; simp
                  simp -dsimp [h5, hwk, hl1, mkBox_nil, mkL_nil]
                  exact hklt
              · rw [List.take_of_length_le hkge] at hlk
                have hkn : keepOrder p (h.order.take (i + 1)) = keepOrder p (h.order.take i) := by rw [take_next ho, keepOrder_snoc, keepOne, if_pos hlk, List.append_nil]
                rw [hkn]
                exact ⟨hlt, ⟨hw, rfl⟩, rfl⟩
            · rw [mkBox_some hl0, mkL_some hl0]
              simp -dsimp [ratlinelaw18_HistBegins_l19, ho, Ins.cells_eq o]
              refine ⟨fun hklt => ?_, fun hkge => ?_⟩
              · obtain ⟨t, ht⟩ := some_at hklt
                have hwk := wrap_in (n := (k : Int) + 1) (by omega)
                simp -dsimp [ht]
                refine call_pure (ref18_Committed_spec hok1 t) (by simp [Hs.av]) (by simp [Hs.av]) ?_
                by_cases h5 : ended (h.events.take m) t = 5
                · have hl1 : (o.txns.take (k + 1)).filter p = l ++ [t] := by rw [take_next ht, List.filter_append, hlk, List.filter_cons_of_pos (by rw [hpt]; simpa using h5)]; rfl
                  simp -dsimp [h5, hwk, hl1, ho, ht, Ins.cells_eq o, mkBox_some (l := l ++ [t]) (by simp), mkL_some (l := l ++ [t]) (by simp), mkBox_nil, mkL_nil]
                  exact ⟨by omega, by omega, hklt, intsC_snoc l t⟩
                · have hl1 : (o.txns.take (k + 1)).filter p = l := by rw [take_next ht, List.filter_append, hlk, List.filter_cons_of_neg (by rw [hpt]; simpa using h5)]; simp
                  simp -dsimp [h5, hwk, hl1, mkBox_some hl0, mkL_some hl0]
                  exact hklt
              · rw [List.take_of_length_le hkge] at hlk
                have hkn : keepOrder p (h.order.take (i + 1)) = keepOrder p (h.order.take i) ++ [⟨o.table, o.key, l⟩] := by rw [take_next ho, keepOrder_snoc, keepOne, if_neg (by rw [hlk]; exact hl0), hlk]
                have hta : List.take l.length (intsC l) = intsC l := List.take_of_length_le (by simp)
                rw [hkn]
                refine ⟨fun _ => ⟨by omega, by omega, hlt, ⟨hw, by simp⟩, ?_⟩, fun g => absurd g hl0⟩
                rw [hta]
                exact insC_snoc _ ⟨o.table, o.key, l⟩
        · have hi' : i = h.order.length := by omega
          subst hi'
          rw [List.take_length]
          have hko := keepOrder_ok hok p
          have hkl := keepOrder_len p h.order
          have hok2 : Hs.Ok ⟨h.tables, h.events.take m, keepOrder p h.order⟩ := ⟨hok.tables, htl, Nat.lt_of_le_of_lt hkl hok.order, fun e he => hok.ev e (List.mem_of_mem_take he), hko.1, hok.tb, hko.2⟩
          have hta : List.take (keepOrder p h.order).length (insC (keepOrder p h.order)) = insC (keepOrder p h.order) := List.take_of_length_le (by simp)
          refine call_pure (hist_Check_spec hok2 (by simp only [List.length_take]; omega)) (by simp [Hs.av, hta]) (by simp [Hs.av]) ?_
          rw [checkErr_yes ((check_iff _).2 (by rw [← hp]; exact begins_well hW m))]
          simp -dsimp
    · rw [checkErr_no fun g => hW ((check_iff _).1 g)]
      simp -dsimp
  · simp -dsimp [hs]
end Go.Rt
end

/- HistBegins is so of every input: the given statement. Conditions: none beyond the statement itself. -/
section
namespace Go.Proofs.Ytiabgaimhgifeaa
open Go.ChangeShapes Go.WideShapes Go.ChangeAt Go.RowKit Go.Vm Go.Rt
open Go.Proofs (Try.prog)

set_option maxRecDepth 100000 in
theorem histBegins_lifted (os : Os) (started : os.Started) (H : Type) (enc : TypeId × Value → H) :
    ReturnsInHanded {} Try.checked os 6 .any (Rows.histBeginsSpec.pre6 enc Try.prog Try.f6 Rows.histBeginsRow.domain false) (Rows.histBeginsSpec.post enc Try.prog Try.f6 false true false false) := by
  refine returnsInHanded_of_change (C := Try.checked) own started (by kernel_rfl) Try.func6
    (ChangeSpec.witness6 (enc := enc) (C := Try.checked) false ⟨#[], #[.agg #[.slice none 0 0, .slice none 0 0, .slice none 0 0], .int .i64 0], []⟩ 8 (by kernel_rfl) (by kernel_rfl) (by kernel_rfl) (by kernel_rfl)) ?_
  intro W base args ds gs before hval hW hcnd _
  refine law_contract (C := Try.checked) (S := tset) tset_ok laidOut (fn := Try.f6) (ts := [26, 3]) (tb := 4) (spec := Rows.histBeginsSpec) rfl (by rw [Try.params6]) (by decide) (fun t ht => readable t (by revert ht; simp only [List.mem_cons, List.not_mem_nil, or_false]; grind)) rfl (by kernel_rfl) ?_ ?_ hval hW
  · intro H ds hl
    match ds, hl with
    | [d1, d2], _ => exact ⟨rfl, rfl, rfl⟩
  · intro css hcss
    obtain ⟨h, i, hok, e2⟩ := args_hs_int hcss
    show GSpec Try.prog true 6 (argsT Try.prog [26, 3] css) [] _ []
    rw [e2]
    exact HistBegins_spec hok i

theorem histBegins : Rows.HistBeginsSaid :=
  OpenClaim.holds_of_wide 6 Try.f6 rfl rfl rfl rfl rfl rfl rfl ⟨rfl, rfl, rfl, rfl, rfl⟩ rfl rfl rfl rfl rfl (by kernel_rfl) Try.func6 (by kernel_rfl)
    (of_decide_eq_true (by kernel_rfl)) (by unfold Func.isWrapper; first | (rw [if_pos (by decide +kernel)]; kernel_rfl) | (rw [if_neg (by decide +kernel)]; exact ⟨rfl, rfl⟩))
    (fun os started H enc _ => histBegins_lifted os started H enc)
#print axioms histBegins
end Go.Proofs.Ytiabgaimhgifeaa
end
