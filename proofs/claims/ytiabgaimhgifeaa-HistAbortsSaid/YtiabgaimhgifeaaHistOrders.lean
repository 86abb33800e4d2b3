/- HistOrders is so of every input: the given statement. Conditions: none beyond the statement itself. -/
import Derived.Test.YtiabgaimhgifeaaPF

set_option linter.unusedVariables false
set_option linter.unusedSimpArgs false

/- Contracts: HistOrders. -/
section
namespace Go.Rt
open Go.Vm

theorem insC_set (l : List Ins) (k : Nat) (o : Ins) : (insC l).set k o.cells = insC (l.set k o) := by simp [insC, List.map_set]
theorem insC_snoc (l : List Ins) (o : Ins) : insC l ++ [o.cells] = insC (l ++ [o]) := by simp [insC]
theorem intsC_snoc (l : List Int) (i : Int) : intsC l ++ [[ci i]] = intsC (l ++ [i]) := by simp [intsC]
theorem insC_all (l : List Ins) : List.take l.length (insC l) = insC l := List.take_of_length_le (by simp)

theorem HistOrders_spec {h : Hs} (hok : h.Ok) (at' : Int) : GSpec prog true n_ratlinelaw18_HistOrders [h.av, vi at'] [] (vb true) [] := by
  refine gspec1 ratlinelaw18_HistOrders_is (by simp) (by decide) rfl ?_
  simp -dsimp [ratlinelaw18_HistOrders, Hs.av]
  refine call_pure awake_spec (by simp) (by simp) ?_
  simp -dsimp
  refine call_pure (ref18_Small_spec hok) (by simp [Hs.av]) (by simp [Hs.av]) ?_
  by_cases hs : SmallP h
  · by_cases h0 : h.order = []
    · simp -dsimp [hs, h0]
    · simp -dsimp [hs, h0]
      refine call_pure (hist_Check_spec hok hs.len) (by simp [Hs.av]) (by simp [Hs.av]) ?_
      by_cases hW : WellP h
      · rw [checkErr_yes ((check_iff _).2 hW)]
        have hl := hs.order
        have hne := List.length_pos_iff.2 h0
        obtain ⟨m, _, hm⟩ := and_le at' 1023 (by decide)
        obtain ⟨o, ho⟩ : ∃ o, h.order[m % h.order.length]? = some o := some_at (Nat.mod_lt _ hne)
        generalize hk : m % h.order.length = k at ho
        have hkl := (List.getElem?_eq_some_iff.1 ho).1
        have hm' : bits2 .and .i64 at' 1023 = (m : Int) := hm
        have hn0 : ¬(h.order.length : Int) = 0 := by omega
        have hto := hs.txns k hkl o ho
        have hto0 : 0 < o.txns.length := (((well_iff h).1 hW).2.2.2 k hkl o ho).2.2
        simp -dsimp [hm', tmod_nat, hk, ho, hn0, h0, Ins.cells_eq o]
        refine ⟨by omega, by omega, by omega, ?_⟩
        have hw0 := wrap_in (n := (o.txns.length : Int) - 1) (by omega)
        refine loop_idx [] [63] o.txns.length (fun j => ⟨[(11, vi ((o.txns.length : Int) - 1 - j)), (10, .sl 10 1 0 j), (9, .ptr 9 0), (8, .sl 8 5 0 h.order.length), (7, vi k), (2, .ptr 2 0)],
            [(10, .list 1 (intsC (o.txns.reverse.take j))), (9, .box [.iv (ci o.table), .iv (cb o.key.text), .iv (ci o.key.n), .iv (.v (.string o.key.s)), .iv (.lst 1 (intsC o.txns))]), (8, .list 5 (insC h.order)),
             (2, .box [.iv (.lst 1 (tbsC h.tables)), .iv (.lst 22 (evsC h.events)), .iv (.lst 5 (insC h.order))])]⟩) (fun _ => True) ?_ trivial ?_
        · simp -dsimp [hw0, intsC]
        · intro j hj _
          by_cases hj2 : j < o.txns.length
          · obtain ⟨t, ht⟩ : ∃ t, o.txns.reverse[j]? = some t := some_at (by simpa using hj2)
            have ht' : o.txns[o.txns.length - 1 - j]? = some t := by rw [← List.getElem?_reverse hj2]; exact ht
            generalize hz : (o.txns.length : Int) - 1 - (j : Int) = z
            have g1 : (0 : Int) ≤ z := by omega
            have g2 : z.toNat = o.txns.length - 1 - j := by omega
            have g3 : IntKind.i64.wrap (z - 1) = (o.txns.length : Int) - 1 - ((j + 1 : Nat) : Int) := by rw [wrap_in (by omega)]; omega
            have ht2 : o.txns[z.toNat]? = some t := by rw [g2]; exact ht'
            have hmin : min j o.txns.length = j := by omega
            simp -dsimp [ratlinelaw18_HistOrders_l16, g1, ht2, hmin, g3]
            exact ⟨by omega, by omega, hj2, by rw [intsC_snoc, take_next ht]⟩
          · obtain rfl : j = o.txns.length := by omega
            generalize hz : (o.txns.length : Int) - 1 - (o.txns.length : Int) = z
            have g1 : ¬(0 : Int) ≤ z := by omega
            have hT : o.txns.reverse.take o.txns.length = o.txns.reverse := List.take_of_length_le (by simp)
            rw [hT]
            have hokp : ∀ l : List Int, l.length < 2 ^ 63 → (h.put k o l).Ok := fun l hl => ⟨hok.tables, hok.events, by simp only [Hs.put, List.length_set]; omega, hok.ev, fun p hp => by
              obtain ⟨i, hi⟩ := List.getElem?_of_mem hp
              rcases (set_at ho).1 hi with ⟨_, rfl⟩ | ⟨_, g⟩
              · exact hl
              · exact hok.txns p (List.mem_of_getElem? g), hok.tb, fun p hp => by
              obtain ⟨i, hi⟩ := List.getElem?_of_mem hp
              rcases (set_at ho).1 hi with ⟨_, rfl⟩ | ⟨_, g⟩
              · exact hok.cols o (List.mem_of_getElem? ho)
              · exact hok.cols p (List.mem_of_getElem? g)⟩
            have hci : ∀ l : List Int, (insC h.order).set k [ci o.table, cb o.key.text, ci o.key.n, .v (.string o.key.s), .lst 1 (intsC l)] = insC (h.order.set k ⟨o.table, o.key, l⟩) := fun l => by simp [insC, List.map_set, Ins.cells]
            have hci0 : ∀ l : List Int, ((insC h.order).set k [ci o.table, cb o.key.text, ci o.key.n, .v (.string o.key.s), .lst 1 (intsC l)])[k]? = some [ci o.table, cb o.key.text, ci o.key.n, .v (.string o.key.s), .lst 1 (intsC l)] := fun l => by
              rw [List.getElem?_set_self]; simpa using hkl
            have hav : ∀ l : List Int, (h.put k o l).av = .agg [.iv (.lst 1 (tbsC h.tables)), .iv (.lst 22 (evsC h.events)), .iv (.lst 5 ((insC h.order).set k [ci o.table, cb o.key.text, ci o.key.n, .v (.string o.key.s), .lst 1 (intsC l)]))] := fun l => by rw [hci]; rfl
            have htk : ∀ x : List IV, List.take h.order.length ((insC h.order).set k x) = (insC h.order).set k x := fun x => List.take_of_length_le (by simp)
            have htt : List.take o.txns.length (intsC o.txns.reverse) = intsC o.txns.reverse := List.take_of_length_le (by simp)
            obtain ⟨t0, ht0⟩ : ∃ t, o.txns.reverse[0]? = some t := some_at (by simpa using hto0)
            simp -dsimp [ratlinelaw18_HistOrders_l16, g1, ho, Ins.cells_eq o, htt]
            refine ⟨hkl, call_pure (hist_Check_spec (hokp o.txns.reverse (by simp; omega)) hs.len) (by rw [hav]; simp [htk]) (by rw [hav]; simp) ?_⟩
            rw [checkErr_yes ((check_iff _).2 (turned_well ho hW))]
            have htl : List.take (o.txns.length - 1) (intsC o.txns.reverse).tail = intsC o.txns.reverse.tail := by
              rw [List.take_of_length_le (by simp)]; simp [intsC]
            have ht0m : t0 ∈ o.txns := by have := List.mem_of_getElem? ht0; simpa using this
            have ht0n : t0 ∉ o.txns.reverse.tail := by
              rw [List.tail_reverse, List.mem_reverse, List.dropLast_eq_take]
              have hlast : o.txns[o.txns.length - 1]? = some t0 := by
                have := ht0; rw [List.getElem?_reverse hto0] at this; exact this
              exact ((((well_iff h).1 hW).2.2.2 k hkl o ho).2.1 _ (by omega) t0 hlast).2.2
            simp -dsimp [hci0, htl]
            refine ⟨by omega, hkl, call_pure (hist_Check_spec (hokp o.txns.reverse.tail (by simp; omega)) hs.len) (by rw [hav]; simp [htk]) (by rw [hav]; simp) ?_⟩
            rw [checkErr_no fun g => left_out ho hW ht0m ht0n ((check_iff _).1 g)]
            have htt2 : List.take (o.txns.length + 1) (intsC o.txns.reverse ++ [[ci t0]]) = intsC (o.txns.reverse ++ [t0]) := by
              rw [intsC_snoc]; exact List.take_of_length_le (by simp)
            simp -dsimp [hci0, ht0, htt2]
            refine ⟨by omega, by omega, by omega, by omega, hkl, call_pure (hist_Check_spec (hokp (o.txns.reverse ++ [t0]) (by simp; omega)) hs.len) (by rw [hav]; simp [htk]) (by rw [hav]; simp) ?_⟩
            rw [checkErr_no fun g => twice_ill (h := h) (k := k) ho (l := o.txns.reverse) (t := t0) (by simpa using ht0m) ((check_iff _).1 g)]
            simp -dsimp [hci0]
            have hok4 : Hs.Ok ⟨h.tables, h.events, h.order.set k ⟨o.table, o.key, o.txns.reverse⟩ ++ [⟨o.table, o.key, o.txns.reverse⟩]⟩ := by
              have hp := hokp o.txns.reverse (by simp; omega)
              refine ⟨hok.tables, hok.events, by simp only [List.length_append, List.length_set, List.length_singleton]; omega, hok.ev, fun p hm => ?_, hok.tb, fun p hm => ?_⟩
              · rcases List.mem_append.1 hm with hm | hm
                · exact hp.txns p hm
                · simp only [List.mem_singleton] at hm; subst hm; simp only [List.length_reverse]; omega
              · rcases List.mem_append.1 hm with hm | hm
                · exact hp.cols p hm
                · simp only [List.mem_singleton] at hm; subst hm; exact hok.cols o (List.mem_of_getElem? ho)
            have hav4 : Hs.av ⟨h.tables, h.events, h.order.set k ⟨o.table, o.key, o.txns.reverse⟩ ++ [⟨o.table, o.key, o.txns.reverse⟩]⟩ = .agg [.iv (.lst 1 (tbsC h.tables)), .iv (.lst 22 (evsC h.events)),
                .iv (.lst 5 ((insC h.order).set k [ci o.table, cb o.key.text, ci o.key.n, .v (.string o.key.s), .lst 1 (intsC o.txns.reverse)] ++ [[ci o.table, cb o.key.text, ci o.key.n, .v (.string o.key.s), .lst 1 (intsC o.txns.reverse)]]))] := by
              rw [hci]; simp [Hs.av, insC, Ins.cells]
            have htk4 : ∀ x y : List IV, List.take (h.order.length + 1) ((insC h.order).set k x ++ [y]) = (insC h.order).set k x ++ [y] := fun x y => List.take_of_length_le (by simp)
            refine ⟨hkl, by omega, by omega, call_pure (hist_Check_spec hok4 hs.len) (by rw [hav4]; simp [htk4]) (by rw [hav4]; simp) ?_⟩
            rw [checkErr_no fun g => again_ill ho ((check_iff _).1 g)]
            simp -dsimp
      · rw [checkErr_no fun g => hW ((check_iff _).1 g)]
        simp -dsimp
  · simp -dsimp [hs]
end Go.Rt
end

/- HistOrders is so of every input: the given statement. Conditions: none beyond the statement itself. -/
section
namespace Go.Proofs.Ytiabgaimhgifeaa
open Go.ChangeShapes Go.WideShapes Go.ChangeAt Go.RowKit Go.Vm Go.Rt
open Go.Proofs (Try.prog)

set_option maxRecDepth 100000 in
theorem histOrders_lifted (os : Os) (started : os.Started) (H : Type) (enc : TypeId × Value → H) :
    ReturnsInHanded {} Try.checked os 5 .any (Rows.histOrdersSpec.pre6 enc Try.prog Try.f5 Rows.histOrdersRow.domain false) (Rows.histOrdersSpec.post enc Try.prog Try.f5 false true false false) := by
  refine returnsInHanded_of_change (C := Try.checked) own started (by kernel_rfl) Try.func5
    (ChangeSpec.witness6 (enc := enc) (C := Try.checked) false ⟨#[], #[.agg #[.slice none 0 0, .slice none 0 0, .slice none 0 0], .int .i64 0], []⟩ 8 (by kernel_rfl) (by kernel_rfl) (by kernel_rfl) (by kernel_rfl)) ?_
  intro W base args ds gs before hval hW hcnd _
  refine law_contract (C := Try.checked) (S := tset) tset_ok laidOut (fn := Try.f5) (ts := [26, 3]) (tb := 4) (spec := Rows.histOrdersSpec) rfl (by rw [Try.params5]) (by decide) (fun t ht => readable t (by revert ht; simp only [List.mem_cons, List.not_mem_nil, or_false]; grind)) rfl (by kernel_rfl) ?_ ?_ hval hW
  · intro H ds hl
    match ds, hl with
    | [d1, d2], _ => exact ⟨rfl, rfl, rfl⟩
  · intro css hcss
    obtain ⟨h, i, hok, e2⟩ := args_hs_int hcss
    show GSpec Try.prog true 5 (argsT Try.prog [26, 3] css) [] _ []
    rw [e2]
    exact HistOrders_spec hok i

theorem histOrders : Rows.HistOrdersSaid :=
  OpenClaim.holds_of_wide 5 Try.f5 rfl rfl rfl rfl rfl rfl rfl ⟨rfl, rfl, rfl, rfl, rfl⟩ rfl rfl rfl rfl rfl (by kernel_rfl) Try.func5 (by kernel_rfl)
    (of_decide_eq_true (by kernel_rfl)) (by unfold Func.isWrapper; first | (rw [if_pos (by decide +kernel)]; kernel_rfl) | (rw [if_neg (by decide +kernel)]; exact ⟨rfl, rfl⟩))
    (fun os started H enc _ => histOrders_lifted os started H enc)
#print axioms histOrders
end Go.Proofs.Ytiabgaimhgifeaa
end
