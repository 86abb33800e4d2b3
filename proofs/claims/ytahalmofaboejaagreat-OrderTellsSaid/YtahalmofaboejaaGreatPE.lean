/- Contracts of functions of the program, and what they lean on. Conditions: those of each theorem. -/
import Derived.Test.YtahalmofaboejaaGreatPC
import Derived.Test.YtahalmofaboejaaGreatPA
import Derived.Test.YtahalmofaboejaaGreatPD
import Derived.Test.YtahalmofaboejaaGreatSort

set_option linter.unusedVariables false
set_option linter.unusedSimpArgs false

/- Contracts: what predicates hold of. -/
section
namespace Go.Rt
open Go.Vm
def cmpOp (o c d : Int) : Bool :=
  if o = 3 then c == 0 else if o = 4 then c != 0 else if o = 5 then decide (c < 0) else if o = 6 then decide (c ≤ 0) else if o = 7 then decide (0 < c) else if o = 8 then decide (0 ≤ c) else decide (0 ≤ c) && decide (d ≤ 0)
def Pd.leafB (p : Pd) (r : List Vl) : Bool := if p.col < 0 ∨ (r.length : Int) ≤ p.col then false else match r[p.col.toNat]? with
  | none => false
  | some x => cmpOp p.op (x.cmp p.v) (x.cmp p.w)
theorem leaf_out {p : Pd} {r : List Vl} (h : p.col < 0 ∨ (r.length : Int) ≤ p.col) : p.leafB r = false := by unfold Pd.leafB; rw [if_pos h]
theorem leaf_at {p : Pd} {r : List Vl} {k : Nat} {x : Vl} (hk : p.col = k) (hx : r[k]? = some x) : p.leafB r = cmpOp p.op (x.cmp p.v) (x.cmp p.w) := by
  have := (List.getElem?_eq_some_iff.1 hx).1
  unfold Pd.leafB
  rw [if_neg (by omega), hk, Int.toNat_natCast, hx]
theorem at_col {α : Type} {p : Pd} {r : List α} (h1 : ¬p.col < 0) (h2 : ¬(r.length : Int) ≤ p.col) : ∃ (k : Nat) (x : α), p.col = k ∧ r[k]? = some x := by
  obtain ⟨x, hx⟩ := some_at (l := r) (i := p.col.toNat) (by omega)
  exact ⟨p.col.toNat, x, by omega, hx⟩
set_option maxHeartbeats 4000000 in
theorem pred_leaf_spec (p : Pd) (r : List Vl) (hr : r.length < 2 ^ 63) : GSpec prog true n_pred_leaf [p.av, .iv (.lst 3 (rowC r))] [] (vb (p.leafB r)) [] := by
  refine gspec1 pred_leaf_is (by simp) (by decide) rfl ?_
  by_cases h1 : p.col < 0
  · simp -dsimp [pred_leaf, Pd.av_eq, h1, leaf_out (.inl h1)]
  · by_cases h2 : (r.length : Int) ≤ p.col
    · simp -dsimp [pred_leaf, Pd.av_eq, h1, h2, leaf_out (.inr h2)]
    · obtain ⟨k, x, hk, hx⟩ := at_col h1 h2
      have hkl : ¬(r.length : Int) ≤ k := by omega
      have hk0 : ¬(k : Int) < 0 := by omega
      rw [leaf_at hk hx]
      simp -dsimp [pred_leaf, Pd.av_eq, hk, hkl, hk0, hx, setRange]
      refine call_pure (value_Compare_spec x p.v) (by simp) (by simp) ?_
      generalize x.cmp p.v = c
      by_cases o3 : p.op = 3
      · simp -dsimp [o3, cmpOp]
      · by_cases o4 : p.op = 4
        · simp -dsimp [o4, cmpOp]
        · by_cases o5 : p.op = 5
          · simp -dsimp [o5, cmpOp]
          · by_cases o6 : p.op = 6
            · simp -dsimp [o6, cmpOp]
            · by_cases o7 : p.op = 7
              · simp -dsimp [o7, cmpOp]
              · by_cases o8 : p.op = 8
                · simp -dsimp [o8, cmpOp]
                · by_cases hc : 0 ≤ c
                  · simp -dsimp [o3, o4, o5, o6, o7, o8, cmpOp, hc, hx, setRange]
                    refine call_pure (value_Compare_spec x p.w) (by simp) (by simp) ?_
                    simp -dsimp [o3, o4, o5, o6, o7, o8, cmpOp, hc]
                  · simp -dsimp [o3, o4, o5, o6, o7, o8, cmpOp, hc]
set_option maxHeartbeats 4000000 in
theorem ref03_leaf_spec (p : Pd) (r : List Vl) (hr : r.length < 2 ^ 63) (hv : ∀ x, x ∈ r → x.s.size < 2 ^ 63) : GSpec prog true n_rr03_leaf [p.av, .iv (.lst 3 (rowC r))] [] (vb (p.leafB r)) [] := by
  refine gspec1 rr03_leaf_is (by simp) (by decide) rfl ?_
  by_cases h1 : p.col < 0
  · simp -dsimp [rr03_leaf, Pd.av_eq, h1, leaf_out (.inl h1)]
  · by_cases h2 : (r.length : Int) ≤ p.col
    · simp -dsimp [rr03_leaf, Pd.av_eq, h1, h2, leaf_out (.inr h2)]
    · obtain ⟨k, x, hk, hx⟩ := at_col h1 h2
      have hkl : ¬(r.length : Int) ≤ k := by omega
      have hk0 : ¬(k : Int) < 0 := by omega
      have hs := hv x (List.mem_of_getElem? hx)
      rw [leaf_at hk hx]
      simp -dsimp [rr03_leaf, Pd.av_eq, hk, hkl, hk0, hx, setRange]
      refine call_pure (ref01_Compare_spec x p.v hs) (by simp) (by simp) ?_
      generalize x.cmp p.v = c
      by_cases o3 : p.op = 3
      · simp -dsimp [o3, cmpOp]
      · by_cases o4 : p.op = 4
        · simp -dsimp [o4, cmpOp]
        · by_cases o5 : p.op = 5
          · simp -dsimp [o5, cmpOp]
          · by_cases o6 : p.op = 6
            · simp -dsimp [o6, cmpOp]
            · by_cases o7 : p.op = 7
              · simp -dsimp [o7, cmpOp]
              · by_cases o8 : p.op = 8
                · simp -dsimp [o8, cmpOp]
                · by_cases hc : 0 ≤ c
                  · simp -dsimp [o3, o4, o5, o6, o7, o8, cmpOp, hc]
                    refine call_pure (ref01_Compare_spec x p.w hs) (by simp) (by simp) ?_
                    simp -dsimp [o3, o4, o5, o6, o7, o8, cmpOp, hc]
                  · simp -dsimp [o3, o4, o5, o6, o7, o8, cmpOp, hc]
mutual
def Pd.holds (r : List Vl) : Pd → Bool
  | .mk o c v w l => if 3 ≤ o ∧ o ≤ 9 then (Pd.mk o c v w l).leafB r else if o = 1 then true else if o = 10 then !((Pd.holdsL r l).headD false) else if o = 11 then (Pd.holdsL r l).all id else if o = 12 then (Pd.holdsL r l).any id else false
def Pd.holdsL (r : List Vl) : List Pd → List Bool
  | [] => []
  | p :: q => p.holds r :: Pd.holdsL r q
end
theorem Pd.holdsL_map (r : List Vl) : ∀ l : List Pd, Pd.holdsL r l = l.map (Pd.holds r)
  | [] => by simp [Pd.holdsL]
  | p :: q => by simp [Pd.holdsL, Pd.holdsL_map r q]
theorem Pd.holds_eq (r : List Vl) (p : Pd) : p.holds r = if 3 ≤ p.op ∧ p.op ≤ 9 then p.leafB r else if p.op = 1 then true else if p.op = 10 then !((p.l.map (Pd.holds r)).headD false) else if p.op = 11 then p.l.all (Pd.holds r) else if p.op = 12 then p.l.any (Pd.holds r) else false := by
  cases p with
  | mk o c v w l =>
    rw [Pd.holds, Pd.holdsL_map]
    simp only [Pd.op, Pd.l, List.all_map, List.any_map]
    rfl
def fstB (r : List Vl) (l : List Pd) : Bool := (l.map (Pd.holds r)).headD false
def allB (r : List Vl) (l : List Pd) : Bool := l.all (Pd.holds r)
def anyB (r : List Vl) (l : List Pd) : Bool := l.any (Pd.holds r)
theorem fstB_next {r : List Vl} {l : List Pd} {i : Nat} {q : Pd} (h : l[i]? = some q) : fstB r (l.take (i + 1)) = if i = 0 then q.holds r else fstB r (l.take i) := by
  have htn : l.take (i + 1) = l.take i ++ [q] := by rw [List.take_add_one, h]; rfl
  have hil := (List.getElem?_eq_some_iff.1 h).1
  unfold fstB
  rw [htn]
  cases i with
  | zero => rfl
  | succ i =>
    cases l with
    | nil => cases hil
    | cons a b => rfl
theorem allB_next {r : List Vl} {l : List Pd} {i : Nat} {q : Pd} (h : l[i]? = some q) : allB r (l.take (i + 1)) = (allB r (l.take i) && q.holds r) := by
  have htn : l.take (i + 1) = l.take i ++ [q] := by rw [List.take_add_one, h]; rfl
  unfold allB; rw [htn, List.all_append]; simp
theorem anyB_next {r : List Vl} {l : List Pd} {i : Nat} {q : Pd} (h : l[i]? = some q) : anyB r (l.take (i + 1)) = (anyB r (l.take i) || q.holds r) := by
  have htn : l.take (i + 1) = l.take i ++ [q] := by rw [List.take_add_one, h]; rfl
  unfold anyB; rw [htn, List.any_append]; simp
theorem Pd.holds_eq' (r : List Vl) (p : Pd) : p.holds r = if 3 ≤ p.op ∧ p.op ≤ 9 then p.leafB r else if p.op = 1 then true else if p.op = 10 then !fstB r p.l else if p.op = 11 then allB r p.l else if p.op = 12 then anyB r p.l else false := Pd.holds_eq r p
set_option maxHeartbeats 4000000 in
theorem ref03_Holds_spec {p : Pd} (h : p.Ok) (r : List Vl) (hr : r.length < 2 ^ 63) (hv : ∀ x, x ∈ r → x.s.size < 2 ^ 63) : GSpec prog true n_rr03_Holds [p.av, .iv (.lst 3 (rowC r))] [] (vb (p.holds r)) [] := by
  induction h with
  | mk p hl _ _ hq ih =>
  refine gspec1 rr03_Holds_is (by simp) (by decide) rfl ?_
  rw [Pd.holds_eq']
  by_cases ho : 3 ≤ p.op ∧ p.op ≤ 9
  · simp -dsimp [rr03_Holds, Pd.av_eq, ho.1, ho.2]
    refine call_pure (ref03_leaf_spec p r hr hv) (by simp [Pd.av_eq]) (by simp [Pd.av_eq]) ?_
    simp -dsimp
  · rw [if_neg ho]
    have hbox : ∀ i : Nat, i ≤ p.l.length → True := fun _ _ => trivial
    by_cases h3 : 3 ≤ p.op
    all_goals
      have h9 : 3 ≤ p.op → ¬p.op ≤ 9 := fun h h' => ho ⟨h, h'⟩
      simp -dsimp [rr03_Holds, Pd.av_eq, h3, h9]
      refine loop_idx [] [] p.l.length (fun i => ⟨[(8, vi i), (7, vb (fstB r (p.l.take i))), (6, vb (anyB r (p.l.take i))), (5, vb (allB r (p.l.take i))), (2, .ptr 2 0), (1, .iv (.lst 3 (rowC r)))], [(2, p.box)]⟩) (fun _ => True) (by simp [Pd.box, fstB, allB, anyB]) trivial ?_
      intro i hi _
      by_cases hil : i < p.l.length
      · obtain ⟨q, hqi⟩ := some_at hil
        have hw := wrap_in (n := (i : Int) + 1) (by omega)
        simp -dsimp [rr03_Holds_l14, Pd.box, hqi, Pd.cells_eq q]
        refine ⟨fun _ => ?_, fun h => absurd h (by omega)⟩
        refine call_pure (ih q (List.mem_of_getElem? hqi)) (by simp [Pd.av_eq]) (by simp [Pd.av_eq]) ?_
        have hF := fstB_next (r := r) hqi
        have hA := allB_next (r := r) hqi
        have hO := anyB_next (r := r) hqi
        rw [hF, hA, hO]
        generalize q.holds r = b
        generalize allB r (p.l.take i) = ba
        generalize anyB r (p.l.take i) = bo
        generalize fstB r (p.l.take i) = bf
        by_cases h0 : i = 0
        · subst h0
          cases ba <;> cases bo <;> simp -dsimp
          all_goals exact ⟨hil, by decide⟩
        · cases ba <;> cases bo <;> simp -dsimp [h0, hw]
          all_goals exact hil
      · have hie : i = p.l.length := by omega
        subst hie
        rw [List.take_length]
        simp -dsimp [rr03_Holds_l14, Pd.box]
        by_cases o1 : p.op = 1
        · simp -dsimp [o1]
        · by_cases o10 : p.op = 10
          · simp -dsimp [o10]
          · by_cases o11 : p.op = 11
            · simp -dsimp [o11]
            · by_cases o12 : p.op = 12
              · simp -dsimp [o12]
              · simp -dsimp [o1, o10, o11, o12]
end Go.Rt
end

/- Contracts: what predicates hold of, by the program. -/
section
namespace Go.Rt
open Go.Vm
theorem ok_Holds_1 : okFn prog n_pred_Holds_1 = true := by kernel_rfl
theorem ok_Holds_2 : okFn prog n_pred_Holds_2 = true := by kernel_rfl
def HoldsOk (r : List Vl) (p : Pd) : Prop := GSpec prog true n_pred_Holds [p.av, .iv (.lst 3 (rowC r))] [] (vb (p.holds r)) []
theorem Holds_1_spec {r : List Vl} {q : Pd} (h : HoldsOk r q) : GSpec prog true n_pred_Holds_1 [q.av, .iv (.pt [.lst 3 (rowC r)])] [] (vb (q.holds r)) [] := by
  refine gspec1 pred_Holds_1_is (by simp) (by decide) rfl ?_
  simp -dsimp [pred_Holds_1, Pd.av_eq]
  refine call_pure h (by simp [Pd.av_eq]) (by simp [Pd.av_eq]) ?_
  simp -dsimp
def Hc (r : List Vl) : Ob := .box [.fn n_pred_Holds_1 [] [.val (.pt [.lst 3 (rowC r)])]]
@[simp] theorem Hc_hi (r : List Vl) : (Hc r).hi = true := rfl
theorem Holds_2_spec {r : List Vl} {q : Pd} (h : HoldsOk r q) : GSpec prog false n_pred_Holds_2 [q.av, .ptr 1000 0] [(1000, Hc r)] (vb (!q.holds r)) [(1000, Hc r)] := by
  refine gspecM1 pred_Holds_2_is (by simp) (by decide) (by simp) rfl ?_
  simp -dsimp [pred_Holds_2, Pd.av_eq, Hc]
  refine ⟨ok_Holds_1, call_purev (Holds_1_spec h) (by simp) (by simp [Pd.av_eq]) (by simp [Pd.av_eq]) ?_⟩
  simp -dsimp
  rfl
theorem IndexFunc_p1 {l : List Pd} (hl : l.length < 2 ^ 63) {r : List Vl} (h : ∀ q, q ∈ l → HoldsOk r q) :
    GSpec prog true n_slices_IndexFunc_api_Pred_api_Pred [.iv (.lst 9 (l.map Pd.cells)), .fn n_pred_Holds_1 [] [.val (.pt [.lst 3 (rowC r)])]] [] (vi (ixP (Pd.holds r) l)) [] := by
  refine gspec1 slices_IndexFunc_api_Pred_api_Pred_is (by simp) (by decide) rfl ?_
  simp -dsimp [slices_IndexFunc_api_Pred_api_Pred]
  refine loop_idx [] [] l.length (fun i => ⟨[(8, vi i), (7, vi l.length), (0, .iv (.lst 9 (l.map Pd.cells))), (1, .fn n_pred_Holds_1 [] [.val (.pt [.lst 3 (rowC r)])])], []⟩) (fun i => Upto i fun j => ∀ e, l[j]? = some e → e.holds r = false) ?_ upto_zero ?_
  · simp -dsimp
  · intro i hi hq
    simp -dsimp [slices_IndexFunc_api_Pred_api_Pred_l7]
    refine ⟨fun hlt => ?_, fun hge => ?_⟩
    · obtain ⟨e, he⟩ := some_at hlt
      have hw := wrap_in (n := (i : Int) + 1) (by omega)
      simp -dsimp [he, Pd.cells_eq e]
      refine ⟨ok_Holds_1, call_purev (Holds_1_spec (h e (List.mem_of_getElem? he))) (by simp) (by simp [Pd.av_eq]) (by simp [Pd.av_eq]) ?_⟩
      cases hf : e.holds r with
      | true =>
        have := ixP_at (p := Pd.holds r) he hf hq
        simp -dsimp [this]
      | false =>
        simp -dsimp [hw]
        exact ⟨hlt, hq.succ fun y hy => by rw [he] at hy; cases hy; exact hf⟩
    · rw [ixP_none (upto_all hge hq)]
theorem IndexFunc_p2 {l : List Pd} (hl : l.length < 2 ^ 63) {r : List Vl} (h : ∀ q, q ∈ l → HoldsOk r q) :
    GSpec prog false n_slices_IndexFunc_api_Pred_api_Pred [.iv (.lst 9 (l.map Pd.cells)), .fn n_pred_Holds_2 [] [.ptr 1000 0]] [(1000, Hc r)] (vi (ixP (fun q => !q.holds r) l)) [(1000, Hc r)] := by
  refine gspecM1 slices_IndexFunc_api_Pred_api_Pred_is (by simp) (by decide) (by simp) rfl ?_
  simp -dsimp [slices_IndexFunc_api_Pred_api_Pred]
  refine loop_idx [] [] l.length (fun i => ⟨[(8, vi i), (7, vi l.length), (0, .iv (.lst 9 (l.map Pd.cells))), (1, .fn n_pred_Holds_2 [] [.ptr 1000 0])], [(1000, Hc r)]⟩) (fun i => Upto i fun j => ∀ e, l[j]? = some e → (!e.holds r) = false) ?_ upto_zero ?_
  · simp -dsimp
  · intro i hi hq
    simp -dsimp [slices_IndexFunc_api_Pred_api_Pred_l7]
    refine ⟨fun hlt => ?_, fun hge => ?_⟩
    · obtain ⟨e, he⟩ := some_at hlt
      have hw := wrap_in (n := (i : Int) + 1) (by omega)
      simp -dsimp [he, Pd.cells_eq e]
      refine ⟨ok_Holds_2, call_mut (Holds_2_spec (h e (List.mem_of_getElem? he))) rfl (by simp) (by simp [Pd.av_eq]) (by simp [Pd.av_eq]) (by simp) (by simp [Hc]) (by simp [Hc]) (by simp) ?_⟩
      cases hf : e.holds r with
      | true =>
        simp -dsimp [hw]
        exact ⟨hlt, Upto.succ (fun j hj y hy => by simpa using hq j hj y hy) fun y hy => by rw [he] at hy; cases hy; exact hf⟩
      | false =>
        have := ixP_at (p := fun q => !Pd.holds r q) he (by rw [hf]; rfl) hq
        simp -dsimp [this]
    · rw [ixP_none (upto_all hge hq)]
theorem ix_any {α : Type} (p : α → Bool) (l : List α) : decide (0 ≤ ixP p l) = l.any p := by
  rw [Bool.eq_iff_iff, decide_eq_true_eq, ixP_nonneg, List.any_eq_true]
theorem ContainsFunc_p1 {l : List Pd} (hl : l.length < 2 ^ 63) {r : List Vl} (h : ∀ q, q ∈ l → HoldsOk r q) :
    GSpec prog true n_slices_ContainsFunc_api_Pred_api_Pred [.iv (.lst 9 (l.map Pd.cells)), .fn n_pred_Holds_1 [] [.val (.pt [.lst 3 (rowC r)])]] [] (vb (anyB r l)) [] := by
  refine gspec1 slices_ContainsFunc_api_Pred_api_Pred_is (by simp) (by decide) rfl ?_
  simp -dsimp [slices_ContainsFunc_api_Pred_api_Pred]
  refine call_pure (IndexFunc_p1 hl h) (by simp) (by simp) ?_
  simp -dsimp
  have := ix_any (Pd.holds r) l
  simpa [anyB] using this
theorem ContainsFunc_p2 {l : List Pd} (hl : l.length < 2 ^ 63) {r : List Vl} (h : ∀ q, q ∈ l → HoldsOk r q) :
    GSpec prog false n_slices_ContainsFunc_api_Pred_api_Pred [.iv (.lst 9 (l.map Pd.cells)), .fn n_pred_Holds_2 [] [.ptr 1000 0]] [(1000, Hc r)] (vb (!allB r l)) [(1000, Hc r)] := by
  refine gspecM1 slices_ContainsFunc_api_Pred_api_Pred_is (by simp) (by decide) (by simp) rfl ?_
  simp -dsimp [slices_ContainsFunc_api_Pred_api_Pred]
  refine call_mut (IndexFunc_p2 hl h) rfl (by simp) (by simp) (by simp) (by simp) (by simp [Hc]) (by simp [Hc]) (by simp) ?_
  simp -dsimp
  have := ix_any (fun q => !Pd.holds r q) l
  have h2 : (l.any fun q => !Pd.holds r q) = !allB r l := by unfold allB; rw [List.not_all_eq_any_not]
  rw [h2] at this
  simpa using this
theorem ContainsFunc_5 {l : List Pd} (hl : l.length < 2 ^ 63) {r : List Vl} (h : ∀ q, q ∈ l → HoldsOk r q) :
    GSpec prog false n_slices_ContainsFunc_api_Pred_api_Pred [.iv (.lst 9 (l.map Pd.cells)), .fn n_pred_Holds_2 [] [.ptr 5 0]] [(5, Hc r)] (vb (!allB r l)) [(5, Hc r)] :=
  (ContainsFunc_p2 hl h).ren (Ren.swaps [(1000, 5)]) rfl
set_option maxHeartbeats 4000000 in
theorem pred_Holds_spec {p : Pd} (h : p.Ok) (r : List Vl) (hr : r.length < 2 ^ 63) : HoldsOk r p := by
  induction h with
  | mk p hl _ _ hq ih =>
  refine gspec1 pred_Holds_is (by simp) (by decide) rfl ?_
  rw [Pd.holds_eq']
  by_cases o1 : p.op = 1
  · simp -dsimp [pred_Holds, Pd.av_eq, o1]
  · by_cases ho : 3 ≤ p.op ∧ p.op ≤ 9
    · rw [if_pos ho]
      have : p.op = 3 ∨ p.op = 4 ∨ p.op = 5 ∨ p.op = 6 ∨ p.op = 7 ∨ p.op = 8 ∨ p.op = 9 := by omega
      rcases this with o | o | o | o | o | o | o
      all_goals
        simp -dsimp [pred_Holds, Pd.av_eq, o]
        refine call_pure (pred_leaf_spec p r hr) (by simp [Pd.av_eq, o]) (by simp [Pd.av_eq]) ?_
        simp -dsimp
    · rw [if_neg ho]
      have n3 : ¬p.op = 3 := by omega
      have n4 : ¬p.op = 4 := by omega
      have n5 : ¬p.op = 5 := by omega
      have n6 : ¬p.op = 6 := by omega
      have n7 : ¬p.op = 7 := by omega
      have n8 : ¬p.op = 8 := by omega
      have n9 : ¬p.op = 9 := by omega
      by_cases o10 : p.op = 10
      · simp -dsimp [pred_Holds, Pd.av_eq, o10]
        cases hpl : p.l with
        | nil => simp -dsimp [hpl, fstB]
        | cons a b =>
          have ha : a ∈ p.l := by rw [hpl]; exact List.mem_cons_self
          simp -dsimp [hpl, Pd.cells_eq a]
          refine ⟨ok_Holds_1, call_purev (Holds_1_spec (ih a ha)) (by simp) (by simp [Pd.av_eq]) (by simp [Pd.av_eq]) ?_⟩
          simp -dsimp [fstB]
      · by_cases o11 : p.op = 11
        · simp -dsimp [pred_Holds, Pd.av_eq, o11]
          refine call_le (le_drops [3] (by decide) _) ?_
          refine call_mut (ContainsFunc_5 (l := p.l) hl ih) rfl (by simp) (by simp) (by simp) (by simp [Hc]) (by simp [Hc]) (by simp [Hc]) (by simp) ?_
          simp -dsimp
        · by_cases o12 : p.op = 12
          · simp -dsimp [pred_Holds, Pd.av_eq, o12]
            refine call_pure (ContainsFunc_p1 (l := p.l) hl ih) (by simp) (by simp) ?_
            simp -dsimp
          · simp -dsimp [pred_Holds, Pd.av_eq, o1, n3, n4, n5, n6, n7, n8, n9, o10, o11, o12]
end Go.Rt
end

/- Contracts: the book of a history. -/
section
namespace Go.Rt
open Go.Vm
theorem sortI_len (l : List Int) : (sortI l).length = l.length := List.length_mergeSort _
theorem slices_Sort_spec (xs : List Int) (hl : xs.length < 2 ^ 62) : GSpec prog false n_slices_Sort_int_int [.sl 1000 1 0 xs.length] [(1000, .list 1 (intsC xs))] (.tup []) [(1000, .list 1 (intsC (sortI xs)))] :=
  gspec_rowF sortI sortI_len (by simp [sortI]) (fun blk off cap zs w hH hb hs => Go.Proofs.Tryz.slices_Sort_int blk off cap zs w hH hb hs) (fun p cap w => Go.Proofs.Any.slices_Sort_int_none Go.Proofs.Tryz.lays189 p cap w) xs hl
theorem Sort_900 (xs : List Int) (hl : xs.length < 2 ^ 62) : GSpec prog false n_slices_Sort_int_int [.sl 900 1 0 xs.length] [(900, .list 1 (intsC xs))] (.tup []) [(900, .list 1 (intsC (sortI xs)))] :=
  (slices_Sort_spec xs hl).ren (Ren.swaps [(1000, 900)]) rfl
def chT (es : List Ev) (o : Ins) (k : Nat) : List Vs := ⟨0, 0⟩ :: (o.txns.take k).map fun txn => ⟨txn, lastN' es txn o.table o.key⟩
theorem chT_zero (es : List Ev) (o : Ins) : chT es o 0 = [⟨0, 0⟩] := rfl
theorem chT_next {es : List Ev} {o : Ins} {k : Nat} {txn : Int} (h : o.txns[k]? = some txn) : chT es o (k + 1) = chT es o k ++ [⟨txn, lastN' es txn o.table o.key⟩] := by
  unfold chT
  rw [show o.txns.take (k + 1) = o.txns.take k ++ [txn] by rw [List.take_add_one, h]; rfl]
  simp
theorem chT_all (es : List Ev) (o : Ins) : chT es o o.txns.length = chnI es o := by unfold chT chnI; rw [List.take_length]
theorem chT_len {es : List Ev} {o : Ins} {k : Nat} (h : k ≤ o.txns.length) : (chT es o k).length = k + 1 := by simp [chT]; omega
def RowsOk (es : List Ev) : Prop := ∀ e, e ∈ es → e.kind = 3 → e.row.length < 2 ^ 40
def bkIV (es : List Ev) (os : List Ins) : IV := .pt [.mp skL (gLv es), .lst 1 (intsC (sortI (commits es))), .mp skR (gRw es), .mp skR (gLs es), .mp skC (gCh es os)]
theorem order_Read_no {h : Hs} (hok : h.Ok) (hev : h.events.length < 2 ^ 40) (hw : ¬WellP h) : GSpec prog false n_order_Read [h.av] [] (.iv (.v (.pointer none))) [] := by
  refine gspec1V order_Read_is (by simp) (by decide) ?_
  have hck := checkErr_no (h := h) (fun hc => hw ((check_iff h).1 hc))
  simp -dsimp [order_Read, Hs.av]
  refine call_pure (hist_Check_spec hok hev) (by simp [Hs.av]) (by simp [Hs.av]) ?_
  simp -dsimp [hck]
  exact ⟨[1], by simp [EndV, AV.ivc]⟩
set_option maxHeartbeats 40000000 in
theorem order_Read_yes {h : Hs} (hok : h.Ok) (hev : h.events.length < 2 ^ 40) (hw : WellP h) (hrow : RowsOk h.events) (htx : ∀ o, o ∈ h.order → o.txns.length < 2 ^ 40) : GSpec prog false n_order_Read [h.av] [] (.iv (bkIV h.events h.order)) [] := by
  refine gspec1V order_Read_is (by simp) (by decide) ?_
  have hck := checkErr_yes ((check_iff h).2 hw)
  simp -dsimp [order_Read, Hs.av]
  refine call_pure (hist_Check_spec hok hev) (by simp [Hs.av]) (by simp [Hs.av]) ?_
  simp -dsimp [hck]
  refine loop_idxL [5, 6, 55] h.events.length (fun i => ⟨[(25, vi i), (24, vi h.events.length), (23, .iv (.lst 22 (evsC h.events))), (3, .ptr 21 0), (1, .ptr 1 0)],
    [(900, .list 1 (intsC (commits (h.events.take i)))), (21, .box [.mpr 16, .sl 900 1 0 (commits (h.events.take i)).length, .mpr 17, .mpr 18, .mpr 19]), (16, .map skL (gLv (h.events.take i))), (17, .map skR (gRw (h.events.take i))), (18, .map skR (gLs (h.events.take i))), (19, .map skC (fun _ => none)),
     (1, .box [.iv (.lst 1 (tbsC h.tables)), .iv (.lst 22 (evsC h.events)), .iv (.lst 5 (insC h.order))])]⟩) (fun _ => True) ?_ trivial ?_
  · refine (le_own (j := 21) (i := 1) (id := 900) (sz := 1) rfl rfl rfl (by decide)).trans (LeTo.le (D := []) ?_)
    simp -dsimp [St.add, gLv_nil, gRw_nil, gLs_nil, commits_nil, intsC]
  · intro i hi _
    by_cases hil : i < h.events.length
    · obtain ⟨e, he⟩ := some_at hil
      have hwi := wrap_in (n := (i : Int) + 1) (by omega)
      have htn : h.events.take (i + 1) = h.events.take i ++ [e] := by rw [List.take_add_one, he]; rfl
      have hcl := commits_le (h.events.take i)
      have htl : (h.events.take i).length ≤ h.events.length := by simp; omega
      by_cases k1 : e.kind = 1
      · have hg1 := gset_gLv (es := h.events.take i) k1
        have hg2 := gRw_same (es := h.events.take i) (e := e) (by omega)
        have hg3 := gLs_same (es := h.events.take i) (e := e) (by omega)
        have hg4 : commits (h.events.take i ++ [e]) = commits (h.events.take i) := by rw [commits_next, if_neg (by omega)]; simp
        rw [htn, hg2, hg3, hg4]
        simp -dsimp [order_Read_l17, he, setRange, k1, hg1, hwi]
        exact fun h => absurd h (by omega)
      · by_cases k5 : e.kind = 5
        · have hg1 := gLv_same (es := h.events.take i) (e := e) k1
          have hg2 := gRw_same (es := h.events.take i) (e := e) (by omega)
          have hg3 := gLs_same (es := h.events.take i) (e := e) (by omega)
          have hg4 : commits (h.events.take i ++ [e]) = commits (h.events.take i) ++ [e.txn] := by rw [commits_next, if_pos k5]
          rw [htn, hg1, hg2, hg3, hg4]
          simp -dsimp [order_Read_l17, he, setRange, k5, hwi]
          exact ⟨fun _ => ⟨by omega, by omega, hil, by simp [intsC]⟩, fun h => absurd h (by omega)⟩
        · have hg1 := gLv_same (es := h.events.take i) (e := e) k1
          have hg4 : commits (h.events.take i ++ [e]) = commits (h.events.take i) := by rw [commits_next, if_neg (by omega)]; simp
          by_cases k3 : e.kind = 3
          · have hg2 := gset_gRw (es := h.events.take i) k3
            have hg3 := gset_gLs (es := h.events.take i) k3
            rw [htn, hg1, hg4]
            simp -dsimp [order_Read_l17, he, setRange, k3]
            refine ⟨fun _ => ?_, fun h => absurd h (by omega)⟩
            have hre := hrow e (List.mem_of_getElem? he) k3
            have hcl2 : GSpec prog false n_row_Clone [.iv (.lst 3 (rowC e.row))] [] (.iv (.lst 3 (rowC e.row))) [] := row_Clone_spec (by simpa using hre)
            repeat' first
              | (refine And.intro ?_ ?_)
              | (refine call_newH hcl2 rfl (by simp) (by simp) (by simp) (by simp) ?_; simp -dsimp [setRange, hg2, hg3, hwi])
            all_goals exact hil
          · have hg2 := gRw_same (es := h.events.take i) (e := e) k3
            have hg3 := gLs_same (es := h.events.take i) (e := e) k3
            rw [htn, hg1, hg2, hg3, hg4]
            simp -dsimp [order_Read_l17, he, setRange, k1, k3, k5, hwi]
            exact fun h => absurd h (by omega)
    · have hie : i = h.events.length := by omega
      subst hie
      rw [List.take_length]
      have hcl := commits_le h.events
      simp -dsimp [order_Read_l17]
      refine call_mut (Sort_900 (commits h.events) (by omega)) rfl (by simp) (by simp) (by simp) (by simp) (by simp) (by simp only [keepL_cons, keepL_nil, and_true]; exact ⟨_, rfl, Ob.le_of rfl rfl (by simp [sortI_len])⟩) (by simp) ?_
      simp -dsimp
      have hol := hok.order
      refine loop_idx [1] [9, 105]  h.order.length (fun i => ⟨[(95, vi i), (94, vi h.order.length), (93, .iv (.lst 5 (insC h.order))), (3, .ptr 21 0)],
        [(900, .list 1 (intsC (sortI (commits h.events)))), (21, .box [.mpr 16, .sl 900 1 0 (commits h.events).length, .mpr 17, .mpr 18, .mpr 19]), (16, .map skL (gLv h.events)), (17, .map skR (gRw h.events)), (18, .map skR (gLs h.events)), (19, .map skC (gCh h.events (h.order.take i)))]⟩) (fun _ => True) ?_ trivial ?_
      · simp [gCh_nil]
      · intro i hi _
        by_cases hil : i < h.order.length
        · obtain ⟨o, ho⟩ := some_at hil
          have hwi := wrap_in (n := (i : Int) + 1) (by omega)
          have htn : h.order.take (i + 1) = h.order.take i ++ [o] := by rw [List.take_add_one, ho]; rfl
          have hot := htx o (List.mem_of_getElem? ho)
          have hgc := gset_gCh h.events (h.order.take i) o
          rw [htn]
          simp -dsimp [order_Read_l32, ho, Ins.cells, setRange]
          refine ⟨fun _ => ?_, fun hh => absurd hh (by omega)⟩
          refine loop_idx [8] [125] o.txns.length (fun k => ⟨[(109, vi k), (108, vi o.txns.length), (107, .iv (.lst 1 (intsC o.txns))), (10, .sl 105 2 0 (k + 1)), (9, .ptr 9 0), (95, vi i), (94, vi h.order.length), (93, .iv (.lst 5 (insC h.order))), (3, .ptr 21 0)],
            [(105, .list 2 (vsC (chT h.events o k))), (9, .box [vi o.table, vb o.key.text, vi o.key.n, .iv (.v (.string o.key.s))]), (900, .list 1 (intsC (sortI (commits h.events)))), (21, .box [.mpr 16, .sl 900 1 0 (commits h.events).length, .mpr 17, .mpr 18, .mpr 19]), (16, .map skL (gLv h.events)), (17, .map skR (gRw h.events)), (18, .map skR (gLs h.events)), (19, .map skC (gCh h.events (h.order.take i)))]⟩) (fun _ => True) ?_ trivial ?_
          · simp [chT_zero, vsC]
          · intro k hk _
            by_cases hkl : k < o.txns.length
            · obtain ⟨txn, htxn⟩ := some_at hkl
              have hwk := wrap_in (n := (k : Int) + 1) (by omega)
              have hcn := chT_next (es := h.events) htxn
              have hcl := chT_len (es := h.events) (o := o) (k := k) (by omega)
              have hvs : vsC (chT h.events o k) ++ [[ci txn, ci (lastN' h.events txn o.table o.key)]] = vsC (chT h.events o (k + 1)) := by rw [hcn]; simp [vsC]
              simp -dsimp [order_Read_l29, htxn, hwk, hcl, hvs]
              exact ⟨fun _ => ⟨by omega, by omega, hkl⟩, fun h => absurd h (by omega)⟩
            · have hke : k = o.txns.length := by omega
              subst hke
              rw [chT_all]
              have hcl := chT_len (es := h.events) (o := o) (k := o.txns.length) (by omega)
              rw [chT_all] at hcl
              have htk : List.take (o.txns.length + 1) (vsC (chnI h.events o)) = vsC (chnI h.events o) := List.take_of_length_le (by simp [hcl])
              simp -dsimp [order_Read_l29, htk, hgc, hwi]
              exact hil
        · have hie : i = h.order.length := by omega
          subst hie
          rw [List.take_length]
          simp -dsimp [order_Read_l32]
          have htk : List.take (commits h.events).length (intsC (sortI (commits h.events))) = intsC (sortI (commits h.events)) := List.take_of_length_le (by simp [sortI_len])
          exact ⟨[16, 17, 18, 19, 900, 21], by simp [EndV, AV.ivc, bkIV, htk]⟩
end Go.Rt
end

/- Contracts: what a book tells. -/
section
namespace Go.Rt
open Go.Vm
def levB (es : List Ev) (txn : Int) : Int := ((lastB (Ev.isB txn) es).map Ev.level).getD 0
def rowB (es : List Ev) (table : Int) (k : Vl) (v : Vs) : Option (List Vl) := if v = ⟨0, 0⟩ then some [] else (lastB (Ev.isN v.txn table k v.n) es).map Ev.row
def chaB (es : List Ev) (os : List Ins) (table : Int) (k : Vl) : List Vs := match lastB (Ins.isO table k) os with
  | some o => chnI es o
  | none => [⟨0, 0⟩]
def plaB (es : List Ev) (os : List Ins) (table : Int) (k : Vl) (v : Vs) : Int := if (rowB es table k v).isNone then -1 else ixP (fun x => decide (x.txn = v.txn)) (chaB es os table k)
def hldB (es : List Ev) (table : Int) (k : Vl) (p : Pd) (v : Vs) : Bool := !((rowB es table k v).getD []).isEmpty && p.holds ((rowB es table k v).getD [])
def chgB (es : List Ev) (os : List Ins) (table : Int) (k : Vl) (place : Int) (p : Pd) : Bool :=
  if place < 1 ∨ (chaB es os table k).length ≤ place then false else hldB es table k p (((chaB es os table k)[(place - 1).toNat]?).getD ⟨0, 0⟩) != hldB es table k p (((chaB es os table k)[place.toNat]?).getD ⟨0, 0⟩)
theorem isN_kind {txn table : Int} {k : Vl} {m : Int} {e : Ev} (h : e.isN txn table k m = true) : e.kind = 3 := by
  simp only [Ev.isN, Bool.and_eq_true, Ev.isW_iff] at h
  exact h.1.1
abbrev nilP : AV := .iv (.v (.pointer none))
section
variable (es : List Ev) (os : List Ins)
theorem Level_spec (txn : Int) : GSpec prog true n_order_Book_Level [.iv (bkIV es os), vi txn] [] (vi (levB es txn)) [] := by
  refine gspec1 order_Book_Level_is (by simp) (by decide) rfl ?_
  simp -dsimp [order_Book_Level, bkIV, gLv, levB]
  cases lastB (Ev.isB txn) es <;> simp -dsimp
theorem Committed_spec (hev : es.length < 2 ^ 40) : GSpec prog false n_order_Book_Committed [.iv (bkIV es os)] [] (.iv (intsIV (sortI (commits es)))) [] := by
  refine gspec1V order_Book_Committed_is (by simp) (by decide) ?_
  have := commits_le es
  simp -dsimp [order_Book_Committed, bkIV]
  refine call_newH (Clone_ints (xs := intsC (sortI (commits es))) (by simp [sortI_len]; omega)) rfl (by simp) (by simp) (by simp) (by simp) ?_
  simp -dsimp
  exact ⟨[2], by simp [EndV, AV.ivc, intsIV]⟩
theorem Row_spec (table : Int) (k : Vl) (v : Vs) (hrow : RowsOk es) : GSpec prog false n_order_Book_Row [.iv (bkIV es os), vi table, k.av, v.av] [] (.tup [.iv (.lst 3 (rowC ((rowB es table k v).getD []))), vb (rowB es table k v).isSome]) [] := by
  refine gspec2V (by decide) order_Book_Row_is (by simp) (by decide) ?_
  by_cases h0 : v = ⟨0, 0⟩
  · subst h0
    simp -dsimp [order_Book_Row, bkIV, rowB]
    exact ⟨[8, 6, 7], by simp [EndV2, AV.ivc, rowC]⟩
  · have h1 : v.txn = 0 → ¬v.n = 0 := fun h h' => h0 (Vs.eq_iff.2 ⟨h, h'⟩)
    have h2 : rowB es table k v = (lastB (Ev.isN v.txn table k v.n) es).map Ev.row := by unfold rowB; rw [if_neg h0]
    rw [h2]
    simp -dsimp [order_Book_Row, bkIV, gRw]
    refine ⟨fun a b => absurd b (h1 a), fun _ => ?_⟩
    cases hl : lastB (Ev.isN v.txn table k v.n) es with
    | none =>
      simp -dsimp
      have hc : GSpec prog false n_row_Clone [.iv (.lst 3 [])] [] (.iv (.lst 3 [])) [] := row_Clone_spec (by simp)
      refine call_newH hc rfl (by simp) (by simp) (by simp) (by simp) ?_
      simp -dsimp
      exact ⟨[6, 7], by simp [EndV2, AV.ivc, rowC]⟩
    | some e =>
      have hc : GSpec prog false n_row_Clone [.iv (.lst 3 (rowC e.row))] [] (.iv (.lst 3 (rowC e.row))) [] := row_Clone_spec (by simpa using hrow e (lastB_some hl).1 (isN_kind (lastB_some hl).2))
      simp -dsimp
      refine call_newH hc rfl (by simp) (by simp) (by simp) (by simp) ?_
      simp -dsimp
      exact ⟨[6, 7], by simp [EndV2, AV.ivc]⟩
theorem chain_spec (table : Int) (k : Vl) : GSpec prog false n_order_Book_chain [.iv (bkIV es os), vi table, k.av] [] (.iv (.lst 2 (vsC (chaB es os table k)))) [] := by
  refine gspec1V order_Book_chain_is (by simp) (by decide) ?_
  simp -dsimp [order_Book_chain, bkIV, gCh, chaB]
  cases lastB (Ins.isO table k) os with
  | none =>
    simp -dsimp
    exact ⟨[23, 5], by simp [EndV, AV.ivc, vsC]⟩
  | some o =>
    simp -dsimp
    exact ⟨[5], by simp [EndV, AV.ivc]⟩
theorem Chain_spec (table : Int) (k : Vl) (hc : (chaB es os table k).length < 2 ^ 42) : GSpec prog false n_order_Book_Chain [.iv (bkIV es os), vi table, k.av] [] (.iv (.lst 2 (vsC (chaB es os table k)))) [] := by
  refine gspec1V order_Book_Chain_is (by simp) (by decide) ?_
  simp -dsimp [order_Book_Chain, bkIV]
  refine call_newH (chain_spec es os table k) rfl (by simp [bkIV]) (by simp) (by simp) (by simp) ?_
  simp -dsimp
  refine ⟨by omega, by omega, ?_⟩
  have ht : List.take (chaB es os table k).length (vsC (chaB es os table k)) = vsC (chaB es os table k) := List.take_of_length_le (by simp)
  refine ⟨?_, [17], by simp [EndV, AV.ivc, ht]⟩
  unfold chaB
  cases lastB (Ins.isO table k) os <;> simp [chnI]
theorem ok_Place_1 : okFn prog n_order_Book_Place_1 = true := by kernel_rfl
theorem Place_1_spec (x v : Vs) : GSpec prog true n_order_Book_Place_1 [x.av, .iv (.pt v.cells)] [] (vb (decide (x.txn = v.txn))) [] := by
  refine gspec1 order_Book_Place_1_is (by simp) (by decide) rfl ?_
  simp -dsimp [order_Book_Place_1]
  rfl
theorem IndexFunc_vs (l : List Vs) (hl : l.length < 2 ^ 63) (v : Vs) : GSpec prog true n_slices_IndexFunc_api_Version_api_Version [.iv (.lst 2 (vsC l)), .fn n_order_Book_Place_1 [] [.val (.pt v.cells)]] [] (vi (ixP (fun x => decide (x.txn = v.txn)) l)) [] := by
  refine gspec1 slices_IndexFunc_api_Version_api_Version_is (by simp) (by decide) rfl ?_
  simp -dsimp [slices_IndexFunc_api_Version_api_Version]
  refine loop_idx [] [] l.length (fun i => ⟨[(8, vi i), (7, vi l.length), (0, .iv (.lst 2 (vsC l))), (1, .fn n_order_Book_Place_1 [] [.val (.pt v.cells)])], []⟩) (fun i => Upto i fun j => ∀ e, l[j]? = some e → decide (e.txn = v.txn) = false) ?_ upto_zero ?_
  · simp -dsimp
  · intro i hi hq
    simp -dsimp [slices_IndexFunc_api_Version_api_Version_l7]
    refine ⟨fun hlt => ?_, fun hge => ?_⟩
    · obtain ⟨e, he⟩ := some_at hlt
      have hw := wrap_in (n := (i : Int) + 1) (by omega)
      simp -dsimp [he, setRange]
      refine ⟨ok_Place_1, call_purev (Place_1_spec e v) (by simp) (by simp) (by simp) ?_⟩
      by_cases hf : e.txn = v.txn
      · have := ixP_at (p := fun x : Vs => decide (x.txn = v.txn)) he (by simpa using hf) hq
        simp -dsimp [hf, this]
      · simp -dsimp [hf, hw]
        exact ⟨hlt, Upto.succ (fun j hj y hy => by simpa using hq j hj y hy) fun y hy => by rw [he] at hy; cases hy; exact hf⟩
    · rw [ixP_none (upto_all hge hq)]
theorem Place_spec (table : Int) (k : Vl) (v : Vs) (hrow : RowsOk es) (hc : (chaB es os table k).length < 2 ^ 42) : GSpec prog true n_order_Book_Place [.iv (bkIV es os), vi table, k.av, v.av] [] (vi (plaB es os table k v)) [] := by
  refine gspec1 order_Book_Place_is (by simp) (by decide) rfl ?_
  simp -dsimp [order_Book_Place]
  refine call_newH (Row_spec es os table k v hrow) rfl (by simp) (by simp) (by simp) (by simp) ?_
  unfold plaB
  cases hr : rowB es table k v with
  | none => simp -dsimp
  | some r =>
    simp -dsimp
    refine call_newH (chain_spec es os table k) rfl (by simp) (by simp) (by simp) (by simp) ?_
    simp -dsimp
    refine call_pure (IndexFunc_vs (chaB es os table k) (by omega) v) (by simp) (by simp) ?_
    simp -dsimp
end
end Go.Rt
end
