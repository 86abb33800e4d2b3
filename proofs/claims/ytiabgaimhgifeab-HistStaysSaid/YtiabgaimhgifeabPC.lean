/- Contracts of functions of the program, and what they lean on. Conditions: those of each theorem. -/
import Derived.Test.YtiabgaimhgifeabPA
import Derived.Test.YtiabgaimhgifeabPB
import Derived.Test.YtiabgaimhgifeabSort

set_option linter.unusedVariables false
set_option linter.unusedSimpArgs false

/- Contracts: copies; rows that are the same. -/
section
namespace Go.Rt
open Go.Vm
theorem Clone_ints {xs : List (List IV)} (hl : xs.length < 2 ^ 32) : GSpec prog false n_slices_Clone_int_int [.iv (.lst 1 xs)] [] (.iv (.lst 1 xs)) [] := by
  refine gspec1L [2, 5] slices_Clone_int_int_is (by simp) (by decide) ?_
  by_cases h : xs = []
  · subst h
    simp -dsimp [slices_Clone_int_int]
  · simp -dsimp [slices_Clone_int_int, h]
    omega
theorem Clone_bools {xs : List (List IV)} (hl : xs.length ≤ 140737488355328) : GSpec prog false n_slices_Clone_bool_bool [.iv (.lst 1 xs)] [] (.iv (.lst 1 xs)) [] := by
  refine gspec1L [2, 5] slices_Clone_bool_bool_is (by simp) (by decide) ?_
  by_cases h : xs = []
  · subst h
    simp -dsimp [slices_Clone_bool_bool]
  · simp -dsimp [slices_Clone_bool_bool, h]
    omega
theorem Clone_refs {xs : List (List IV)} (hl : xs.length < 2 ^ 32) : GSpec prog false n_slices_Clone_api_Ref_api_Ref [.iv (.lst 5 xs)] [] (.iv (.lst 5 xs)) [] := by
  refine gspec1L [2, 5] slices_Clone_api_Ref_api_Ref_is (by simp) (by decide) ?_
  by_cases h : xs = []
  · subst h
    simp -dsimp [slices_Clone_api_Ref_api_Ref]
  · simp -dsimp [slices_Clone_api_Ref_api_Ref, h]
    omega
theorem Clone_values {xs : List (List IV)} (hl : xs.length < 2 ^ 32) : GSpec prog false n_slices_Clone_api_Row_api_Value [.iv (.lst 3 xs)] [] (.iv (.lst 3 xs)) [] := by
  refine gspec1L [2, 5] slices_Clone_api_Row_api_Value_is (by simp) (by decide) ?_
  by_cases h : xs = []
  · subst h
    simp -dsimp [slices_Clone_api_Row_api_Value]
  · simp -dsimp [slices_Clone_api_Row_api_Value, h]
    omega
theorem row_Clone_spec {xs : List (List IV)} (hl : xs.length < 2 ^ 32) : GSpec prog false n_row_Clone [.iv (.lst 3 xs)] [] (.iv (.lst 3 xs)) [] := by
  refine gspec1L [2] row_Clone_is (by simp) (by decide) ?_
  simp -dsimp [row_Clone]
  refine call_mut (Clone_values hl) rfl (by simp) (by simp) (by simp) (by simp) (by simp) (by simp) (by simp) ?_
  simp -dsimp
theorem Clone_preds_nil : GSpec prog true n_slices_Clone_api_Pred_api_Pred [.iv (.lst 9 [])] [] (.iv (.lst 9 [])) [] := by
  refine gspec1D [2, 5] slices_Clone_api_Pred_api_Pred_is (by simp) (by decide) rfl ?_
  simp -dsimp [slices_Clone_api_Pred_api_Pred]
theorem Clone_preds {xs : List (List IV)} (hl : xs.length < 2 ^ 32) (h : xs ≠ []) (d : Nat) : GSpec prog false n_slices_Clone_api_Pred_api_Pred [.iv (.lst 9 xs)] [] (.sl d 9 0 xs.length) [(d, .list 9 xs)] := by
  have : GSpec prog false n_slices_Clone_api_Pred_api_Pred [.iv (.lst 9 xs)] [] (.sl 5 9 0 xs.length) [(5, .list 9 xs)] := by
    refine gspecNL 5 9 xs slices_Clone_api_Pred_api_Pred_is (by simp) (by decide) ?_
    simp -dsimp [slices_Clone_api_Pred_api_Pred, h]
    omega
  exact this.freshL d rfl fun ρ => rfl
theorem ref02_Same_spec (a b : List Vl) (hl : a.length < 2 ^ 63) : GSpec prog true n_ratlineref02_Same [.iv (.lst 3 (rowC a)), .iv (.lst 3 (rowC b))] [] (vb (decide (a = b))) [] := by
  refine gspec1 ratlineref02_Same_is (by simp) (by decide) rfl ?_
  by_cases hlen : a.length = b.length
  · simp -dsimp [ratlineref02_Same, hlen]
    refine loop_idx [] [] a.length (fun i => ⟨[(5, vi i), (0, .iv (.lst 3 (rowC a))), (1, .iv (.lst 3 (rowC b)))], []⟩) (fun i => a.take i = b.take i) ?_ rfl ?_
    · simp
    · intro i hi hQ
      by_cases hil : i < a.length
      · have hil2 : ¬a.length ≤ i := by omega
        obtain ⟨x, hx⟩ := some_at hil
        obtain ⟨y, hy⟩ : ∃ y, b[i]? = some y := some_at (by omega)
        have hw := wrap_in (n := (i : Int) + 1) (by omega)
        simp -dsimp [ratlineref02_Same_l8, hil2, hx, hy, hw]
        refine fun _ => ⟨fun h hab => ?_, fun h1 h2 h3 => ⟨hil, ?_⟩⟩
        · subst hab
          rw [hx] at hy; cases hy
          rcases h with h | h | h <;> exact h rfl
        · have hxy : x = y := Vl.eq_iff.2 ⟨h1, h2, h3⟩
          rw [List.take_add_one, List.take_add_one, hQ, hx, hy, hxy]
      · have hie : i = a.length := by omega
        subst hie
        have hab : a = b := by rw [List.take_length, hlen, List.take_length] at hQ; exact hQ
        simp -dsimp [ratlineref02_Same_l8, hab]
  · have hab : ¬a = b := fun h => hlen (by rw [h])
    have hlen2 : ¬(a.length : Int) = b.length := by omega
    simp -dsimp [ratlineref02_Same, hlen, hlen2, hab]
end Go.Rt
end

/- Contracts: what is the same as itself; predicates that are copied. -/
section
namespace Go.Rt
open Go.Vm
set_option maxHeartbeats 4000000 in
theorem ref03_Same_refl {p : Pd} (h : p.Ok) : GSpec prog true n_ratlineref03_Same [p.av, p.av] [] (vb true) [] := by
  induction h with
  | mk p hl hv hw hq ih =>
    refine gspec1 ratlineref03_Same_is (by simp [Pd.av_eq]) (by decide) rfl ?_
    simp -dsimp [ratlineref03_Same, Pd.av_eq]
    refine loop_idx [] [] p.l.length (fun i => ⟨[(5, vi i), (2, .ptr 2 0), (3, .ptr 3 0)], [(3, .box (p.cells.map .iv)), (2, .box (p.cells.map .iv))]⟩) (fun _ => True) ?_ trivial ?_
    · simp [Pd.cells_eq p]
    · intro i hi _
      by_cases hil : i < p.l.length
      · have hil2 : ¬p.l.length ≤ i := by omega
        obtain ⟨q, hqi⟩ := some_at hil
        have hw' := wrap_in (n := (i : Int) + 1) (by omega)
        simp -dsimp [ratlineref03_Same_l9, Pd.cells_eq p, hil2, hqi]
        intro _
        refine ⟨by rw [Pd.cells_eq]; simp, ?_⟩
        refine call_pure (ih q (List.mem_of_getElem? hqi)) (by simp [Pd.av_eq, Pd.cells_eq q]) (by simp [Pd.av_eq]) ?_
        simp -dsimp [hw', hil]
      · have hie : i = p.l.length := by omega
        subst hie
        simp -dsimp [ratlineref03_Same_l9, Pd.cells_eq p]
theorem box_at {f : FuncId} {args : List AV} {j : Nat} {cs : List IV} (h : GSpec prog false f args [] (.agg (cs.map .iv)) [(j, .box (cs.map .iv))]) (d : Nat) (hs : args.all AV.shal = true) (ha : ∀ ρ : Nat → Nat, args.map (AV.ren ρ) = args) :
    GSpec prog false f args [] (.agg (cs.map .iv)) [(d, .box (cs.map .iv))] := by
  have := h.ren (Ren.swap j d) (by simp [hs, AV.shal, AV.shal2, AV.shal1, Ob.shal])
  rw [ha] at this
  have e : (Ren.swap j d).to j = d := by simp [Ren.swap, swapN]
  have e2 : AV.ren1 (Ren.swap j d).to ∘ AV.iv = AV.iv := funext fun _ => rfl
  simpa [Hp.ren, AV.ren, AV.ren2, AV.ren1, Ob.ren, e, e2] using this
/-- a predicate with few parts -/
inductive Pd.Few : Pd → Prop where
  | mk (p : Pd) (h : p.l.length < 2 ^ 32) (hl : ∀ q, q ∈ p.l → q.Few) : p.Few
end Go.Rt
end

/- Contracts: predicates that are copied. -/
section
namespace Go.Rt
open Go.Vm
abbrev zPd : List AV := [.iv (ci 0), .iv (ci 0), .iv (cb false), .iv (ci 0), .iv (.v (.string ⟨#[]⟩)), .iv (cb false), .iv (ci 0), .iv (.v (.string ⟨#[]⟩)), .nil 9]
abbrev xPd (p : Pd) (x : AV) : List AV := [.iv (ci p.op), .iv (ci p.col), .iv (cb p.v.text), .iv (ci p.v.n), .iv (.v (.string p.v.s)), .iv (cb p.w.text), .iv (ci p.w.n), .iv (.v (.string p.w.s)), x]
set_option maxHeartbeats 4000000 in
theorem pred_Clone_spec {p : Pd} (h : p.Few) : ∀ d : Nat, GSpec prog false n_pred_Clone [p.av] [] (.agg (p.cells.map .iv)) [(d, .box (p.cells.map .iv))] := by
  induction h with
  | mk p hl hq ih =>
    intro d
    refine box_at (j := 2) ?_ d (by simp [Pd.av_eq, AV.shal, AV.shal2, AV.shal1]) (fun ρ => by simp [Pd.av_eq, AV.ren, AV.ren2, AV.ren1])
    refine gspecCL [6, 22, 1] 2 p.cells (by rw [Pd.cells_eq]; rfl) pred_Clone_is (by simp [Pd.av_eq]) (by decide) ?_
    by_cases hn : p.l = []
    · simp -dsimp [pred_Clone, Pd.av_eq, hn]
      refine call_pure Clone_preds_nil (by simp) (by simp) ?_
      simp -dsimp
      refine loop_idx [] [] 0 (fun i => ⟨[(11, vi i), (10, vi (0 : Nat)), (1, .ptr 1 0), (2, .ptr 2 0)], [(1, .box (xPd p (.iv (.lst 9 [])))), (2, .box zPd)]⟩) (fun _ => True) ?_ trivial ?_
      · simp
      · intro i hi _
        have hi0 : i = 0 := by omega
        subst hi0
        simp -dsimp [pred_Clone_l7, Pd.cells_eq p, hn]
    · simp -dsimp [pred_Clone, Pd.av_eq]
      have hne : p.l.map Pd.cells ≠ [] := by simpa using hn
      refine call_newL (Clone_preds (xs := p.l.map Pd.cells) (by simpa using hl) hne 6) (by decide) rfl (by simp) (by simp) ?_
      simp -dsimp
      refine loop_idx [] [22] p.l.length (fun i => ⟨[(11, vi i), (10, vi p.l.length), (1, .ptr 1 0), (2, .ptr 2 0)], [(1, .box (xPd p (.sl 6 9 0 p.l.length))), (6, .list 9 (p.l.map Pd.cells)), (2, .box zPd)]⟩) (fun _ => True) ?_ trivial ?_
      · simp
      · intro i hi _
        by_cases hil : i < p.l.length
        · have hil2 : ¬p.l.length ≤ i := by omega
          obtain ⟨q, hqi⟩ := some_at hil
          have hw' := wrap_in (n := (i : Int) + 1) (by omega)
          simp -dsimp [pred_Clone_l7, hil2, hqi]
          intro _
          have hset : (p.l.map Pd.cells).set i q.cells = p.l.map Pd.cells := by
            refine List.ext_getElem? fun j => ?_
            rw [List.getElem?_set]
            by_cases hij : i = j
            · subst hij; rw [if_pos rfl, if_pos (by simpa using hil), List.getElem?_map, hqi]; rfl
            · rw [if_neg hij]
          refine ⟨hil, by rw [Pd.cells_eq]; simp, ?_, ?_⟩
          all_goals
            refine call_newC (ih q (List.mem_of_getElem? hqi) 22) (by decide) rfl (by simp [Pd.av_eq, Pd.cells_eq q]) (by simp [Pd.av_eq]) ?_
            simp -dsimp [hqi, hset, hw', Pd.cells_eq q]
            refine ⟨hil, ?_⟩
            rw [Pd.cells_eq q] at hset
            exact hset
        · have hie : i = p.l.length := by omega
          subst hie
          simp -dsimp [pred_Clone_l7, Pd.cells_eq p]
          exact List.take_of_length_le (by simp)
end Go.Rt
end

/- Contracts: an event is the same as itself. -/
section
namespace Go.Rt
open Go.Vm
set_option maxHeartbeats 4000000 in
theorem ref18_Event_refl {x : Ev} (hp : x.pred.Ok) (hr : x.refs.length < 2 ^ 63) (hw : x.row.length < 2 ^ 63) : GSpec prog true n_ratlineref18_Event [.agg (x.cells.map .iv), .agg (x.cells.map .iv)] [] (vb true) [] := by
  refine gspec1 ratlineref18_Event_is (by simp) (by decide) rfl ?_
  simp -dsimp [ratlineref18_Event, Ev.cells_eq x]
  refine loop_idx [] [] x.refs.length (fun i => ⟨[(5, vi i), (2, .ptr 2 0), (3, .ptr 3 0)], [(3, .box (x.cells.map .iv)), (2, .box (x.cells.map .iv))]⟩) (fun _ => True) ?_ trivial ?_
  · simp [Ev.cells_eq x]
  · intro i hi _
    by_cases hil : i < x.refs.length
    · have hil2 : ¬x.refs.length ≤ i := by omega
      obtain ⟨q, hqi⟩ := some_at hil
      have hw' := wrap_in (n := (i : Int) + 1) (by omega)
      simp -dsimp [ratlineref18_Event_l8, Ev.cells_eq x, hil2, hqi, Rf.cells_eq q, hw']
    · have hie : i = x.refs.length := by omega
      subst hie
      simp -dsimp [ratlineref18_Event_l8, Ev.cells_eq x]
      refine call_pure (ref03_Same_refl hp) (by simp [Pd.av_eq]) (by simp [Pd.av_eq]) ?_
      simp -dsimp
      refine call_pure (ref02_Same_spec x.row x.row (by omega)) (by simp) (by simp) ?_
      simp -dsimp
end Go.Rt
end

/- Contracts: a history is the same as itself. -/
section
namespace Go.Rt
open Go.Vm
set_option maxHeartbeats 8000000 in
theorem ref18_Same_refl {h : Hs} (hok : h.Ok) : GSpec prog true n_ratlineref18_Same [h.av, h.av] [] (vb true) [] := by
  refine gspec1 ratlineref18_Same_is (by simp [Hs.av]) (by decide) rfl ?_
  simp -dsimp [ratlineref18_Same, Hs.av]
  refine loop_idx [] [] h.tables.length (fun i => ⟨[(5, vi i), (2, .ptr 2 0), (3, .ptr 3 0)], [(3, .box (h.cells.map .iv)), (2, .box (h.cells.map .iv))]⟩) (fun _ => True) ?_ trivial ?_
  · simp [Hs.cells]
  · intro i hi _
    by_cases hil : i < h.tables.length
    · have hil2 : ¬h.tables.length ≤ i := by omega
      obtain ⟨t, ht⟩ := some_at hil
      have htl := hok.tb t (List.mem_of_getElem? ht)
      have hw' := wrap_in (n := (i : Int) + 1) (by have := hok.tables; omega)
      simp -dsimp [ratlineref18_Same_l16, Hs.cells, hil2, ht, tbIV]
      intro _
      refine loop_idx [] [] t.length (fun k => ⟨[(8, vi k), (6, .iv (.lst 1 (boolsC t))), (7, .iv (.lst 1 (boolsC t))), (5, vi i), (2, .ptr 2 0), (3, .ptr 3 0)], [(3, .box (h.cells.map .iv)), (2, .box (h.cells.map .iv))]⟩) (fun _ => True) ?_ trivial ?_
      · simp [Hs.cells]
      · intro k hk _
        by_cases hkl : k < t.length
        · have hkl2 : ¬t.length ≤ k := by omega
          obtain ⟨b, hb⟩ := some_at hkl
          have hkw := wrap_in (n := (k : Int) + 1) (by omega)
          simp -dsimp [ratlineref18_Same_l14, Hs.cells, hkl2, hb, hkw]
        · have hke : k = t.length := by omega
          subst hke
          simp -dsimp [ratlineref18_Same_l14, Hs.cells, hw', hil]
    · have hie : i = h.tables.length := by omega
      subst hie
      simp -dsimp [ratlineref18_Same_l16, Hs.cells]
      refine loop_idx [] [] h.events.length (fun i => ⟨[(9, vi i), (2, .ptr 2 0), (3, .ptr 3 0)], [(3, .box (h.cells.map .iv)), (2, .box (h.cells.map .iv))]⟩) (fun _ => True) ?_ trivial ?_
      · simp [Hs.cells]
      · intro j hj _
        by_cases hjl : j < h.events.length
        · have hjl2 : ¬h.events.length ≤ j := by omega
          obtain ⟨x, hx⟩ := some_at hjl
          have hxo := hok.ev x (List.mem_of_getElem? hx)
          have hjw := wrap_in (n := (j : Int) + 1) (by have := hok.events; omega)
          simp -dsimp [ratlineref18_Same_l23, Hs.cells, hjl2, hx]
          intro _
          refine call_pure (ref18_Event_refl hxo.pred hxo.refs hxo.row) (by simp [Ev.cells_eq x]) (by simp [Ev.cells_eq x]) ?_
          simp -dsimp [hjw, hjl, Hs.cells]
        · have hje : j = h.events.length := by omega
          subst hje
          simp -dsimp [ratlineref18_Same_l23, Hs.cells]
          refine loop_idx [] [12, 13] h.order.length (fun k => ⟨[(11, vi k), (2, .ptr 2 0), (3, .ptr 3 0)], [(3, .box (h.cells.map .iv)), (2, .box (h.cells.map .iv))]⟩) (fun _ => True) ?_ trivial ?_
          · simp [Hs.cells]
          · intro k hk _
            by_cases hkl : k < h.order.length
            · have hkl2 : ¬h.order.length ≤ k := by omega
              obtain ⟨o, ho⟩ := some_at hkl
              have hol := hok.txns o (List.mem_of_getElem? ho)
              have hkw := wrap_in (n := (k : Int) + 1) (by have := hok.order; omega)
              simp -dsimp [ratlineref18_Same_l37, Hs.cells, hkl2, ho, Ins.cells_eq o]
              intro _
              refine loop_idx [] [] o.txns.length (fun m => ⟨[(14, vi m), (12, .ptr 12 0), (13, .ptr 13 0), (11, vi k), (2, .ptr 2 0), (3, .ptr 3 0)], [(13, .box (o.cells.map .iv)), (12, .box (o.cells.map .iv)), (3, .box (h.cells.map .iv)), (2, .box (h.cells.map .iv))]⟩) (fun _ => True) ?_ trivial ?_
              · simp [Hs.cells, Ins.cells_eq o]
              · intro m hm _
                by_cases hml : m < o.txns.length
                · have hml2 : ¬o.txns.length ≤ m := by omega
                  obtain ⟨y, hy⟩ := some_at hml
                  have hmw := wrap_in (n := (m : Int) + 1) (by omega)
                  simp -dsimp [ratlineref18_Same_l35, Hs.cells, Ins.cells_eq o, hml2, hy, hmw]
                · have hme : m = o.txns.length := by omega
                  subst hme
                  simp -dsimp [ratlineref18_Same_l35, Hs.cells, Ins.cells_eq o, hkw, hkl]
            · have hke : k = h.order.length := by omega
              subst hke
              simp -dsimp [ratlineref18_Same_l37, Hs.cells]
end Go.Rt
end

/- Contracts: all transactions, the document's way. -/
section
namespace Go.Rt
open Go.Vm
/-- where one belongs among others that rise -/
def posU (t : Int) : List Int → Nat
  | [] => 0
  | a :: r => if a < t then posU t r + 1 else 0
def insU (l : List Int) (t : Int) : List Int := if l[posU t l]? = some t then l else l.take (posU t l) ++ t :: l.drop (posU t l)
def stepT (out : List Int) (e : Ev) : List Int := if e.kind = 1 then insU out e.txn else out
def txns (es : List Ev) : List Int := es.foldl stepT []
theorem posU_le (t : Int) : ∀ l, posU t l ≤ l.length
  | [] => Nat.le_refl _
  | a :: r => by
    unfold posU
    split
    · have := posU_le t r; simp only [List.length_cons]; omega
    · omega
theorem posU_lt {t : Int} : ∀ {l : List Int} {j : Nat} {x : Int}, j < posU t l → l[j]? = some x → x < t
  | [], j, x, h, _ => by simp [posU] at h
  | a :: r, j, x, h, hx => by
    unfold posU at h
    split at h
    · rename_i ha
      cases j with
      | zero => simp at hx; subst hx; exact ha
      | succ j => exact posU_lt (l := r) (j := j) (by omega) (by simpa using hx)
    · omega
theorem posU_at {t : Int} : ∀ {l : List Int} {x : Int}, l[posU t l]? = some x → ¬x < t
  | [], x, h => by simp [posU] at h
  | a :: r, x, h => by
    unfold posU at h
    split at h
    · exact posU_at (by simpa using h)
    · rename_i ha; simp at h; subst h; exact ha
theorem insU_len (l : List Int) (t : Int) : (insU l t).length ≤ l.length + 1 := by
  unfold insU
  split
  · omega
  · simp only [List.length_append, List.length_cons, List.length_take, List.length_drop]
    have := posU_le t l
    omega
theorem txns_len : ∀ (es : List Ev), (txns es).length ≤ es.length := by
  have : ∀ (es : List Ev) (l : List Int), (es.foldl stepT l).length ≤ l.length + es.length := by
    intro es
    induction es with
    | nil => intro l; simp
    | cons e es ih =>
      intro l
      have := ih (stepT l e)
      have h2 : (stepT l e).length ≤ l.length + 1 := by unfold stepT; split; exact insU_len _ _; omega
      simp only [List.foldl_cons, List.length_cons]
      omega
  intro es
  have := this es []
  simpa [txns] using this
end Go.Rt
end

/- Contracts: all transactions, the document's way. -/
section
namespace Go.Rt
open Go.Vm
end Go.Rt
end

/- Contracts: values, rows. -/
section
namespace Go.Rt
open Go.Vm
def Vl.right (v : Vl) : Bool := if v.text then decide (v.n = 0) && decide (v.s.size ≤ 12) else decide (v.s = ⟨#[]⟩)
theorem value_Right_spec (v : Vl) : GSpec prog true n_value_Right [v.av] [] (vb v.right) [] := by
  refine gspec1 value_Right_is (by simp) (by decide) rfl ?_
  simp -dsimp [value_Right, Vl.right]
  grind
/-- a table that may be -/
def TbOk (t : Tb) : Prop := 1 ≤ t.length ∧ t.length ≤ 4
noncomputable def rowErr (t : Tb) : Int := if ofP (TbOk t) = true then 0 else 1
@[simp] theorem rowErr_ne (t : Tb) : (rowErr t != 0) = !ofP (TbOk t) := by
  unfold rowErr; cases ofP (TbOk t) <;> rfl
@[simp] theorem rowErr_eq (t : Tb) : (rowErr t == 0) = ofP (TbOk t) := by
  unfold rowErr; cases ofP (TbOk t) <;> rfl
theorem rowErr_yes {t : Tb} (h : TbOk t) : rowErr t = 0 := by unfold rowErr; rw [if_pos (ofP_true.2 h)]
theorem rowErr_no {t : Tb} (h : ¬TbOk t) : rowErr t = 1 := by unfold rowErr; rw [if_neg (by simpa using h)]
theorem row_Check_spec (t : Tb) : GSpec prog true n_row_Check [tbAV t] [] (vi (rowErr t)) [] := by
  refine gspec1 row_Check_is (by simp) (by decide) rfl ?_
  by_cases h : TbOk t
  · have h' := h
    unfold TbOk at h'
    simp -dsimp [row_Check, tbAV, tbIV, rowErr_yes h]
    omega
  · have h' := h
    unfold TbOk at h'
    simp -dsimp [row_Check, tbAV, tbIV, rowErr_no h]
    omega
def FitsAt (t : Tb) (r : List Vl) (i : Nat) : Prop := ∀ (v : Vl) (c : Bool), r[i]? = some v → t[i]? = some c → v.text = c ∧ v.right = true
def Fits (t : Tb) (r : List Vl) : Prop := TbOk t ∧ r.length = t.length ∧ Upto r.length (FitsAt t r)
theorem fits_no {t : Tb} {r : List Vl} {i : Nat} {v : Vl} {c : Bool} (hv : r[i]? = some v) (hc : t[i]? = some c) (h : ¬(v.text = c ∧ v.right = true)) : ¬Fits t r :=
  fun hf => h (hf.2.2 i (List.getElem?_eq_some_iff.1 hv).1 v c hv hc)
theorem fits_at {t : Tb} {r : List Vl} {i : Nat} {v : Vl} {c : Bool} (hv : r[i]? = some v) (hc : t[i]? = some c) (h : v.text = c ∧ v.right = true) : FitsAt t r i := by
  intro v' c' h1 h2; rw [hv] at h1; rw [hc] at h2; cases h1; cases h2; exact h
theorem row_Fits_spec (t : Tb) (r : List Vl) : GSpec prog true n_row_Fits [tbAV t, .iv (rowIV r)] [] (vb (ofP (Fits t r))) [] := by
  refine gspec1 row_Fits_is (by simp) (by decide) rfl ?_
  simp -dsimp [row_Fits, tbAV]
  refine call_pure (row_Check_spec t) (by simp [tbAV]) rfl ?_
  simp -dsimp [tbIV, rowIV, -List.length_eq_zero_iff]
  refine ⟨fun h1 => ⟨fun h3 h => by have := h.2.1; omega, fun h3 => ?_⟩, fun h h' => h h'.1⟩
  refine loop_idx [] [6] r.length (fun i => ⟨[(20, vi i), (19, vi r.length), (18, .iv (.lst 3 (r.map Vl.cells))), (2, .ptr 2 0)], [(2, .box [.iv (.lst 1 (boolsC t))])]⟩)
    (fun i => Upto i (FitsAt t r)) ?_ ?_ ?_
  · simp -dsimp
  · simp -dsimp
  · intro i hi hq
    simp -dsimp [row_Fits_l9]
    refine ⟨fun hlt => ?_, fun hge => ?_⟩
    · obtain ⟨v, hv⟩ := some_at hlt
      obtain ⟨c, hc⟩ : ∃ c, t[i]? = some c := some_at (by omega)
      simp -dsimp [hv, hc]
      refine ⟨fun e => call_pure (value_Right_spec v) (by simp) rfl ?_, fun e => fits_no hv hc fun h => e h.1⟩
      simp -dsimp
      have h2 := h1.2
      exact ⟨fun e2 => fits_no hv hc (by simp [e2]), fun e2 => ⟨hlt, wrap_in (by omega), hq.succ (fits_at hv hc ⟨e, e2⟩)⟩⟩
    · exact ⟨h1, by omega, fun j hj => hq j (by omega)⟩
end Go.Rt
end

/- Contracts: how values are compared. -/
section
namespace Go.Rt
open Go.Vm
def icmp (a b : Int) : Int := if a < b then -1 else if b < a then 1 else 0
def scmp (a b : ByteArray) : Int := if strLt a b = true then -1 else if a = b then 0 else 1
def Vl.cmp (a b : Vl) : Int := if a.text = true then (if b.text = true then scmp a.s b.s else 1) else if b.text = true then -1 else icmp a.n b.n
theorem isNaN_s (a : ByteArray) : GSpec prog true n_cmp_isNaN_string [.iv (.v (.string a))] [] (vb false) [] := by
  refine gspec1 cmp_isNaN_string_is (by simp) (by decide) rfl ?_
  simp -dsimp [cmp_isNaN_string]
theorem isNaN_i (a : Int) : GSpec prog true n_cmp_isNaN_int64 [vi a] [] (vb false) [] := by
  refine gspec1 cmp_isNaN_int64_is (by simp) (by decide) rfl ?_
  simp -dsimp [cmp_isNaN_int64]
theorem strLt_irr (a : ByteArray) : strLt a a = false := by
  unfold strLt
  generalize a.toList = x
  induction x with
  | nil => rfl
  | cons c x ih => simp [Op.bytesLess, ih]
theorem cmpS (a b : ByteArray) : GSpec prog true n_cmp_Compare_string [.iv (.v (.string a)), .iv (.v (.string b))] [] (vi (scmp a b)) [] := by
  refine gspec1 cmp_Compare_string_is (by simp) (by decide) rfl ?_
  simp -dsimp [cmp_Compare_string]
  refine call_pure (isNaN_s a) (by simp) rfl ?_
  simp -dsimp
  refine call_pure (isNaN_s b) (by simp) rfl ?_
  simp -dsimp [scmp]
  grind
theorem cmpI (a b : Int) : GSpec prog true n_cmp_Compare_int64 [vi a, vi b] [] (vi (icmp a b)) [] := by
  refine gspec1 cmp_Compare_int64_is (by simp) (by decide) rfl ?_
  simp -dsimp [cmp_Compare_int64]
  refine call_pure (isNaN_i a) (by simp) rfl ?_
  simp -dsimp
  refine call_pure (isNaN_i b) (by simp) rfl ?_
  simp -dsimp [icmp]
  grind
theorem value_Compare_spec (a b : Vl) : GSpec prog true n_value_Compare [a.av, b.av] [] (vi (a.cmp b)) [] := by
  refine gspec1 value_Compare_is (by simp) (by decide) rfl ?_
  cases ha : a.text <;> cases hb : b.text <;> simp -dsimp [value_Compare, ha, hb, Vl.cmp]
  · exact call_pure (cmpI a.n b.n) (by simp) rfl (by simp)
  · exact call_pure (cmpS a.s b.s) (by simp) rfl (by simp)
theorem toList_data (a : ByteArray) : a.toList = a.data.toList := by simp [ByteArray.toList_eq]
/-- the first bytes are the same -/
def PreEq (a b : ByteArray) (i : Nat) : Prop := i ≤ a.size ∧ i ≤ b.size ∧ ∀ j, j < i → a[j]? = b[j]?
theorem get_data (a : ByteArray) (i : Nat) : a[i]? = a.data.toList[i]? := by
  simp only [Array.getElem?_toList]
  rfl
theorem PreEq.split {a b : ByteArray} {i : Nat} (h : PreEq a b i) : ∃ p, a.toList = p ++ a.data.toList.drop i ∧ b.toList = p ++ b.data.toList.drop i := by
  refine ⟨a.data.toList.take i, by rw [toList_data, List.take_append_drop], ?_⟩
  have : a.data.toList.take i = b.data.toList.take i := by
    apply List.ext_getElem?
    intro j
    simp only [List.getElem?_take]
    split
    · rename_i hj; rw [← get_data, ← get_data]; exact h.2.2 j hj
    · rfl
  rw [this, toList_data, List.take_append_drop]
end Go.Rt
end

/- Contracts: predicates. -/
section
namespace Go.Rt
open Go.Vm
def Pd.box (p : Pd) : Ob := .box [.iv (ci p.op), .iv (ci p.col), .iv (cb p.v.text), .iv (ci p.v.n), .iv (.v (.string p.v.s)), .iv (cb p.w.text), .iv (ci p.w.n), .iv (.v (.string p.w.s)), .iv (.lst 9 (p.l.map Pd.cells))]
theorem ref03_Size_spec {p : Pd} (h : p.Ok) : GSpec prog true n_ratlineref03_Size [p.av] [] (vi (IntKind.i64.wrap p.size)) [] := by
  induction h with
  | mk p hl _ _ hq ih =>
  refine gspec1 ratlineref03_Size_is (by simp) (by decide) rfl ?_
  simp -dsimp [ratlineref03_Size, Pd.av_eq]
  refine loop_idx [] [] p.l.length (fun i => ⟨[(4, vi i), (3, vi (IntKind.i64.wrap (1 + Pd.sizes (p.l.take i)))), (1, .ptr 1 0)], [(1, p.box)]⟩)
      (fun _ => True) ?_ trivial ?_
  · simp -dsimp [Pd.box]; rfl
  · intro i hi _
    simp -dsimp [ratlineref03_Size_l6, Pd.box]
    refine ⟨fun hlt => ?_, fun hge => ?_⟩
    · obtain ⟨q, hqi⟩ := some_at hlt
      simp -dsimp [hqi, Pd.cells_eq q]
      refine call_pure (ih q (List.mem_of_getElem? hqi)) (by simp [Pd.av_eq]) (by simp [Pd.av_eq]) ?_
      simp -dsimp
      refine ⟨hlt, wrap_in (by omega), ?_⟩
      rw [wrap_wrap_add, Pd.sizes_take hqi, Int.add_assoc]
    · rw [Pd.size_eq, List.take_of_length_le hge]
mutual
def Pd.fold {σ : Type} (F : Pd → σ → σ) : Pd → σ → σ
  | .mk o c v w l, st => Pd.foldL F l (F (.mk o c v w l) st)
def Pd.foldL {σ : Type} (F : Pd → σ → σ) : List Pd → σ → σ
  | [], st => st
  | p :: r, st => Pd.foldL F r (p.fold F st)
end
theorem Pd.fold_eq {σ : Type} (F : Pd → σ → σ) (p : Pd) (st : σ) : p.fold F st = Pd.foldL F p.l (F p st) := by cases p; rw [Pd.fold]; rfl
theorem Pd.foldL_nil {σ : Type} (F : Pd → σ → σ) (st : σ) : Pd.foldL F [] st = st := by rw [Pd.foldL]
theorem Pd.foldL_take {σ : Type} (F : Pd → σ → σ) : ∀ {l : List Pd} {i : Nat} {p : Pd} (st : σ), l[i]? = some p → Pd.foldL F (l.take (i + 1)) st = p.fold F (Pd.foldL F (l.take i) st)
  | [], i, p, st, h => by cases h
  | q :: r, 0, p, st, h => by
    simp only [List.getElem?_cons_zero, Option.some.injEq] at h; subst h
    simp -dsimp [Pd.foldL]
  | q :: r, i + 1, p, st, h => by
    simp only [List.getElem?_cons_succ] at h
    simp only [List.take_succ_cons, Pd.foldL]
    exact Pd.foldL_take F _ h
theorem pred_each_spec {σ : Type} (f : FuncId) (b : Bool) (F : Pd → σ → σ) (cs : σ → List IV) (hf : okFn prog f = true)
    (hdo : ∀ (p : Pd) (st : σ), GSpec prog false f (bif b then [.ptr 1000 0, p.av] else [p.av, .ptr 1000 0]) [(1000, .box ((cs st).map .iv))] (.tup []) [(1000, .box ((cs (F p st)).map .iv))]) {p : Pd} (h : p.Ok) :
    ∀ st : σ, GSpec prog false n_pred_each [p.av, .fn f (bif b then [.ptr 1000 0] else []) (bif b then [] else [.ptr 1000 0])] [(1000, .box ((cs st).map .iv))] (.tup []) [(1000, .box ((cs (p.fold F st)).map .iv))] := by
  induction h with
  | mk p hl _ _ hq ih =>
  intro st
  refine gspecM pred_each_is (by simp) (by decide) (by simp) rfl ?_
  have hgo : ∀ (i : Nat) (q : Pd), p.l[i]? = some q → IntKind.i64.wrap ((i : Int) + 1) = (i : Int) + 1 := fun i q h => wrap_in (by have := (List.getElem?_eq_some_iff.1 h).1; omega)
  cases b
  all_goals
    simp -dsimp [pred_each, Pd.av_eq, hf]
    refine call_mut (hdo p st) rfl (by simp) (by simp [Pd.av_eq]) (by simp [Pd.av_eq]) (by simp) (by simp) (by simp) (by simp) ?_
    simp -dsimp
  · refine loop_idx [2] [5] p.l.length (fun i => ⟨[(12, vi i), (11, vi p.l.length), (10, .iv (.lst 9 (p.l.map Pd.cells))), (1, .fn f [] [.ptr 1000 0])], [(1000, .box ((cs (Pd.foldL F (p.l.take i) (F p st))).map .iv))]⟩)
      (fun _ => True) ?_ trivial ?_
    · simp -dsimp [Pd.foldL_nil]
    · intro i hi _
      simp -dsimp [pred_each_l7]
      refine ⟨fun hlt => ?_, fun hge => ?_⟩
      · obtain ⟨q, hqi⟩ := some_at hlt
        simp -dsimp [hqi, Pd.cells_eq q]
        refine call_mut (ih q (List.mem_of_getElem? hqi) (Pd.foldL F (p.l.take i) (F p st))) rfl (by simp) (by simp [Pd.av_eq]) (by simp [Pd.av_eq]) (by simp) (by simp) (by simp) (by simp) ?_
        simp -dsimp [hlt, hgo i q hqi, Pd.foldL_take F _ hqi]
      · simp -dsimp [Pd.fold_eq, List.take_of_length_le hge]
  · refine loop_idx [2] [5] p.l.length (fun i => ⟨[(12, vi i), (11, vi p.l.length), (10, .iv (.lst 9 (p.l.map Pd.cells))), (1, .fn f [.ptr 1000 0] [])], [(1000, .box ((cs (Pd.foldL F (p.l.take i) (F p st))).map .iv))]⟩)
      (fun _ => True) ?_ trivial ?_
    · simp -dsimp [Pd.foldL_nil]
    · intro i hi _
      simp -dsimp [pred_each_l7]
      refine ⟨fun hlt => ?_, fun hge => ?_⟩
      · obtain ⟨q, hqi⟩ := some_at hlt
        simp -dsimp [hqi, Pd.cells_eq q]
        refine call_mut (ih q (List.mem_of_getElem? hqi) (Pd.foldL F (p.l.take i) (F p st))) rfl (by simp) (by simp [Pd.av_eq]) (by simp [Pd.av_eq]) (by simp) (by simp) (by simp) (by simp) ?_
        simp -dsimp [hlt, hgo i q hqi, Pd.foldL_take F _ hqi]
      · simp -dsimp [Pd.fold_eq, List.take_of_length_le hge]
theorem pred_Size_1_spec (p : Pd) (n : Int) : GSpec prog false n_pred_Size_1 [p.av, .ptr 1000 0] [(1000, .box [vi n])] (.tup []) [(1000, .box [vi (IntKind.i64.wrap (n + 1))])] := by
  refine gspecM pred_Size_1_is (by simp) (by decide) (by simp) rfl ?_
  simp -dsimp [pred_Size_1, Pd.av_eq]
def countF (_ : Pd) (n : Int) : Int := IntKind.i64.wrap (n + 1)
mutual
theorem count_fold : ∀ (p : Pd) (n : Int), p.fold countF (IntKind.i64.wrap n) = IntKind.i64.wrap (n + p.size)
  | .mk o c v w l, n => by
    rw [Pd.fold, countF, wrap_add1, count_foldL l, Pd.size, Int.add_assoc]
theorem count_foldL : ∀ (l : List Pd) (n : Int), Pd.foldL countF l (IntKind.i64.wrap n) = IntKind.i64.wrap (n + Pd.sizes l)
  | [], n => by rw [Pd.foldL, Pd.sizes, Int.add_zero]
  | p :: r, n => by rw [Pd.foldL, count_fold p, count_foldL r, Pd.sizes, Int.add_assoc]
end
theorem pred_Size_spec {p : Pd} (h : p.Ok) : GSpec prog true n_pred_Size [p.av] [] (vi (IntKind.i64.wrap p.size)) [] := by
  refine gspec1 pred_Size_is (by simp) (by decide) rfl ?_
  have he := pred_each_spec n_pred_Size_1 false countF (fun n : Int => [ci n]) (by kernel_rfl) (fun p n => pred_Size_1_spec p n) h 0
  rw [Pd.av_eq] at he
  have hr : GSpec prog false n_pred_each [p.av, .fn n_pred_Size_1 [] [.ptr 3 0]] [(3, .box [vi 0])] (.tup []) [(3, .box [vi (p.fold countF 0)])] := by
    rw [Pd.av_eq]; exact he.ren (Ren.swaps [(1000, 3)]) rfl
  have hc : p.fold countF 0 = IntKind.i64.wrap p.size := by
    have := count_fold p 0
    rwa [Int.zero_add, show IntKind.i64.wrap 0 = 0 from rfl] at this
  simp -dsimp [pred_Size, Pd.av_eq]
  refine call_mut hr rfl (by simp) (by simp [Pd.av_eq]) (by simp [Pd.av_eq]) (by simp) (by simp) (by simp) (by simp) ?_
  simp -dsimp [hc]
def ColOk (t : Tb) (i : Int) (v : Vl) : Prop := 0 ≤ i ∧ i < t.length ∧ t[i.toNat]? = some v.text ∧ v.right = true
theorem colOk_at {t : Tb} {k : Nat} {v : Vl} {c : Bool} (hc : t[k]? = some c) : ColOk t k v ↔ v.text = c ∧ v.right = true := by
  have hk := (List.getElem?_eq_some_iff.1 hc).1
  unfold ColOk
  rw [show (k : Int).toNat = k from rfl, hc]
  constructor
  · rintro ⟨_, _, h, h2⟩; cases h; exact ⟨rfl, h2⟩
  · rintro ⟨h, h2⟩; exact ⟨by omega, by omega, by rw [h], h2⟩
theorem pred_of_spec (t : Tb) (w : Bool) (i : Int) (v : Vl) : GSpec prog true n_pred_checker_of [.iv (.pt [tbIV t, cb w]), vi i, v.av] [] (vb (ofP (ColOk t i v))) [] := by
  refine gspec1 pred_checker_of_is (by simp) (by decide) rfl ?_
  simp -dsimp [pred_checker_of, tbIV]
  refine ⟨fun h1 => ⟨fun h2 => ⟨h1, ?_⟩, fun h2 h => by have := h.2.1; omega⟩, fun h1 h => by have := h.1; omega⟩
  obtain ⟨k, rfl⟩ := Int.eq_ofNat_of_zero_le h1
  obtain ⟨c, hc⟩ : ∃ c, t[k]? = some c := some_at (by omega)
  simp -dsimp [hc]
  refine ⟨fun h3 => call_pure (value_Right_spec v) (by simp) rfl ?_, fun h3 => ?_⟩
  · simp -dsimp [ofP_eq, colOk_at hc, h3]
  · simp -dsimp [colOk_at hc, h3]
/-- one part of a predicate -/
def PartOk (t : Tb) (p : Pd) : Prop :=
  if p.op = 1 ∨ p.op = 2 then p.l.length = 0
  else if 3 ≤ p.op ∧ p.op ≤ 8 then p.l.length = 0 ∧ ColOk t p.col p.v
  else if p.op = 9 then p.l.length = 0 ∧ ColOk t p.col p.v ∧ ColOk t p.col p.w
  else if p.op = 10 then p.l.length = 1
  else if p.op = 11 ∨ p.op = 12 then 0 < p.l.length
  else False
theorem pred_part_spec (t : Tb) (p : Pd) (w : Bool) : GSpec prog false n_pred_checker_part [.ptr 1000 0, p.av] [(1000, .box [.iv (tbIV t), vb w])] (.tup []) [(1000, .box [.iv (tbIV t), vb (w || !ofP (PartOk t p))])] := by
  refine gspecM pred_checker_part_is (by simp) (by decide) (by simp) rfl ?_
  have hop : (p.op = 1 ∨ p.op = 2) ∨ (p.op = 3 ∨ p.op = 4 ∨ p.op = 5 ∨ p.op = 6 ∨ p.op = 7 ∨ p.op = 8) ∨ p.op = 9 ∨ p.op = 10 ∨ (p.op = 11 ∨ p.op = 12) ∨ (p.op < 1 ∨ 12 < p.op) := by omega
  have len0 : ((p.l.length : Int) == 0) = ofP (p.l.length = 0) := by rw [ofP_eq, beq_iff_eq]; omega
  have len1 : ((p.l.length : Int) == 1) = ofP (p.l.length = 1) := by rw [ofP_eq, beq_iff_eq]; omega
  have lenp : (decide (0 < (p.l.length : Int))) = ofP (0 < p.l.length) := by rw [ofP_eq, decide_eq_true_eq]; omega
  rcases hop with h | h | h | h | h | h
  · have e : PartOk t p ↔ p.l.length = 0 := by unfold PartOk; rw [if_pos h]
    rcases h with h | h <;> simp -dsimp [pred_checker_part, Pd.av_eq, h, len0, e] <;> cases w <;> simp
  · have e : PartOk t p ↔ p.l.length = 0 ∧ ColOk t p.col p.v := by
      unfold PartOk; rw [if_neg (by omega), if_pos (by omega)]
    rcases h with h | h | h | h | h | h
    all_goals
      simp -dsimp [pred_checker_part, Pd.av_eq, h, len0, e]
      refine ⟨fun h0 => ?_, fun h0 => ?_⟩
      · refine call_pure (pred_of_spec t w p.col p.v) (by simp) (by simp) ?_
        simp -dsimp [h0]
        cases w <;> simp
      · simp -dsimp [h0]
        try (cases w <;> simp)
  · have e : PartOk t p ↔ p.l.length = 0 ∧ ColOk t p.col p.v ∧ ColOk t p.col p.w := by
      unfold PartOk; rw [if_neg (by omega), if_neg (by omega), if_pos (by omega)]
    simp -dsimp [pred_checker_part, Pd.av_eq, h, len0, e]
    refine ⟨fun h0 => ?_, fun h0 => ?_⟩
    · refine call_pure (pred_of_spec t w p.col p.v) (by simp) (by simp) ?_
      simp -dsimp
      refine ⟨fun h1 => ?_, fun h1 => ?_⟩
      · refine call_pure (pred_of_spec t w p.col p.w) (by simp) (by simp) ?_
        simp -dsimp [h0, h1]
        cases w <;> simp
      · simp -dsimp [h0, h1]
        try (cases w <;> simp)
    · simp -dsimp [h0]
      try (cases w <;> simp)
  · have e : PartOk t p ↔ p.l.length = 1 := by
      unfold PartOk; rw [if_neg (by omega), if_neg (by omega), if_neg (by omega), if_pos h]
    simp -dsimp [pred_checker_part, Pd.av_eq, h, len1, e]
    cases w <;> simp
  · have e : PartOk t p ↔ 0 < p.l.length := by
      unfold PartOk; rw [if_neg (by omega), if_neg (by omega), if_neg (by omega), if_neg (by omega), if_pos h]
    rcases h with h | h <;> simp -dsimp [pred_checker_part, Pd.av_eq, h, lenp, e] <;> cases w <;> simp [ofP_eq]
  · have e : ¬PartOk t p := by
      unfold PartOk; rw [if_neg (by omega), if_neg (by omega), if_neg (by omega), if_neg (by omega), if_neg (by omega)]; exact id
    have ne : ∀ k : Int, 1 ≤ k → k ≤ 12 → (p.op == k) = false := fun k h1 h2 => by rw [beq_eq_false_iff_ne]; omega
    simp -dsimp [pred_checker_part, Pd.av_eq, e, ne]
mutual
def Pd.AllOk (t : Tb) : Pd → Prop
  | .mk o c v w l => PartOk t (.mk o c v w l) ∧ Pd.AllOkL t l
def Pd.AllOkL (t : Tb) : List Pd → Prop
  | [] => True
  | p :: r => p.AllOk t ∧ Pd.AllOkL t r
end
noncomputable def wrongF (t : Tb) (p : Pd) (w : Bool) : Bool := w || !ofP (PartOk t p)
mutual
theorem wrong_fold (t : Tb) : ∀ (p : Pd) (w : Bool), p.fold (wrongF t) w = (w || !ofP (p.AllOk t))
  | .mk o c v w l, b => by
    rw [Pd.fold, wrongF, wrong_foldL t l, Pd.AllOk, Bool.eq_iff_iff]
    simp only [Bool.or_eq_true, Bool.not_eq_true', ofP_false]
    grind
theorem wrong_foldL (t : Tb) : ∀ (l : List Pd) (w : Bool), Pd.foldL (wrongF t) l w = (w || !ofP (Pd.AllOkL t l))
  | [], b => by rw [Pd.foldL, Pd.AllOkL]; cases b <;> simp
  | p :: r, b => by
    rw [Pd.foldL, wrong_fold t p, wrong_foldL t r, Pd.AllOkL, Bool.eq_iff_iff]
    simp only [Bool.or_eq_true, Bool.not_eq_true', ofP_false]
    grind
end
/-- a predicate that may be a table's -/
def PdOk (t : Tb) (p : Pd) : Prop := TbOk t ∧ IntKind.i64.wrap p.size ≤ 15 ∧ p.AllOk t
noncomputable def predErr (t : Tb) (p : Pd) : Int := if ofP (TbOk t) = true then (if ofP (PdOk t p) = true then 0 else 30) else 1
@[simp] theorem predErr_ne (t : Tb) (p : Pd) : (predErr t p != 0) = !ofP (PdOk t p) := by
  unfold predErr
  by_cases h : TbOk t
  · rw [if_pos (ofP_true.2 h)]; cases ofP (PdOk t p) <;> rfl
  · rw [if_neg (by simpa using h)]
    have : ofP (PdOk t p) = false := ofP_false.2 fun g => h g.1
    rw [this]; rfl
theorem pred_Check_spec (t : Tb) {p : Pd} (h : p.Ok) : GSpec prog true n_pred_Check [tbAV t, p.av] [] (vi (predErr t p)) [] := by
  refine gspec1 pred_Check_is (by simp) (by decide) rfl ?_
  have he := pred_each_spec n_pred_checker_part true (wrongF t) (fun w : Bool => [tbIV t, cb w]) (by kernel_rfl) (fun p w => pred_part_spec t p w) h false
  rw [Pd.av_eq] at he
  have hr : GSpec prog false n_pred_each [p.av, .fn n_pred_checker_part [.ptr 15 0] []] [(15, .box [.iv (tbIV t), vb false])] (.tup []) [(15, .box [.iv (tbIV t), vb (p.fold (wrongF t) false)])] := by
    rw [Pd.av_eq]; exact he.ren (Ren.swaps [(1000, 15)]) rfl
  rw [wrong_fold, Bool.false_or] at hr
  simp -dsimp [pred_Check, Pd.av_eq, tbAV]
  refine call_pure (row_Check_spec t) (by simp [tbAV]) (by simp [tbAV]) ?_
  simp -dsimp
  refine ⟨fun h1 => ?_, fun h1 => ?_⟩
  · simp [predErr, rowErr, h1]
  · refine call_mut hr rfl (by simp) (by simp [Pd.av_eq]) (by simp [Pd.av_eq]) (by simp) (by simp) (by simp) (by simp) ?_
    simp -dsimp
    refine ⟨fun h2 => ?_, fun h2 => ?_⟩
    · refine call_pure (pred_Size_spec h) (by simp [Pd.av_eq]) (by simp [Pd.av_eq]) ?_
      simp -dsimp
      rw [predErr, if_pos (ofP_true.2 h1)]
      refine ⟨fun h3 => ?_, fun h3 => ?_⟩
      · rw [if_neg (by simp only [ofP_true]; intro g; have := g.2.1; omega)]
      · rw [if_pos (by simp only [ofP_true]; exact ⟨h1, h3, h2⟩)]
    · rw [predErr, if_pos (ofP_true.2 h1), if_neg (by simp only [ofP_true]; intro g; exact h2 g.2.2)]
end Go.Rt
end

/- Contracts: the document's history. -/
section
namespace Go.Rt
open Go.Vm
/-- the end of a transaction -/
def Ev.ends (txn : Int) (e : Ev) : Prop := e.txn = txn ∧ (e.kind = 5 ∨ e.kind = 6)
instance (txn : Int) (e : Ev) : Decidable (e.ends txn) := by unfold Ev.ends; exact inferInstance
def ended : List Ev → Int → Int
  | [], _ => 0
  | e :: r, txn => if e.ends txn then e.kind else ended r txn
theorem ended_none : ∀ {es : List Ev} {txn : Int}, (∀ e, e ∈ es → ¬e.ends txn) → ended es txn = 0
  | [], _, _ => rfl
  | e :: r, txn, h => by rw [ended, if_neg (h e List.mem_cons_self)]; exact ended_none fun x hx => h x (List.mem_cons_of_mem _ hx)
theorem ended_at : ∀ {es : List Ev} {i : Nat} {e : Ev} {txn : Int}, (∀ j, j < i → ∀ x, es[j]? = some x → ¬x.ends txn) → es[i]? = some e → e.ends txn → ended es txn = e.kind
  | [], i, e, txn, _, h, _ => by cases h
  | x :: r, 0, e, txn, _, h, he => by simp only [List.getElem?_cons_zero, Option.some.injEq] at h; subst h; rw [ended, if_pos he]
  | x :: r, i + 1, e, txn, hn, h, he => by
    rw [ended, if_neg (hn 0 (by omega) x rfl)]
    exact ended_at (i := i) (fun j hj y hy => hn (j + 1) (by omega) y (by simpa using hy)) (by simpa using h) he
def KeyOk (h : Hs) (table : Int) (k : Vl) : Prop := 0 ≤ table ∧ ∃ t, h.tables[table.toNat]? = some t ∧ k.right = true ∧ t[0]? = some k.text
def Hs.TbsOk (h : Hs) : Prop := ∀ t, t ∈ h.tables → TbOk t
/-- was a version written? -/
def VerOk (es : List Ev) (table : Int) (k : Vl) (v : Vs) : Prop := 1 ≤ v.n ∧ v.n ≤ wrote es v.txn table k
end Go.Rt
end

/- Contracts: a history, completed, the document's way. -/
section
namespace Go.Rt
open Go.Vm
def abortEv (t : Int) : Ev := ⟨t, 6, 0, 0, ⟨false, 0, ⟨#[]⟩⟩, ⟨0, 0⟩, 0, [], .mk 0 0 ⟨false, 0, ⟨#[]⟩⟩ ⟨false, 0, ⟨#[]⟩⟩ [], [], false⟩
def opens (es : List Ev) (l : List Int) : List Int := l.filter fun t => decide (ended es t = 0)
def complete (h : Hs) : Hs := { h with events := h.events ++ (opens h.events (txns h.events)).map abortEv }
theorem opens_len (es : List Ev) (l : List Int) : (opens es l).length ≤ l.length := List.length_filter_le _ _
end Go.Rt
end

/- Contracts: the keys of a map as a function that is ranged over; a row of what such a function hands over; sorted. -/
section
namespace Go.Rt
open Go.Vm
def krow (k : Int) : List IV := [.v (.int .i64 k)]
def krows (ks : List Int) : List (List IV) := ks.map krow
/-- what may come behind what, of these keys -/
def PreK (L : List Int) (pre : List (List IV)) (x : List IV) : Prop := ∃ ks k, pre = krows ks ∧ x = krow k ∧ (ks ++ [k]).Nodup ∧ ∀ j ∈ ks ++ [k], j ∈ L
def AllK (L : List Int) (xs : List (List IV)) : Prop := ∃ ks : List Int, xs = krows ks ∧ ks.Nodup ∧ ∀ j, j ∈ ks ↔ j ∈ L
/-- the map's keys are these -/
def KeysOf (g : List Value → Option (List IV)) (L : List Int) : Prop := ∀ q, g q ≠ none ↔ ∃ k ∈ L, q = [.int .i64 k]
set_option maxRecDepth 8000 in
set_option maxHeartbeats 4000000 in
theorem keys1_ispec {g : List Value → Option (List IV)} {L : List Int} (hk : KeysOf g L) : ISpec prog n_maps_Keys_map_int_int_int_int_1 [.pt [.mp skS g]] (PreK L) (AllK L) := by
  intro l Zs Zx cont hy
  refine gspecI maps_Keys_map_int_int_int_int_1_is (by simp) (by decide) ?_
  simp -dsimp [maps_Keys_map_int_int_int_int_1]
  intro L0 hn0 hL0 _
  refine loop_any (fun n s => ∃ (left : List (List Value)) (last : Option (List Value)) (ks : List Int), n = left.length ∧ s = ⟨[(5, .ptr 5 0), (0, .iv (.v (.func (.yield l) #[] #[])))], [(5, .iter skS g left last), (1000, .gh (Zs (krows ks)) [] [])]⟩ ∧
    ks.Nodup ∧ (∀ q ∈ left, ∃ k ∈ L, q = [.int .i64 k] ∧ k ∉ ks) ∧ (∀ k ∈ ks, k ∈ L) ∧ ∀ k ∈ L, k ∈ ks ∨ [Value.int .i64 k] ∈ left) ⟨_, _, LeTo.le (D := []) (s' := ⟨[(5, .ptr 5 0), (0, .iv (.v (.func (.yield l) #[] #[])))], [(5, .iter skS g L0 none), (1000, .gh (Zs (krows [])) [] [])]⟩) ?_, L0, none, [], rfl, rfl, by simp, ?_, by simp, ?_⟩ ?_
  · simp -dsimp [krows]
  · intro q hq
    obtain ⟨k, h1, h2⟩ := (hk q).1 ((hL0 q).1 hq)
    exact ⟨k, h1, h2, by simp⟩
  · intro k hkL
    exact .inr ((hL0 _).2 ((hk _).2 ⟨k, hkL, rfl⟩))
  · rintro n s ⟨left, last, ks, rfl, rfl, h1, h2, h3, h4⟩
    simp -dsimp [maps_Keys_map_int_int_int_int_1_l4]
    refine ⟨?_, ?_⟩
    · rintro rfl
      refine ⟨Zs (krows ks), by simp, fun A B w hz => .inl ⟨_, ⟨ks, rfl, h1, fun j => ⟨h3 j, fun hj => (h4 j hj).resolve_right (by simp)⟩⟩, hz⟩, by simp⟩
    · intro q c hq hg
      obtain ⟨k, q1, rfl, q3⟩ := h2 q hq
      simp -dsimp [hg]
      have hp : PreK L (krows ks) (krow k) := ⟨ks, k, rfl, rfl, by
        refine List.nodup_append.2 ⟨h1, by simp, ?_⟩
        rintro a ha b hb rfl
        rw [List.mem_singleton.1 hb] at ha
        exact q3 ha, fun j hj => by
        rcases List.mem_append.1 hj with h | h
        · exact h3 j h
        · rw [List.mem_singleton.1 h]; exact q1⟩
      refine yield_ok (g := 1000) (hy _ _ hp) (by simp) (by simp [krow]) ?_
      cases hc : cont (krows ks) (krow k) with
      | true =>
        have hkr : krows ks ++ [krow k] = krows (ks ++ [k]) := by simp [krows]
        simp -dsimp [hc, hkr]
        refine ⟨_, rmk_lt hq, _, LeTo.le (D := []) (s' := ⟨[(5, .ptr 5 0), (0, .iv (.v (.func (.yield l) #[] #[])))], [(5, .iter skS g (rmk [.int .i64 k] left) (some [.int .i64 k])), (1000, .gh (Zs (krows (ks ++ [k]))) [] [])]⟩) ?_, _, rfl, _, _, rfl, ?_⟩
        · simp -dsimp
        · obtain ⟨_, _, e1, e2, g1, g2⟩ := hp
          refine ⟨List.nodup_append.2 ⟨h1, by simp, fun a ha b hb => by rintro rfl; rw [List.mem_singleton.1 hb] at ha; exact q3 ha⟩, fun q hq' => ?_, fun j hj => ?_, fun j hj => ?_⟩
          · obtain ⟨hq1, hq2⟩ := rmk_mem.1 hq'
            obtain ⟨k', p1, rfl, p3⟩ := h2 q hq1
            refine ⟨k', p1, rfl, fun hm => ?_⟩
            rcases List.mem_append.1 hm with h | h
            · exact p3 h
            · rw [List.mem_singleton.1 h] at hq2; exact hq2 rfl
          · rcases List.mem_append.1 hj with h | h
            · exact h3 j h
            · rw [List.mem_singleton.1 h]; exact q1
          · rcases h4 j hj with h | h
            · exact .inl (List.mem_append_left _ h)
            · by_cases e : j = k
              · exact .inl (List.mem_append_right _ (by simp [e]))
              · exact .inr (rmk_mem.2 ⟨h, by simpa using e⟩)
      | false =>
        simp -dsimp [hc]
        exact ⟨Zx (krows ks) (krow k), by simp, fun A B w hz => .inr ⟨_, _, hz⟩, by simp⟩
theorem maps_Keys_spec (g : List Value → Option (List IV)) : GSpecN prog false n_maps_Keys_map_int_int_int_int [.iv (.mp skS g)] [] (fun r K => r = .fn n_maps_Keys_map_int_int_int_int_1 [] [.ptr 1 0] ∧ K = [(1, .box [.iv (.mp skS g)])]) := by
  refine gspecR _ maps_Keys_map_int_int_int_int_is (by simp) (by decide) (fun x H' h => by
    obtain ⟨rfl, rfl⟩ := h
    refine ⟨fun id o ho => ?_, by simp⟩
    simp only [Vm.look] at ho
    split at ho
    · cases ho; rfl
    · cases ho) ?_
  simp -dsimp [maps_Keys_map_int_int_int_int]
  exact ⟨[], _, _, ⟨rfl, rfl⟩, by simp -dsimp⟩
/-- a row of these numbers, as the function hands it back -/
def RowR (j : Nat) (S : List Int → Prop) (r : AV) (K : Hp) : Prop := ∃ ks : List Int, S ks ∧ ((ks = [] ∧ r = .nil 1 ∧ K = []) ∨ (ks ≠ [] ∧ r = .sl j 1 0 ks.length ∧ K = [(j, .list 1 (intsC ks))]))
def intsOf (p : List (List IV)) : List Int := p.map fun x => match x with
  | [.v (.int .i64 k)] => k
  | _ => 0
theorem intsOf_krows (ks : List Int) : intsOf (krows ks) = ks := by
  induction ks with
  | nil => rfl
  | cons k ks ih => simpa [intsOf, krows, krow] using ih
def appH : List Int → Hp
  | [] => [(2, .box [.nil 1])]
  | k :: ks => [(2, .box [.sl 11 1 0 (k :: ks).length]), (11, .list 1 (intsC (k :: ks)))]
theorem appH_ne {ks : List Int} (h : ks ≠ []) : appH ks = [(2, .box [.sl 11 1 0 ks.length]), (11, .list 1 (intsC ks))] := by
  cases ks with
  | nil => exact absurd rfl h
  | cons k ks => rfl
theorem rowR_flat {j : Nat} {S : List Int → Prop} {r : AV} {K : Hp} (h : RowR j S r K) : (∀ id o, Vm.look K id = some o → o.isLent = false ∧ o.flat) ∧ r.flat = true := by
  obtain ⟨ks, _, ⟨_, rfl, rfl⟩ | ⟨_, rfl, rfl⟩⟩ := h
  · exact ⟨fun id o h => (by cases h), rfl⟩
  · refine ⟨fun id o ho => ?_, rfl⟩
    simp only [Vm.look] at ho
    split at ho
    · cases ho
      refine ⟨rfl, fun x hx y hy => ?_⟩
      obtain ⟨k, _, rfl⟩ := List.mem_map.1 hx
      simp at hy; subst hy; rfl
    · cases ho
set_option maxRecDepth 8000 in
set_option maxHeartbeats 4000000 in
theorem slices_AppendSeq_spec {f : FuncId} {caps : List IV} {Pre : List (List IV) → List IV → Prop} {S : List (List IV) → Prop} (hi : ISpec prog f caps Pre S) (hok : okFn prog f = true)
    (hp : ∀ pre x, Pre pre x → ∃ ks k, pre = krows ks ∧ x = krow k ∧ ks.length < 2 ^ 32) :
    GSpecN prog true n_slices_AppendSeq_int_int [.nil 1, .fn f [] (caps.map CapV.val)] [] (RowR 11 fun ks => S (krows ks)) := by
  refine gspecRf _ slices_AppendSeq_int_int_is (by simp) (by decide) (fun x H' h => rowR_flat h) ?_
  simp -dsimp [slices_AppendSeq_int_int]
  refine rng_all [4] [5, 10] 990 [(2, .ptr 2 0), (6, .fn f [] (caps.map CapV.val))] (fun p => ∃ ks, p = krows ks) (fun p => appH (intsOf p)) hi ?_ (by simp) hok (by decide) (by simp [intsOf, appH]) (by simp) ?_ ⟨[], rfl⟩ ?_ ?_
  · simp -dsimp [intsOf, appH]
  · intro pre x hx
    obtain ⟨ks, k, _, rfl, _⟩ := hp pre x hx
    rfl
  · rintro vs _ x ⟨ks, rfl⟩ hx
    obtain ⟨ks', k, hks, rfl, hlen⟩ := hp _ x hx
    have hks : ks = ks' := by have := congrArg intsOf hks; rwa [intsOf_krows, intsOf_krows] at this
    subst hks
    have hkr : krows ks ++ [krow k] = krows (ks ++ [k]) := by simp [krows]
    refine ⟨⟨ks ++ [k], hkr⟩, ?_⟩
    rw [hkr, intsOf_krows, intsOf_krows, appH_ne (by simp : ks ++ [k] ≠ [])]
    cases ks with
    | nil =>
      simp -dsimp [slices_AppendSeq_int_int_a4, slices_AppendSeq_int_int_b5, parS, St.set_mk, krow, appH, frCs]
      rfl
    | cons k0 ks =>
      simp -dsimp [slices_AppendSeq_int_int_a4, slices_AppendSeq_int_int_b5, parS, St.set_mk, krow, appH, frCs]
      simp only [List.length_cons] at hlen
      refine ⟨by omega, by omega, by simp [intsC]⟩
  · rintro vs _ ⟨ks, rfl⟩ hS
    rw [intsOf_krows]
    cases ks with
    | nil =>
      simp -dsimp [appH, frCs]
      exact ⟨[2, 990], _, _, ⟨_, hS, .inl ⟨rfl, rfl, rfl⟩⟩, by simp -dsimp⟩
    | cons k0 ks =>
      simp -dsimp [appH, frCs]
      exact ⟨[2, 990], _, _, ⟨_, hS, .inr ⟨by simp, rfl, rfl⟩⟩, by simp -dsimp⟩
theorem slices_Collect_spec {f : FuncId} {caps : List IV} {Pre : List (List IV) → List IV → Prop} {S : List (List IV) → Prop} (hi : ISpec prog f caps Pre S) (hok : okFn prog f = true)
    (hp : ∀ pre x, Pre pre x → ∃ ks k, pre = krows ks ∧ x = krow k ∧ ks.length < 2 ^ 32) :
    GSpecN prog true n_slices_Collect_int [.fn f [] (caps.map CapV.val)] [] (RowR 11 fun ks => S (krows ks)) := by
  refine gspecRf _ slices_Collect_int_is (by simp) (by decide) (fun x H' h => rowR_flat h) ?_
  simp -dsimp [slices_Collect_int]
  refine call_open (slices_AppendSeq_spec hi hok hp) ?_ (by simp) ?_ ?_
  · simp
  · intro x H' h id o ho
    simp -dsimp
    obtain ⟨ks, hS, ⟨rfl, rfl, rfl⟩ | ⟨hne, rfl, rfl⟩⟩ := h
    · cases ho
    · simp only [Vm.look] at ho
      split at ho
      · omega
      · cases ho
  · rintro x H' ⟨ks, hS, ⟨rfl, rfl, rfl⟩ | ⟨hne, rfl, rfl⟩⟩
    · simp -dsimp
      exact ⟨[2], _, _, ⟨_, hS, .inl ⟨rfl, rfl, rfl⟩⟩, by simp -dsimp⟩
    · simp -dsimp
      exact ⟨[2], _, _, ⟨_, hS, .inr ⟨hne, rfl, rfl⟩⟩, by simp -dsimp⟩
theorem sorted_same {ks L : List Int} (h1 : ks.Nodup) (h2 : ∀ j, j ∈ ks ↔ j ∈ L) (hL : L.Pairwise (· < ·)) : sortI ks = L := by
  have hp : (sortI ks).Perm L := by
    refine (List.mergeSort_perm ks _).trans ?_
    refine (List.perm_ext_iff_of_nodup h1 (hL.imp fun h => by omega)).2 h2
  refine List.Perm.eq_of_pairwise (le := fun a b : Int => a ≤ b) (fun a b _ _ h1 h2 => by omega) ?_ (hL.imp fun h => by omega) hp
  have := List.pairwise_mergeSort (le := fun x y : Int => decide (x ≤ y)) (fun a b c h1 h2 => by simp at *; omega) (fun a b => by simp; omega) ks
  exact this.imp fun h => by simpa using h
theorem slices_Sort_spec (xs : List Int) (hl : xs.length < 2 ^ 62) : GSpec prog false n_slices_Sort_int_int [.sl 1000 1 0 xs.length] [(1000, .list 1 (intsC xs))] (.tup []) [(1000, .list 1 (intsC (sortI xs)))] :=
  gspec_rowF sortI (fun l => List.length_mergeSort _) (by simp [sortI]) (fun blk off cap zs w hH hb hs => Go.Proofs.Try.slices_Sort_int blk off cap zs w hH hb hs) (fun p cap w => Go.Proofs.Any.slices_Sort_int_none Go.Proofs.Try.lays189 p cap w) xs hl
theorem slices_Sort_nil : GSpec prog true n_slices_Sort_int_int [.iv (.lst 1 [])] [] (.tup []) [] :=
  gspec_none fun p cap w => Go.Proofs.Any.slices_Sort_int_none Go.Proofs.Try.lays189 p cap w
/-- a slot that holds a slice that is nil may as well hold an empty row of one's own -/
theorem le_ownT {s : St} {t sz id : Nat} (h : s.get t = .nil sz) (hno : Vm.look s.hp id = none) (hid : id < 1000) : Le s ((s.add id (.list sz [])).set t (.sl id sz 0 0)) := by
  rintro E n a w ⟨ψ, hs⟩
  have h1 := hs.new (o := .list sz []) (p := none) (w' := w) hid hno (Ext.refl w) (fun b k e => by cases e) ⟨fun _ h => (by cases h), .inl ⟨by simp [upd], rfl⟩⟩
  have hψ : upd ψ id none id = none := by simp [upd]
  refine ⟨_, { h1 with frame := fun u => ?_ }⟩
  have hf := h1.frame u
  rw [St.get_set]
  split
  · rename_i e; subst e
    rw [show (s.add id (.list sz [])).get t = .nil sz from h] at hf
    generalize a.tmps.getD t undef = v at hf
    cases hf
    exact .sl0 id sz (.list sz []) 0 (by rw [show ((s.add id (.list sz [])).set t (.sl id sz 0 0)).hp = (s.add id (.list sz [])).hp from rfl, look_add, if_pos rfl]) rfl hψ
  · exact hf
def EndRL (t : Nat) (R : AV → Hp → Prop) (s : St) : Prop := ∃ s1, Le s s1 ∧ EndR t R s1
theorem gspecRL {P : Program} {f : FuncId} {args : List AV} {n t : Nat} {c : VCode} (R : AV → Hp → Prop) (hf : fnV P f = some (n, c, [.tmp t])) (hargs : args.length ≤ n) (hn : n ≤ 999)
    (hR : ∀ x H', R x H' → (∀ id o, Vm.look H' id = some o → o.isLent = false ∧ o.flat) ∧ x.flat = true)
    (h : wpV P c ⟨argFr 0 args, []⟩ ⟨EndRL t R, fun _ _ => False, EndRL t R, fun _ _ => False⟩) : GSpecN P true f args [] R :=
  gspecN_of_vc hf hargs rfl rfl (fun x H' h id o ho => ((hR x H' h).1 id o ho).1) (outs_mono (wpV_sound hn _ _ _ h) fun s h => by
    obtain ⟨s1, h0, D, x, H', h1, h2⟩ := h
    exact ⟨⟨[(t, x)], H'⟩, [x], H', h0.trans h2.le, by simp [resV, St.get, Vm.look], h1, fun _ => rfl, fun _ => ⟨(hR x H' h1).2, fun id o ho => ((hR x H' h1).1 id o ho).2⟩⟩)
theorem slices_Sorted_spec {f : FuncId} {caps : List IV} {Pre : List (List IV) → List IV → Prop} {S : List (List IV) → Prop} (hi : ISpec prog f caps Pre S) (hok : okFn prog f = true)
    (hp : ∀ pre x, Pre pre x → ∃ ks k, pre = krows ks ∧ x = krow k ∧ ks.length < 2 ^ 32) {L : List Int} (hL : ∀ ks, S (krows ks) → sortI ks = L ∧ ks.length < 2 ^ 40) :
    GSpec prog true n_slices_Sorted_int [.fn f [] (caps.map CapV.val)] [] (.sl 11 1 0 L.length) [(11, .list 1 (intsC L))] := by
  refine (gspecRL (fun r K => r = .sl 11 1 0 L.length ∧ K = [(11, .list 1 (intsC L))]) slices_Sorted_int_is (by simp) (by decide) (fun x H' h => ?_) ?_).one (fun _ _ h => h) (fun id o ho => ?_)
  · obtain ⟨rfl, rfl⟩ := h
    refine ⟨fun id o ho => ?_, rfl⟩
    simp only [Vm.look] at ho
    split at ho
    · cases ho
      refine ⟨rfl, fun x hx y hy => ?_⟩
      obtain ⟨k, _, rfl⟩ := List.mem_map.1 hx
      simp at hy; subst hy; rfl
    · cases ho
  rotate_left
  · simp only [Vm.look] at ho
    split at ho
    · cases ho; rfl
    · cases ho
  simp -dsimp [slices_Sorted_int]
  refine call_open (slices_Collect_spec hi hok hp) ?_ (by simp) ?_ ?_
  · simp
  · intro x H' h id o ho
    simp -dsimp
    obtain ⟨ks, hS, ⟨rfl, rfl, rfl⟩ | ⟨hne, rfl, rfl⟩⟩ := h
    · cases ho
    · simp only [Vm.look] at ho
      split at ho
      · omega
      · cases ho
  · rintro x H' ⟨ks, hS, ⟨rfl, rfl, rfl⟩ | ⟨hne, rfl, rfl⟩⟩
    · simp -dsimp
      refine call_pure slices_Sort_nil (by simp) (by simp) ?_
      obtain ⟨hL1, _⟩ := hL [] hS
      have hL0 : L = [] := by rw [← hL1]; simp [sortI]
      subst hL0
      simp -dsimp
      refine ⟨_, le_ownT (t := 2) (sz := 1) (id := 11) (by simp) (by simp) (by decide), [2], _, _, ⟨rfl, rfl⟩, ?_⟩
      simp -dsimp [St.add, St.set_mk, intsC]
    · obtain ⟨hL1, hL2⟩ := hL ks hS
      simp -dsimp
      have hs : GSpec prog false n_slices_Sort_int_int [.sl 11 1 0 ks.length] [(11, .list 1 (intsC ks))] (.tup []) [(11, .list 1 (intsC (sortI ks)))] := (slices_Sort_spec ks (by omega)).ren (Ren.swaps [(1000, 11)]) rfl
      rw [hL1] at hs
      have hll : ks.length = L.length := by rw [← hL1]; exact (List.length_mergeSort _).symm
      refine call_mut hs rfl (by simp) (by simp) (by simp) (by simp) (by simp) (by simp [Ob.le, Ob.dim, hll]) (by simp) ?_
      simp -dsimp
      refine ⟨_, Le.refl _, [2], _, _, ⟨rfl, rfl⟩, ?_⟩
      simp -dsimp [hll]
end Go.Rt
end

/- Rows that are built from nil; open transactions as data. -/
section
namespace Go.Vm
/-- a cell that holds a slice that is nil may as well hold an empty row of one's own -/
theorem le_own {s : St} {j i sz id : Nat} {cs : List AV} (h : look s.hp j = some (.box cs)) (hi : cs[i]? = some (.nil sz)) (hno : look s.hp id = none) (hid : id < 1000) :
    Le s ((s.add id (.list sz [])).add j (.box (cs.set i (.sl id sz 0 0)))) := by
  rintro E n a w ⟨ψ, hs⟩
  have h1 := hs.new (o := .list sz []) (p := none) (w' := w) hid hno (Ext.refl w) (fun b k e => by cases e) ⟨fun _ h => (by cases h), .inl ⟨by simp [upd], rfl⟩⟩
  have hj : j ≠ id := by rintro rfl; rw [hno] at h; cases h
  have hl : look (s.add id (.list sz [])).hp j = some (.box cs) := by rw [look_add, if_neg (Ne.symm hj)]; exact h
  obtain ⟨b, c, e, g1, g2, g3, g4⟩ := h1.obs j _ hl
  have hψ : upd ψ id none id = none := by simp [upd]
  refine ⟨_, h1.chg (o' := .box (cs.set i (.sl id sz 0 0))) hl (Ob.le_none rfl) rfl (fun h => by cases h) g1 (fun _ _ => rfl) rfl ⟨rfl, rfl, rfl⟩ fun hm _ => ⟨b, c, e, g1, g2, by simpa using g3, fun k x hx => ?_⟩⟩
  rw [List.getElem?_set] at hx
  split at hx
  · rename_i e1
    subst e1
    split at hx
    · simp only [Option.some.injEq] at hx
      subst hx
      have := g4 i _ hi
      generalize c.getD i undef = v at this
      cases this
      exact .sl0 id sz (.list sz []) 0 (by rw [look_add, if_neg hj, look_add, if_pos rfl]) rfl hψ
    · cases hx
  · exact hm x _ (g4 k x hx)
/-- a loop that counts up to a bound, entered by whatever step -/
theorem loop_idxL {P : Program} {c : VCode} {s : St} {O : Outs} (D' : List Nat) (n : Nat) (S : Nat → St) (Q : Nat → Prop) (h0 : Le s (S 0)) (q0 : Q 0)
    (hs : ∀ i, i ≤ n → Q i → wpV P c (S i) { O with n := fun s2 => i < n ∧ LeTo D' s2 (S (i + 1)) ∧ Q (i + 1) }) : loopW P c s O := by
  refine ⟨fun k s => ∃ i, i ≤ n ∧ k = n - i ∧ s = S i ∧ Q i, ⟨_, _, h0, 0, Nat.zero_le _, rfl, rfl, q0⟩, ?_⟩
  rintro k s' ⟨i, hi, rfl, rfl, hq⟩
  refine wpV_mono c (O := { O with n := fun s2 => i < n ∧ LeTo D' s2 (S (i + 1)) ∧ Q (i + 1) }) (fun s2 h => ?_) (fun _ _ h => h) (fun _ h => h) (fun _ _ h => h) (hs i hi hq)
  obtain ⟨hlt, hle, hq'⟩ := h
  exact ⟨_, _, by omega, hle.le, i + 1, hlt, rfl, rfl, hq'⟩
end Go.Vm
namespace Go.Rt
open Go.Vm
/-- a set of numbers as a map -/
def gT (l : List Int) : List Value → Option (List IV)
  | [.int .i64 t] => if t ∈ l then some [ci 1] else none
  | _ => none
theorem gset_gT (l : List Int) (t : Int) : gset (gT l) [.int .i64 t] (some [ci 1]) = gT (l ++ [t]) := by
  funext q
  unfold gset
  split
  · rename_i e; subst e; simp [gT]
  · rename_i e
    unfold gT
    split
    · rename_i u
      have : u ≠ t := fun h => e (by rw [h])
      simp [this]
    · rfl
theorem keys_gT {l L : List Int} (h : ∀ t, t ∈ l ↔ t ∈ L) : KeysOf (gT l) L := by
  intro q
  unfold gT
  split
  · rename_i t
    by_cases ht : t ∈ l
    · rw [if_pos ht]; exact ⟨fun _ => ⟨t, (h t).1 ht, rfl⟩, fun _ => by simp⟩
    · rw [if_neg ht]
      refine ⟨fun h => absurd rfl h, ?_⟩
      rintro ⟨k, hk, e⟩
      simp only [List.cons.injEq, Value.int.injEq, true_and, and_true] at e
      subst e
      exact absurd ((h t).2 hk) ht
  · rename_i hq
    refine ⟨fun h => absurd rfl h, ?_⟩
    rintro ⟨k, hk, rfl⟩
    exact absurd rfl (hq k)
/-- who is begun within these events, and never ended -/
def begs (es l : List Ev) : List Int := (l.filter fun e => decide (e.kind = 1 ∧ ended es e.txn = 0)).map Ev.txn
theorem begs_next {es l : List Ev} {i : Nat} {e : Ev} (h : l[i]? = some e) : begs es (l.take (i + 1)) = if e.kind = 1 ∧ ended es e.txn = 0 then begs es (l.take i) ++ [e.txn] else begs es (l.take i) := by
  unfold begs
  rw [List.take_add_one, h, List.filter_append]
  by_cases hz : e.kind = 1 ∧ ended es e.txn = 0 <;> simp [hz]
theorem mem_insU {l : List Int} {t x : Int} : x ∈ insU l t ↔ x ∈ l ∨ x = t := by
  unfold insU
  split
  · rename_i h
    have := List.mem_of_getElem? h
    exact ⟨.inl, fun h => h.elim id fun e => e ▸ this⟩
  · simp only [List.mem_append, List.mem_cons]
    have : x ∈ l ↔ x ∈ l.take (posU t l) ∨ x ∈ l.drop (posU t l) := by
      rw [← List.mem_append, List.take_append_drop]
    rw [this]
    constructor
    · rintro (h | h | h)
      · exact .inl (.inl h)
      · exact .inr h
      · exact .inl (.inr h)
    · rintro ((h | h) | h)
      · exact .inl h
      · exact .inr (.inr h)
      · exact .inr (.inl h)
theorem mem_txns {es : List Ev} {t : Int} : t ∈ txns es ↔ ∃ e ∈ es, e.kind = 1 ∧ e.txn = t := by
  have key : ∀ (es : List Ev) (l : List Int), t ∈ es.foldl stepT l ↔ t ∈ l ∨ ∃ e ∈ es, e.kind = 1 ∧ e.txn = t := by
    intro es
    induction es with
    | nil => intro l; simp
    | cons e es ih =>
      intro l
      rw [List.foldl_cons, ih]
      unfold stepT
      split
      · rename_i hk
        rw [mem_insU]
        constructor
        · rintro ((h | h) | ⟨x, h1, h2⟩)
          · exact .inl h
          · exact .inr ⟨e, List.mem_cons_self, hk, h.symm⟩
          · exact .inr ⟨x, List.mem_cons_of_mem _ h1, h2⟩
        · rintro (h | ⟨x, h1, h2, h3⟩)
          · exact .inl (.inl h)
          · rcases List.mem_cons.1 h1 with rfl | h1
            · exact .inl (.inr h3.symm)
            · exact .inr ⟨x, h1, h2, h3⟩
      · rename_i hk
        constructor
        · rintro (h | ⟨x, h1, h2⟩)
          · exact .inl h
          · exact .inr ⟨x, List.mem_cons_of_mem _ h1, h2⟩
        · rintro (h | ⟨x, h1, h2, h3⟩)
          · exact .inl h
          · rcases List.mem_cons.1 h1 with rfl | h1
            · exact absurd h2 hk
            · exact .inr ⟨x, h1, h2, h3⟩
  simpa [txns] using key es []
theorem mem_begs {es l : List Ev} {t : Int} : t ∈ begs es l ↔ (∃ e ∈ l, e.kind = 1 ∧ e.txn = t) ∧ ended es t = 0 := by
  simp only [begs, List.mem_map, List.mem_filter, decide_eq_true_eq]
  constructor
  · rintro ⟨e, ⟨h1, h2, h3⟩, rfl⟩; exact ⟨⟨e, h1, h2, rfl⟩, h3⟩
  · rintro ⟨⟨e, h1, h2, rfl⟩, h3⟩; exact ⟨e, ⟨h1, h2, h3⟩, rfl⟩
theorem begs_opens (es : List Ev) (t : Int) : t ∈ begs es es ↔ t ∈ opens es (txns es) := by
  rw [mem_begs, ← mem_txns]
  simp [opens]
theorem insU_sorted {l : List Int} {t : Int} (h : l.Pairwise (· < ·)) : (insU l t).Pairwise (· < ·) := by
  unfold insU
  split
  · exact h
  · rename_i hne
    have h1 : ∀ x ∈ l.take (posU t l), x < t := by
      intro x hx
      obtain ⟨i, hi⟩ := List.mem_iff_getElem?.1 hx
      rw [List.getElem?_take] at hi
      split at hi
      · rename_i hlt; exact posU_lt hlt hi
      · cases hi
    have h2 : ∀ x ∈ l.drop (posU t l), t < x := by
      intro x hx
      have hd : (l.drop (posU t l)).Pairwise (· < ·) := h.sublist (List.drop_sublist _ _)
      cases hdr : l.drop (posU t l) with
      | nil => rw [hdr] at hx; cases hx
      | cons y r =>
        have hy : l[posU t l]? = some y := by
          have : (l.drop (posU t l))[0]? = some y := by rw [hdr]; rfl
          simpa using this
        have h3 : t < y := by
          have := posU_at hy
          have : y ≠ t := fun e => hne (by rw [hy, e])
          omega
        rw [hdr] at hx hd
        rcases List.mem_cons.1 hx with rfl | hx
        · exact h3
        · have := (List.pairwise_cons.1 hd).1 x hx; omega
    refine List.pairwise_append.2 ⟨h.sublist (List.take_sublist _ _), List.pairwise_cons.2 ⟨h2, h.sublist (List.drop_sublist _ _)⟩, fun a ha b hb => ?_⟩
    rcases List.mem_cons.1 hb with rfl | hb
    · exact h1 a ha
    · have := h1 a ha; have := h2 b hb; omega
theorem txns_sorted (es : List Ev) : (txns es).Pairwise (· < ·) := by
  have key : ∀ (es : List Ev) (l : List Int), l.Pairwise (· < ·) → (es.foldl stepT l).Pairwise (· < ·) := by
    intro es
    induction es with
    | nil => intro l h; exact h
    | cons e es ih =>
      intro l h
      refine ih _ ?_
      unfold stepT
      split
      · exact insU_sorted h
      · exact h
  exact key es [] List.Pairwise.nil
theorem opens_sorted (es : List Ev) : (opens es (txns es)).Pairwise (· < ·) := (txns_sorted es).sublist List.filter_sublist
theorem nodup_le : ∀ {ks L : List Int}, ks.Nodup → (∀ j ∈ ks, j ∈ L) → ks.length ≤ L.length
  | [], _, _, _ => Nat.zero_le _
  | k :: ks, L, h, hs => by
    have hk := hs k List.mem_cons_self
    have h2 := List.nodup_cons.1 h
    have := nodup_le (ks := ks) (L := L.erase k) h2.2 fun j hj => (List.mem_erase_of_ne (fun (e : j = k) => h2.1 (by rw [← e]; exact hj))).2 (hs j (List.mem_cons_of_mem _ hj))
    rw [List.length_erase_of_mem hk] at this
    have := List.length_pos_of_mem hk
    simp only [List.length_cons]
    omega
/-- the keys of such a map, sorted -/
theorem Sorted_gT {l L : List Int} (h : ∀ t, t ∈ l ↔ t ∈ L) (hL : L.Pairwise (· < ·)) (hlen : L.length < 2 ^ 32) :
    GSpec prog true n_slices_Sorted_int [.fn n_maps_Keys_map_int_int_int_int_1 [] [.val (.pt [.mp skS (gT l)])]] [] (.sl 11 1 0 L.length) [(11, .list 1 (intsC L))] := by
  refine slices_Sorted_spec (caps := [.pt [.mp skS (gT l)]]) (keys1_ispec (keys_gT h)) (by kernel_rfl) ?_ ?_
  · rintro pre x ⟨ks, k, rfl, rfl, h1, h2⟩
    refine ⟨ks, k, rfl, rfl, ?_⟩
    have := nodup_le h1 h2
    simp at this
    omega
  · rintro ks ⟨ks', e, h1, h2⟩
    have e : ks = ks' := by have := congrArg intsOf e; rwa [intsOf_krows, intsOf_krows] at this
    subst e
    exact ⟨sorted_same h1 h2 hL, by have := nodup_le h1 fun j hj => (h2 j).1 hj; omega⟩
theorem maps_Keys_at (g : List Value → Option (List IV)) (d : Nat) : GSpec prog false n_maps_Keys_map_int_int_int_int [.iv (.mp skS g)] [] (.fn n_maps_Keys_map_int_int_int_int_1 [] [.ptr d 0]) [(d, .box [.iv (.mp skS g)])] := by
  have h := ((maps_Keys_spec g).one (fun _ _ h => h) (fun id o ho => by
    simp only [Vm.look] at ho
    split at ho
    · cases ho; rfl
    · cases ho)).ren (Ren.swap 1 d) (by simp [AV.shal, AV.shal2, AV.shal1, Ob.shal])
  have e : (Ren.swap 1 d).to 1 = d := by simp [Ren.swap, swapN]
  simpa [Hp.ren, AV.ren, AV.ren2, AV.ren1, Ob.ren, CapV.ren, e] using h
end Go.Rt
end
