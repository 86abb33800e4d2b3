/- Contracts of functions of the program, and what they lean on. Conditions: those of each theorem. -/
import Derived.Test.YtiabgaimhgifeaaPA
import Derived.Test.YtiabgaimhgifeaaPH
import Derived.Test.YtiabgaimhgifeaaPI
import Derived.Test.YtiabgaimhgifeaaPC
import Derived.Test.YtiabgaimhgifeaaPE
import Derived.Test.YtiabgaimhgifeaaPF
import Derived.SizedLaws

set_option linter.unusedVariables false
set_option linter.unusedSimpArgs false

/- Contracts: copies; rows that are the same. -/
section
namespace Go.Rt
open Go.Vm

theorem Clone_ints {xs : List (List IV)} (hl : xs.length < 2 ^ 32) : GSpec prog false n_slices_Clone_int_int [.iv (.lst 1 xs)] [] (.iv (.lst 1 xs)) [] := by
  refine gspec1L [2, 5] slices_Clone_int_int_is (by simp) (by decide) ?_
  by_cases h : xs = []
  · subst h
    simp -dsimp [slices_Clone_int_int]
  · simp -dsimp [slices_Clone_int_int, h]
    omega
theorem Clone_bools {xs : List (List IV)} (hl : xs.length ≤ 140737488355328) : GSpec prog false n_slices_Clone_bool_bool [.iv (.lst 1 xs)] [] (.iv (.lst 1 xs)) [] := by
  refine gspec1L [2, 5] slices_Clone_bool_bool_is (by simp) (by decide) ?_
  by_cases h : xs = []
  · subst h
    simp -dsimp [slices_Clone_bool_bool]
  · simp -dsimp [slices_Clone_bool_bool, h]
    omega
theorem Clone_refs {xs : List (List IV)} (hl : xs.length < 2 ^ 32) : GSpec prog false n_slices_Clone_api_Ref_api_Ref [.iv (.lst 5 xs)] [] (.iv (.lst 5 xs)) [] := by
  refine gspec1L [2, 5] slices_Clone_api_Ref_api_Ref_is (by simp) (by decide) ?_
  by_cases h : xs = []
  · subst h
    simp -dsimp [slices_Clone_api_Ref_api_Ref]
  · simp -dsimp [slices_Clone_api_Ref_api_Ref, h]
    omega
theorem Clone_values {xs : List (List IV)} (hl : xs.length < 2 ^ 32) : GSpec prog false n_slices_Clone_api_Row_api_Value [.iv (.lst 3 xs)] [] (.iv (.lst 3 xs)) [] := by
  refine gspec1L [2, 5] slices_Clone_api_Row_api_Value_is (by simp) (by decide) ?_
  by_cases h : xs = []
  · subst h
    simp -dsimp [slices_Clone_api_Row_api_Value]
  · simp -dsimp [slices_Clone_api_Row_api_Value, h]
    omega
theorem row_Clone_spec {xs : List (List IV)} (hl : xs.length < 2 ^ 32) : GSpec prog false n_row_Clone [.iv (.lst 3 xs)] [] (.iv (.lst 3 xs)) [] := by
  refine gspec1L [2] row_Clone_is (by simp) (by decide) ?_
  simp -dsimp [row_Clone]
  refine call_mut (Clone_values hl) rfl (by simp) (by simp) (by simp) (by simp) (by simp) (by simp) (by simp) ?_
  simp -dsimp
theorem Clone_preds_nil : GSpec prog true n_slices_Clone_api_Pred_api_Pred [.iv (.lst 9 [])] [] (.iv (.lst 9 [])) [] := by
  refine gspec1D [2, 5] slices_Clone_api_Pred_api_Pred_is (by simp) (by decide) rfl ?_
  simp -dsimp [slices_Clone_api_Pred_api_Pred]
theorem Clone_preds {xs : List (List IV)} (hl : xs.length < 2 ^ 32) (h : xs ≠ []) (d : Nat) : GSpec prog false n_slices_Clone_api_Pred_api_Pred [.iv (.lst 9 xs)] [] (.sl d 9 0 xs.length) [(d, .list 9 xs)] := by
  have : GSpec prog false n_slices_Clone_api_Pred_api_Pred [.iv (.lst 9 xs)] [] (.sl 5 9 0 xs.length) [(5, .list 9 xs)] := by
    refine gspecNL 5 9 xs slices_Clone_api_Pred_api_Pred_is (by simp) (by decide) ?_
    simp -dsimp [slices_Clone_api_Pred_api_Pred, h]
    omega
  exact this.freshL d rfl fun ρ => rfl

theorem ref02_Same_spec (a b : List Vl) (hl : a.length < 2 ^ 63) : GSpec prog true n_ratlineref02_Same [.iv (.lst 3 (rowC a)), .iv (.lst 3 (rowC b))] [] (vb (decide (a = b))) [] := by
  refine gspec1 ratlineref02_Same_is (by simp) (by decide) rfl ?_
  by_cases hlen : a.length = b.length
  · simp -dsimp [ratlineref02_Same, hlen]
    refine loop_idx [] [] a.length (fun i => ⟨[(5, vi i), (0, .iv (.lst 3 (rowC a))), (1, .iv (.lst 3 (rowC b)))], []⟩) (fun i => a.take i = b.take i) ?_ rfl ?_
    · simp
    · intro i hi hQ
      by_cases hil : i < a.length
      · have hil2 : ¬a.length ≤ i := by omega
        obtain ⟨x, hx⟩ := some_at hil
        obtain ⟨y, hy⟩ : ∃ y, b[i]? = some y := some_at (by omega)
        have hw := wrap_in (n := (i : Int) + 1) (by omega)
        simp -dsimp [ratlineref02_Same_l8, hil2, hx, hy, hw]
        refine fun _ => ⟨fun h hab => ?_, fun h1 h2 h3 => ⟨hil, ?_⟩⟩
        · subst hab
          rw [hx] at hy; cases hy
          rcases h with h | h | h <;> exact h rfl
        · have hxy : x = y := Vl.eq_iff.2 ⟨h1, h2, h3⟩
          rw [List.take_add_one, List.take_add_one, hQ, hx, hy, hxy]
      · have hie : i = a.length := by omega
        subst hie
        have hab : a = b := by rw [List.take_length, hlen, List.take_length] at hQ; exact hQ
        simp -dsimp [ratlineref02_Same_l8, hab]
  · have hab : ¬a = b := fun h => hlen (by rw [h])
    have hlen2 : ¬(a.length : Int) = b.length := by omega
    simp -dsimp [ratlineref02_Same, hlen, hlen2, hab]
end Go.Rt
end

/- Contracts: what is the same as itself; predicates that are copied. -/
section
namespace Go.Rt
open Go.Vm

set_option maxHeartbeats 4000000 in
theorem ref03_Same_refl {p : Pd} (h : p.Ok) : GSpec prog true n_ratlineref03_Same [p.av, p.av] [] (vb true) [] := by
  induction h with
  | mk p hl hv hw hq ih =>
    refine gspec1 ratlineref03_Same_is (by simp [Pd.av_eq]) (by decide) rfl ?_
    simp -dsimp [ratlineref03_Same, Pd.av_eq]
    refine loop_idx [] [] p.l.length (fun i => ⟨[(5, vi i), (2, .ptr 2 0), (3, .ptr 3 0)], [(3, .box (p.cells.map .iv)), (2, .box (p.cells.map .iv))]⟩) (fun _ => True) ?_ trivial ?_
    · simp [Pd.cells_eq p]
    · intro i hi _
      by_cases hil : i < p.l.length
      · have hil2 : ¬p.l.length ≤ i := by omega
        obtain ⟨q, hqi⟩ := some_at hil
        have hw' := wrap_in (n := (i : Int) + 1) (by omega)
        simp -dsimp [ratlineref03_Same_l9, Pd.cells_eq p, hil2, hqi]
        intro _
        refine ⟨by rw [Pd.cells_eq]; simp, ?_⟩
        refine call_pure (ih q (List.mem_of_getElem? hqi)) (by simp [Pd.av_eq, Pd.cells_eq q]) (by simp [Pd.av_eq]) ?_
        simp -dsimp [hw', hil]
      · have hie : i = p.l.length := by omega
        subst hie
        simp -dsimp [ratlineref03_Same_l9, Pd.cells_eq p]

theorem box_at {f : FuncId} {args : List AV} {j : Nat} {cs : List IV} (h : GSpec prog false f args [] (.agg (cs.map .iv)) [(j, .box (cs.map .iv))]) (d : Nat) (hs : args.all AV.shal = true) (ha : ∀ ρ : Nat → Nat, args.map (AV.ren ρ) = args) :
    GSpec prog false f args [] (.agg (cs.map .iv)) [(d, .box (cs.map .iv))] := by
  have := h.ren (Ren.swap j d) (by simp [hs, AV.shal, AV.shal2, AV.shal1, Ob.shal])
  rw [ha] at this
  have e : (Ren.swap j d).to j = d := by simp [Ren.swap, swapN]
  have e2 : AV.ren1 (Ren.swap j d).to ∘ AV.iv = AV.iv := funext fun _ => rfl
  simpa [Hp.ren, AV.ren, AV.ren2, AV.ren1, Ob.ren, e, e2] using this

/-- a predicate with few parts -/
inductive Pd.Few : Pd → Prop where
  | mk (p : Pd) (h : p.l.length < 2 ^ 32) (hl : ∀ q, q ∈ p.l → q.Few) : p.Few

end Go.Rt
end

/- Contracts: predicates that are copied. -/
section
namespace Go.Rt
open Go.Vm

abbrev zPd : List AV := [.iv (ci 0), .iv (ci 0), .iv (cb false), .iv (ci 0), .iv (.v (.string ⟨#[]⟩)), .iv (cb false), .iv (ci 0), .iv (.v (.string ⟨#[]⟩)), .nil 9]
abbrev xPd (p : Pd) (x : AV) : List AV := [.iv (ci p.op), .iv (ci p.col), .iv (cb p.v.text), .iv (ci p.v.n), .iv (.v (.string p.v.s)), .iv (cb p.w.text), .iv (ci p.w.n), .iv (.v (.string p.w.s)), x]
set_option maxHeartbeats 4000000 in
theorem pred_Clone_spec {p : Pd} (h : p.Few) : ∀ d : Nat, GSpec prog false n_pred_Clone [p.av] [] (.agg (p.cells.map .iv)) [(d, .box (p.cells.map .iv))] := by
  induction h with
  | mk p hl hq ih =>
    intro d
    refine box_at (j := 2) ?_ d (by simp [Pd.av_eq, AV.shal, AV.shal2, AV.shal1]) (fun ρ => by simp [Pd.av_eq, AV.ren, AV.ren2, AV.ren1])
    refine gspecCL [6, 22, 1] 2 p.cells (by rw [Pd.cells_eq]; rfl) pred_Clone_is (by simp [Pd.av_eq]) (by decide) ?_
    by_cases hn : p.l = []
    · simp -dsimp [pred_Clone, Pd.av_eq, hn]
      refine call_pure Clone_preds_nil (by simp) (by simp) ?_
      simp -dsimp
      refine loop_idx [] [] 0 (fun i => ⟨[(11, vi i), (10, vi (0 : Nat)), (1, .ptr 1 0), (2, .ptr 2 0)], [(1, .box (xPd p (.iv (.lst 9 [])))), (2, .box zPd)]⟩) (fun _ => True) ?_ trivial ?_
      · simp
      · intro i hi _
        have hi0 : i = 0 := by omega
        subst hi0
        simp -dsimp [pred_Clone_l7, Pd.cells_eq p, hn]
    · simp -dsimp [pred_Clone, Pd.av_eq]
      have hne : p.l.map Pd.cells ≠ [] := by simpa using hn
      refine call_newL (Clone_preds (xs := p.l.map Pd.cells) (by simpa using hl) hne 6) (by decide) rfl (by simp) (by simp) ?_
      simp -dsimp
      refine loop_idx [] [22] p.l.length (fun i => ⟨[(11, vi i), (10, vi p.l.length), (1, .ptr 1 0), (2, .ptr 2 0)], [(1, .box (xPd p (.sl 6 9 0 p.l.length))), (6, .list 9 (p.l.map Pd.cells)), (2, .box zPd)]⟩) (fun _ => True) ?_ trivial ?_
      · simp
      · intro i hi _
        by_cases hil : i < p.l.length
        · have hil2 : ¬p.l.length ≤ i := by omega
          obtain ⟨q, hqi⟩ := some_at hil
          have hw' := wrap_in (n := (i : Int) + 1) (by omega)
          simp -dsimp [pred_Clone_l7, hil2, hqi]
          intro _
          have hset : (p.l.map Pd.cells).set i q.cells = p.l.map Pd.cells := by
            refine List.ext_getElem? fun j => ?_
            rw [List.getElem?_set]
            by_cases hij : i = j
            · subst hij; rw [if_pos rfl, if_pos (by simpa using hil), List.getElem?_map, hqi]; rfl
            · rw [if_neg hij]
          refine ⟨hil, by rw [Pd.cells_eq]; simp, ?_, ?_⟩
          all_goals
            refine call_newC (ih q (List.mem_of_getElem? hqi) 22) (by decide) rfl (by simp [Pd.av_eq, Pd.cells_eq q]) (by simp [Pd.av_eq]) ?_
            simp -dsimp [hqi, hset, hw', Pd.cells_eq q]
            refine ⟨hil, ?_⟩
            rw [Pd.cells_eq q] at hset
            exact hset
        · have hie : i = p.l.length := by omega
          subst hie
          simp -dsimp [pred_Clone_l7, Pd.cells_eq p]
          exact List.take_of_length_le (by simp)
end Go.Rt
end

/- Contracts: an event is the same as itself. -/
section
namespace Go.Rt
open Go.Vm

set_option maxHeartbeats 4000000 in
theorem ref18_Event_refl {x : Ev} (hp : x.pred.Ok) (hr : x.refs.length < 2 ^ 63) (hw : x.row.length < 2 ^ 63) : GSpec prog true n_ratlineref18_Event [.agg (x.cells.map .iv), .agg (x.cells.map .iv)] [] (vb true) [] := by
  refine gspec1 ratlineref18_Event_is (by simp) (by decide) rfl ?_
  simp -dsimp [ratlineref18_Event, Ev.cells_eq x]
  refine loop_idx [] [] x.refs.length (fun i => ⟨[(5, vi i), (2, .ptr 2 0), (3, .ptr 3 0)], [(3, .box (x.cells.map .iv)), (2, .box (x.cells.map .iv))]⟩) (fun _ => True) ?_ trivial ?_
  · simp [Ev.cells_eq x]
  · intro i hi _
    by_cases hil : i < x.refs.length
    · have hil2 : ¬x.refs.length ≤ i := by omega
      obtain ⟨q, hqi⟩ := some_at hil
      have hw' := wrap_in (n := (i : Int) + 1) (by omega)
      simp -dsimp [ratlineref18_Event_l8, Ev.cells_eq x, hil2, hqi, Rf.cells_eq q, hw']
    · have hie : i = x.refs.length := by omega
      subst hie
      simp -dsimp [ratlineref18_Event_l8, Ev.cells_eq x]
      refine call_pure (ref03_Same_refl hp) (by simp [Pd.av_eq]) (by simp [Pd.av_eq]) ?_
      simp -dsimp
      refine call_pure (ref02_Same_spec x.row x.row (by omega)) (by simp) (by simp) ?_
      simp -dsimp
end Go.Rt
end

/- Contracts: a history is the same as itself. -/
section
namespace Go.Rt
open Go.Vm

set_option maxHeartbeats 8000000 in
theorem ref18_Same_refl {h : Hs} (hok : h.Ok) : GSpec prog true n_ratlineref18_Same [h.av, h.av] [] (vb true) [] := by
  refine gspec1 ratlineref18_Same_is (by simp [Hs.av]) (by decide) rfl ?_
  simp -dsimp [ratlineref18_Same, Hs.av]
  refine loop_idx [] [] h.tables.length (fun i => ⟨[(5, vi i), (2, .ptr 2 0), (3, .ptr 3 0)], [(3, .box (h.cells.map .iv)), (2, .box (h.cells.map .iv))]⟩) (fun _ => True) ?_ trivial ?_
  · simp [Hs.cells]
  · intro i hi _
    by_cases hil : i < h.tables.length
    · have hil2 : ¬h.tables.length ≤ i := by omega
      obtain ⟨t, ht⟩ := some_at hil
      have htl := hok.tb t (List.mem_of_getElem? ht)
      have hw' := wrap_in (n := (i : Int) + 1) (by have := hok.tables; omega)
      simp -dsimp [ratlineref18_Same_l16, Hs.cells, hil2, ht, tbIV]
      intro _
      refine loop_idx [] [] t.length (fun k => ⟨[(8, vi k), (6, .iv (.lst 1 (boolsC t))), (7, .iv (.lst 1 (boolsC t))), (5, vi i), (2, .ptr 2 0), (3, .ptr 3 0)], [(3, .box (h.cells.map .iv)), (2, .box (h.cells.map .iv))]⟩) (fun _ => True) ?_ trivial ?_
      · simp [Hs.cells]
      · intro k hk _
        by_cases hkl : k < t.length
        · have hkl2 : ¬t.length ≤ k := by omega
          obtain ⟨b, hb⟩ := some_at hkl
          have hkw := wrap_in (n := (k : Int) + 1) (by omega)
          simp -dsimp [ratlineref18_Same_l14, Hs.cells, hkl2, hb, hkw]
        · have hke : k = t.length := by omega
          subst hke
          simp -dsimp [ratlineref18_Same_l14, Hs.cells, hw', hil]
    · have hie : i = h.tables.length := by omega
      subst hie
      simp -dsimp [ratlineref18_Same_l16, Hs.cells]
      refine loop_idx [] [] h.events.length (fun i => ⟨[(9, vi i), (2, .ptr 2 0), (3, .ptr 3 0)], [(3, .box (h.cells.map .iv)), (2, .box (h.cells.map .iv))]⟩) (fun _ => True) ?_ trivial ?_
      · simp [Hs.cells]
      · intro j hj _
        by_cases hjl : j < h.events.length
        · have hjl2 : ¬h.events.length ≤ j := by omega
          obtain ⟨x, hx⟩ := some_at hjl
          have hxo := hok.ev x (List.mem_of_getElem? hx)
          have hjw := wrap_in (n := (j : Int) + 1) (by have := hok.events; omega)
          simp -dsimp [ratlineref18_Same_l23, Hs.cells, hjl2, hx]
          intro _
          refine call_pure (ref18_Event_refl hxo.pred hxo.refs hxo.row) (by simp [Ev.cells_eq x]) (by simp [Ev.cells_eq x]) ?_
          simp -dsimp [hjw, hjl, Hs.cells]
        · have hje : j = h.events.length := by omega
          subst hje
          simp -dsimp [ratlineref18_Same_l23, Hs.cells]
          refine loop_idx [] [12, 13] h.order.length (fun k => ⟨[(11, vi k), (2, .ptr 2 0), (3, .ptr 3 0)], [(3, .box (h.cells.map .iv)), (2, .box (h.cells.map .iv))]⟩) (fun _ => True) ?_ trivial ?_
          · simp [Hs.cells]
          · intro k hk _
            by_cases hkl : k < h.order.length
            · have hkl2 : ¬h.order.length ≤ k := by omega
              obtain ⟨o, ho⟩ := some_at hkl
              have hol := hok.txns o (List.mem_of_getElem? ho)
              have hkw := wrap_in (n := (k : Int) + 1) (by have := hok.order; omega)
              simp -dsimp [ratlineref18_Same_l37, Hs.cells, hkl2, ho, Ins.cells_eq o]
              intro _
              refine loop_idx [] [] o.txns.length (fun m => ⟨[(14, vi m), (12, .ptr 12 0), (13, .ptr 13 0), (11, vi k), (2, .ptr 2 0), (3, .ptr 3 0)], [(13, .box (o.cells.map .iv)), (12, .box (o.cells.map .iv)), (3, .box (h.cells.map .iv)), (2, .box (h.cells.map .iv))]⟩) (fun _ => True) ?_ trivial ?_
              · simp [Hs.cells, Ins.cells_eq o]
              · intro m hm _
                by_cases hml : m < o.txns.length
                · have hml2 : ¬o.txns.length ≤ m := by omega
                  obtain ⟨y, hy⟩ := some_at hml
                  have hmw := wrap_in (n := (m : Int) + 1) (by omega)
                  simp -dsimp [ratlineref18_Same_l35, Hs.cells, Ins.cells_eq o, hml2, hy, hmw]
                · have hme : m = o.txns.length := by omega
                  subst hme
                  simp -dsimp [ratlineref18_Same_l35, Hs.cells, Ins.cells_eq o, hkw, hkl]
            · have hke : k = h.order.length := by omega
              subst hke
              simp -dsimp [ratlineref18_Same_l37, Hs.cells]
end Go.Rt
end

/- Contracts: all transactions, the document's way. -/
section
namespace Go.Rt
open Go.Vm

/-- where one belongs among others that rise -/
def posU (t : Int) : List Int → Nat
  | [] => 0
  | a :: r => if a < t then posU t r + 1 else 0
def insU (l : List Int) (t : Int) : List Int := if l[posU t l]? = some t then l else l.take (posU t l) ++ t :: l.drop (posU t l)
def stepT (out : List Int) (e : Ev) : List Int := if e.kind = 1 then insU out e.txn else out
def txns (es : List Ev) : List Int := es.foldl stepT []
theorem txns_next {es : List Ev} {i : Nat} {e : Ev} (h : es[i]? = some e) : txns (es.take (i + 1)) = stepT (txns (es.take i)) e := by
  unfold txns
  rw [List.take_add_one, h, List.foldl_append]; rfl
theorem posU_le (t : Int) : ∀ l, posU t l ≤ l.length
  | [] => Nat.le_refl _
  | a :: r => by
    unfold posU
    split
    · have := posU_le t r; simp only [List.length_cons]; omega
    · omega
theorem posU_lt {t : Int} : ∀ {l : List Int} {j : Nat} {x : Int}, j < posU t l → l[j]? = some x → x < t
  | [], j, x, h, _ => by simp [posU] at h
  | a :: r, j, x, h, hx => by
    unfold posU at h
    split at h
    · rename_i ha
      cases j with
      | zero => simp at hx; subst hx; exact ha
      | succ j => exact posU_lt (l := r) (j := j) (by omega) (by simpa using hx)
    · omega
theorem posU_at {t : Int} : ∀ {l : List Int} {x : Int}, l[posU t l]? = some x → ¬x < t
  | [], x, h => by simp [posU] at h
  | a :: r, x, h => by
    unfold posU at h
    split at h
    · exact posU_at (by simpa using h)
    · rename_i ha; simp at h; subst h; exact ha
theorem insU_len (l : List Int) (t : Int) : (insU l t).length ≤ l.length + 1 := by
  unfold insU
  split
  · omega
  · simp only [List.length_append, List.length_cons, List.length_take, List.length_drop]
    have := posU_le t l
    omega
theorem txns_len : ∀ (es : List Ev), (txns es).length ≤ es.length := by
  have : ∀ (es : List Ev) (l : List Int), (es.foldl stepT l).length ≤ l.length + es.length := by
    intro es
    induction es with
    | nil => intro l; simp
    | cons e es ih =>
      intro l
      have := ih (stepT l e)
      have h2 : (stepT l e).length ≤ l.length + 1 := by unfold stepT; split; exact insU_len _ _; omega
      simp only [List.foldl_cons, List.length_cons]
      omega
  intro es
  have := this es []
  simpa [txns] using this
end Go.Rt
end

/- Contracts: all transactions, the document's way. -/
section
namespace Go.Rt
open Go.Vm

set_option maxRecDepth 8000 in
set_option maxHeartbeats 8000000 in
theorem ref18_Txns_spec {h : Hs} (hlen : h.events.length < 2 ^ 32) : GSpec prog false n_ratlineref18_Txns [h.av] [] (.iv (intsIV (txns h.events))) [] := by
  refine gspec1L [2, 3] ratlineref18_Txns_is (by simp [Hs.av]) (by decide) ?_
  simp -dsimp [ratlineref18_Txns, Hs.av, intsIV]
  refine loop_idx [2, 3] [3, 5, 7, 59] h.events.length (fun i => ⟨[(4, vi i), (3, .iv (.lst 1 (intsC (txns (h.events.take i))))), (1, .ptr 1 0)], [(1, .box (h.cells.map .iv))]⟩) (fun _ => True) ?_ trivial ?_
  · simp [Hs.cells, txns, intsC]
  · intro i hi _
    by_cases hil : i < h.events.length
    · have hil2 : ¬h.events.length ≤ i := by omega
      obtain ⟨x, hx⟩ := some_at hil
      have hiw := wrap_in (n := (i : Int) + 1) (by omega)
      have hnx := txns_next hx
      have htl := txns_len (h.events.take i)
      rw [List.length_take] at htl
      generalize txns (h.events.take i) = out at *
      by_cases hk : x.kind = 1
      · have hnx : txns (h.events.take (i + 1)) = insU out x.txn := by rw [hnx]; unfold stepT; rw [if_pos hk]
        simp -dsimp [ratlineref18_Txns_l17, Hs.cells, hil2, hx, Ev.cells_eq x, hk]
        intro _
        have hpl := posU_le x.txn out
        refine loop_idx [] [] (posU x.txn out) (fun k => ⟨[(6, vi k), (5, .ptr 5 0), (4, vi i), (3, .iv (.lst 1 (intsC out))), (1, .ptr 1 0)], [(5, .box (x.cells.map .iv)), (1, .box (h.cells.map .iv))]⟩) (fun _ => True) ?_ trivial ?_
        · simp [Hs.cells, Ev.cells_eq x, hk]
        · intro k hk2 _
          by_cases hkl : k < posU x.txn out
          · have hko : ¬out.length ≤ k := by omega
            obtain ⟨y, hy⟩ : ∃ y, out[k]? = some y := some_at (by omega)
            have hyl := posU_lt hkl hy
            have hkw := wrap_in (n := (k : Int) + 1) (by omega)
            simp -dsimp [ratlineref18_Txns_l9, Hs.cells, Ev.cells_eq x, hk, hko, hy, hyl, hkw, hkl]
          · have hke : k = posU x.txn out := by omega
            subst hke
            by_cases hko : out.length ≤ posU x.txn out
            · simp -dsimp [ratlineref18_Txns_l9, Hs.cells, Ev.cells_eq x, hk, hko]
              have hpe : posU x.txn out = out.length := by omega
              refine ⟨by omega, by omega, by omega, by omega, by omega, by omega, by omega, by omega, hil, hiw, ?_⟩
              rw [hnx]
              unfold insU
              rw [if_neg (by rw [List.getElem?_eq_none hko]; simp), hpe, List.take_length, List.drop_length, List.take_of_length_le (by simp), List.take_of_length_le (by simp)]
              simp [intsC]
            · obtain ⟨y, hy⟩ : ∃ y, out[posU x.txn out]? = some y := some_at (by omega)
              have hyl := posU_at hy
              by_cases hyt : y = x.txn
              · simp -dsimp [ratlineref18_Txns_l9, Hs.cells, Ev.cells_eq x, hk, hko, hy, hyl, hyt]
                intro _
                refine ⟨hil, hiw, ?_⟩
                rw [hnx]
                unfold insU
                rw [if_pos (by rw [hy, hyt])]
              · simp -dsimp [ratlineref18_Txns_l9, Hs.cells, Ev.cells_eq x, hk, hko, hy, hyl, hyt]
                intro _
                refine ⟨by omega, by omega, by omega, by omega, by omega, by omega, by omega, by omega, hil, hiw, ?_⟩
                rw [hnx]
                unfold insU
                rw [if_neg (by rw [hy]; simpa using hyt), List.take_of_length_le (by simp; omega), List.take_of_length_le (l := List.drop (posU x.txn out) (intsC out)) (by simp)]
                simp [intsC, List.map_take, List.map_drop]
      · have hnx : txns (h.events.take (i + 1)) = out := by rw [hnx]; unfold stepT; rw [if_neg hk]
        simp -dsimp [ratlineref18_Txns_l17, Hs.cells, hil2, hx, Ev.cells_eq x, hk, hiw, hnx]
    · have hie : i = h.events.length := by omega
      subst hie
      simp -dsimp [ratlineref18_Txns_l17, Hs.cells]
end Go.Rt
end

/- Contracts: a history, completed, the document's way. -/
section
namespace Go.Rt
open Go.Vm

def abortEv (t : Int) : Ev := ⟨t, 6, 0, 0, ⟨false, 0, ⟨#[]⟩⟩, ⟨0, 0⟩, 0, [], .mk 0 0 ⟨false, 0, ⟨#[]⟩⟩ ⟨false, 0, ⟨#[]⟩⟩ [], [], false⟩
def opens (es : List Ev) (l : List Int) : List Int := l.filter fun t => decide (ended es t = 0)
def complete (h : Hs) : Hs := { h with events := h.events ++ (opens h.events (txns h.events)).map abortEv }
theorem opens_next {es : List Ev} {l : List Int} {i : Nat} {t : Int} (h : l[i]? = some t) : opens es (l.take (i + 1)) = if ended es t = 0 then opens es (l.take i) ++ [t] else opens es (l.take i) := by
  unfold opens
  rw [List.take_add_one, h, List.filter_append]
  by_cases hz : ended es t = 0 <;> simp [hz]
theorem opens_len (es : List Ev) (l : List Int) : (opens es l).length ≤ l.length := List.length_filter_le _ _

set_option maxRecDepth 8000 in
set_option maxHeartbeats 8000000 in
theorem ref18_Complete_spec {h : Hs} (hok : h.Ok) (hlen : h.events.length < 2 ^ 32) : GSpec prog false n_ratlineref18_Complete [h.av] [] (.agg ((complete h).cells.map .iv)) [(2, .box ((complete h).cells.map .iv))] := by
  refine gspecCL [3, 1] 2 (complete h).cells rfl ratlineref18_Complete_is (by simp [Hs.av]) (by decide) ?_
  simp -dsimp [ratlineref18_Complete, Hs.av]
  refine ⟨by omega, by omega, ?_⟩
  refine call_mut (ref18_Txns_spec hlen) rfl (by simp) (by simp [Hs.av]) (by simp [Hs.av]) (by simp) (by simp) (by simp) (by simp) ?_
  simp -dsimp [intsIV]
  have htl := txns_len h.events
  generalize hT : txns h.events = T at *
  have hcomp : (complete h).cells = [.lst 1 (tbsC h.tables), .lst 22 (evsC (h.events ++ (opens h.events T).map abortEv)), .lst 5 (insC h.order)] := by rw [← hT]; rfl
  rw [hcomp]
  refine loop_idx [] [31] T.length (fun i => ⟨[(5, vi i), (4, .iv (.lst 1 (intsC T))), (3, .sl 3 22 0 (h.events ++ (opens h.events (T.take i)).map abortEv).length), (1, .ptr 1 0), (2, .ptr 2 0)],
    [(3, .list 22 (evsC (h.events ++ (opens h.events (T.take i)).map abortEv))), (2, .box [.nil 1, .nil 22, .nil 5]), (1, .box (h.cells.map .iv))]⟩) (fun _ => True) ?_ trivial ?_
  · simp [Hs.cells, opens]
  · intro i hi _
    by_cases hil : i < T.length
    · have hil2 : ¬T.length ≤ i := by omega
      obtain ⟨t, ht⟩ := some_at hil
      have hiw := wrap_in (n := (i : Int) + 1) (by omega)
      have hnx := opens_next (es := h.events) ht
      have hol := opens_len h.events (T.take i)
      rw [List.length_take] at hol
      generalize opens h.events (T.take i) = O at *
      simp -dsimp [ratlineref18_Complete_l9, Hs.cells, hil2, ht]
      intro _
      refine call_pure (ref18_Ended_spec hok t) (by simp [Hs.av]) (by simp [Hs.av]) ?_
      by_cases hz : ended h.events t = 0
      · rw [if_pos hz] at hnx
        simp -dsimp [hz, ht, hiw, hnx, Hs.cells]
        refine ⟨by omega, by omega, hil, by omega, ?_⟩
        simp only [evsC, List.map_append, List.map_cons, List.map_nil, List.append_assoc]
        rfl
      · rw [if_neg hz] at hnx
        simp -dsimp [hz, hiw, hnx, Hs.cells, hil]
    · have hie : i = T.length := by omega
      subst hie
      simp -dsimp [ratlineref18_Complete_l9, Hs.cells]
      exact List.take_of_length_le (by simp)
end Go.Rt
end

/- Rows that are built from nil; open transactions as data. -/
section
namespace Go.Vm
/-- a cell that holds a slice that is nil may as well hold an empty row of one's own -/
theorem le_own {s : St} {j i sz id : Nat} {cs : List AV} (h : look s.hp j = some (.box cs)) (hi : cs[i]? = some (.nil sz)) (hno : look s.hp id = none) (hid : id < 1000) :
    Le s ((s.add id (.list sz [])).add j (.box (cs.set i (.sl id sz 0 0)))) := by
  rintro E n a w ⟨ψ, hs⟩
  have h1 := hs.new (o := .list sz []) (p := none) (w' := w) hid hno (Ext.refl w) (fun b k e => by cases e) ⟨fun _ h => (by cases h), .inl ⟨by simp [upd], rfl⟩⟩
  have hj : j ≠ id := by rintro rfl; rw [hno] at h; cases h
  have hl : look (s.add id (.list sz [])).hp j = some (.box cs) := by rw [look_add, if_neg (Ne.symm hj)]; exact h
  obtain ⟨b, c, e, g1, g2, g3, g4⟩ := h1.obs j _ hl
  have hψ : upd ψ id none id = none := by simp [upd]
  refine ⟨_, h1.chg (o' := .box (cs.set i (.sl id sz 0 0))) hl (Ob.le_none rfl) rfl (fun h => by cases h) g1 (fun _ _ => rfl) rfl ⟨rfl, rfl, rfl⟩ fun hm _ => ⟨b, c, e, g1, g2, by simpa using g3, fun k x hx => ?_⟩⟩
  rw [List.getElem?_set] at hx
  split at hx
  · rename_i e1
    subst e1
    split at hx
    · simp only [Option.some.injEq] at hx
      subst hx
      have := g4 i _ hi
      generalize c.getD i undef = v at this
      cases this
      exact .sl0 id sz (.list sz []) 0 (by rw [look_add, if_neg hj, look_add, if_pos rfl]) rfl hψ
    · cases hx
  · exact hm x _ (g4 k x hx)

/-- a loop that counts up to a bound, entered by whatever step -/
theorem loop_idxL {P : Program} {c : VCode} {s : St} {O : Outs} (D' : List Nat) (n : Nat) (S : Nat → St) (Q : Nat → Prop) (h0 : Le s (S 0)) (q0 : Q 0)
    (hs : ∀ i, i ≤ n → Q i → wpV P c (S i) { O with n := fun s2 => i < n ∧ LeTo D' s2 (S (i + 1)) ∧ Q (i + 1) }) : loopW P c s O := by
  refine ⟨fun k s => ∃ i, i ≤ n ∧ k = n - i ∧ s = S i ∧ Q i, ⟨_, _, h0, 0, Nat.zero_le _, rfl, rfl, q0⟩, ?_⟩
  rintro k s' ⟨i, hi, rfl, rfl, hq⟩
  refine wpV_mono c (O := { O with n := fun s2 => i < n ∧ LeTo D' s2 (S (i + 1)) ∧ Q (i + 1) }) (fun s2 h => ?_) (fun _ _ h => h) (fun _ h => h) (fun _ _ h => h) (hs i hi hq)
  obtain ⟨hlt, hle, hq'⟩ := h
  exact ⟨_, _, by omega, hle.le, i + 1, hlt, rfl, rfl, hq'⟩
end Go.Vm
namespace Go.Rt
open Go.Vm

/-- a set of numbers as a map -/
def gT (l : List Int) : List Value → Option (List IV)
  | [.int .i64 t] => if t ∈ l then some [ci 1] else none
  | _ => none
theorem gset_gT (l : List Int) (t : Int) : gset (gT l) [.int .i64 t] (some [ci 1]) = gT (l ++ [t]) := by
  funext q
  unfold gset
  split
  · rename_i e; subst e; simp [gT]
  · rename_i e
    unfold gT
    split
    · rename_i u
      have : u ≠ t := fun h => e (by rw [h])
      simp [this]
    · rfl
theorem keys_gT {l L : List Int} (h : ∀ t, t ∈ l ↔ t ∈ L) : KeysOf (gT l) L := by
  intro q
  unfold gT
  split
  · rename_i t
    by_cases ht : t ∈ l
    · rw [if_pos ht]; exact ⟨fun _ => ⟨t, (h t).1 ht, rfl⟩, fun _ => by simp⟩
    · rw [if_neg ht]
      refine ⟨fun h => absurd rfl h, ?_⟩
      rintro ⟨k, hk, e⟩
      simp only [List.cons.injEq, Value.int.injEq, true_and, and_true] at e
      subst e
      exact absurd ((h t).2 hk) ht
  · rename_i hq
    refine ⟨fun h => absurd rfl h, ?_⟩
    rintro ⟨k, hk, rfl⟩
    exact absurd rfl (hq k)
/-- who is begun within these events, and never ended -/
def begs (es l : List Ev) : List Int := (l.filter fun e => decide (e.kind = 1 ∧ ended es e.txn = 0)).map Ev.txn
theorem begs_next {es l : List Ev} {i : Nat} {e : Ev} (h : l[i]? = some e) : begs es (l.take (i + 1)) = if e.kind = 1 ∧ ended es e.txn = 0 then begs es (l.take i) ++ [e.txn] else begs es (l.take i) := by
  unfold begs
  rw [List.take_add_one, h, List.filter_append]
  by_cases hz : e.kind = 1 ∧ ended es e.txn = 0 <;> simp [hz]

theorem mem_insU {l : List Int} {t x : Int} : x ∈ insU l t ↔ x ∈ l ∨ x = t := by
  unfold insU
  split
  · rename_i h
    have := List.mem_of_getElem? h
    exact ⟨.inl, fun h => h.elim id fun e => e ▸ this⟩
  · simp only [List.mem_append, List.mem_cons]
    have : x ∈ l ↔ x ∈ l.take (posU t l) ∨ x ∈ l.drop (posU t l) := by
      rw [← List.mem_append, List.take_append_drop]
    rw [this]
    constructor
    · rintro (h | h | h)
      · exact .inl (.inl h)
      · exact .inr h
      · exact .inl (.inr h)
    · rintro ((h | h) | h)
      · exact .inl h
      · exact .inr (.inr h)
      · exact .inr (.inl h)
theorem mem_txns {es : List Ev} {t : Int} : t ∈ txns es ↔ ∃ e ∈ es, e.kind = 1 ∧ e.txn = t := by
  have key : ∀ (es : List Ev) (l : List Int), t ∈ es.foldl stepT l ↔ t ∈ l ∨ ∃ e ∈ es, e.kind = 1 ∧ e.txn = t := by
    intro es
    induction es with
    | nil => intro l; simp
    | cons e es ih =>
      intro l
      rw [List.foldl_cons, ih]
      unfold stepT
      split
      · rename_i hk
        rw [mem_insU]
        constructor
        · rintro ((h | h) | ⟨x, h1, h2⟩)
          · exact .inl h
          · exact .inr ⟨e, List.mem_cons_self, hk, h.symm⟩
          · exact .inr ⟨x, List.mem_cons_of_mem _ h1, h2⟩
        · rintro (h | ⟨x, h1, h2, h3⟩)
          · exact .inl (.inl h)
          · rcases List.mem_cons.1 h1 with rfl | h1
            · exact .inl (.inr h3.symm)
            · exact .inr ⟨x, h1, h2, h3⟩
      · rename_i hk
        constructor
        · rintro (h | ⟨x, h1, h2⟩)
          · exact .inl h
          · exact .inr ⟨x, List.mem_cons_of_mem _ h1, h2⟩
        · rintro (h | ⟨x, h1, h2, h3⟩)
          · exact .inl h
          · rcases List.mem_cons.1 h1 with rfl | h1
            · exact absurd h2 hk
            · exact .inr ⟨x, h1, h2, h3⟩
  simpa [txns] using key es []
theorem mem_begs {es l : List Ev} {t : Int} : t ∈ begs es l ↔ (∃ e ∈ l, e.kind = 1 ∧ e.txn = t) ∧ ended es t = 0 := by
  simp only [begs, List.mem_map, List.mem_filter, decide_eq_true_eq]
  constructor
  · rintro ⟨e, ⟨h1, h2, h3⟩, rfl⟩; exact ⟨⟨e, h1, h2, rfl⟩, h3⟩
  · rintro ⟨⟨e, h1, h2, rfl⟩, h3⟩; exact ⟨e, ⟨h1, h2, h3⟩, rfl⟩
theorem begs_opens (es : List Ev) (t : Int) : t ∈ begs es es ↔ t ∈ opens es (txns es) := by
  rw [mem_begs, ← mem_txns]
  simp [opens]
theorem insU_sorted {l : List Int} {t : Int} (h : l.Pairwise (· < ·)) : (insU l t).Pairwise (· < ·) := by
  unfold insU
  split
  · exact h
  · rename_i hne
    have h1 : ∀ x ∈ l.take (posU t l), x < t := by
      intro x hx
      obtain ⟨i, hi⟩ := List.mem_iff_getElem?.1 hx
      rw [List.getElem?_take] at hi
      split at hi
      · rename_i hlt; exact posU_lt hlt hi
      · cases hi
    have h2 : ∀ x ∈ l.drop (posU t l), t < x := by
      intro x hx
      have hd : (l.drop (posU t l)).Pairwise (· < ·) := h.sublist (List.drop_sublist _ _)
      cases hdr : l.drop (posU t l) with
      | nil => rw [hdr] at hx; cases hx
      | cons y r =>
        have hy : l[posU t l]? = some y := by
          have : (l.drop (posU t l))[0]? = some y := by rw [hdr]; rfl
          simpa using this
        have h3 : t < y := by
          have := posU_at hy
          have : y ≠ t := fun e => hne (by rw [hy, e])
          omega
        rw [hdr] at hx hd
        rcases List.mem_cons.1 hx with rfl | hx
        · exact h3
        · have := (List.pairwise_cons.1 hd).1 x hx; omega
    refine List.pairwise_append.2 ⟨h.sublist (List.take_sublist _ _), List.pairwise_cons.2 ⟨h2, h.sublist (List.drop_sublist _ _)⟩, fun a ha b hb => ?_⟩
    rcases List.mem_cons.1 hb with rfl | hb
    · exact h1 a ha
    · have := h1 a ha; have := h2 b hb; omega
theorem txns_sorted (es : List Ev) : (txns es).Pairwise (· < ·) := by
  have key : ∀ (es : List Ev) (l : List Int), l.Pairwise (· < ·) → (es.foldl stepT l).Pairwise (· < ·) := by
    intro es
    induction es with
    | nil => intro l h; exact h
    | cons e es ih =>
      intro l h
      refine ih _ ?_
      unfold stepT
      split
      · exact insU_sorted h
      · exact h
  exact key es [] List.Pairwise.nil
theorem opens_sorted (es : List Ev) : (opens es (txns es)).Pairwise (· < ·) := (txns_sorted es).sublist List.filter_sublist
theorem nodup_le : ∀ {ks L : List Int}, ks.Nodup → (∀ j ∈ ks, j ∈ L) → ks.length ≤ L.length
  | [], _, _, _ => Nat.zero_le _
  | k :: ks, L, h, hs => by
    have hk := hs k List.mem_cons_self
    have h2 := List.nodup_cons.1 h
    have := nodup_le (ks := ks) (L := L.erase k) h2.2 fun j hj => (List.mem_erase_of_ne (fun (e : j = k) => h2.1 (by rw [← e]; exact hj))).2 (hs j (List.mem_cons_of_mem _ hj))
    rw [List.length_erase_of_mem hk] at this
    have := List.length_pos_of_mem hk
    simp only [List.length_cons]
    omega

/-- the keys of such a map, sorted -/
theorem Sorted_gT {l L : List Int} (h : ∀ t, t ∈ l ↔ t ∈ L) (hL : L.Pairwise (· < ·)) (hlen : L.length < 2 ^ 32) :
    GSpec prog true n_slices_Sorted_int [.fn n_maps_Keys_map_int_int_int_int_1 [] [.val (.pt [.mp skS (gT l)])]] [] (.sl 11 1 0 L.length) [(11, .list 1 (intsC L))] := by
  refine slices_Sorted_spec (caps := [.pt [.mp skS (gT l)]]) (keys1_ispec (keys_gT h)) (by kernel_rfl) ?_ ?_
  · rintro pre x ⟨ks, k, rfl, rfl, h1, h2⟩
    refine ⟨ks, k, rfl, rfl, ?_⟩
    have := nodup_le h1 h2
    simp at this
    omega
  · rintro ks ⟨ks', e, h1, h2⟩
    have e : ks = ks' := by have := congrArg intsOf e; rwa [intsOf_krows, intsOf_krows] at this
    subst e
    exact ⟨sorted_same h1 h2 hL, by have := nodup_le h1 fun j hj => (h2 j).1 hj; omega⟩
theorem maps_Keys_at (g : List Value → Option (List IV)) (d : Nat) : GSpec prog false n_maps_Keys_map_int_int_int_int [.iv (.mp skS g)] [] (.fn n_maps_Keys_map_int_int_int_int_1 [] [.ptr d 0]) [(d, .box [.iv (.mp skS g)])] := by
  have h := ((maps_Keys_spec g).one (fun _ _ h => h) (fun id o ho => by
    simp only [Vm.look] at ho
    split at ho
    · cases ho; rfl
    · cases ho)).ren (Ren.swap 1 d) (by simp [AV.shal, AV.shal2, AV.shal1, Ob.shal])
  have e : (Ren.swap 1 d).to 1 = d := by simp [Ren.swap, swapN]
  simpa [Hp.ren, AV.ren, AV.ren2, AV.ren1, Ob.ren, CapV.ren, e] using h
end Go.Rt
end

/- Contracts: a history, completed. -/
section
namespace Go.Rt
open Go.Vm

set_option maxRecDepth 8000 in
set_option maxHeartbeats 8000000 in
theorem hist_Complete_spec {h : Hs} (hok : h.Ok) (hlen : h.events.length < 2 ^ 31) (ht : h.tables.length < 2 ^ 31) (ho : h.order.length < 2 ^ 31) (htb : ∀ t ∈ h.tables, t.length ≤ 140737488355328) (htx : ∀ o ∈ h.order, o.txns.length < 2 ^ 32)
    (hev : ∀ e ∈ h.events, e.row.length < 2 ^ 32 ∧ e.refs.length < 2 ^ 32 ∧ e.pred.Few) : GSpec prog false n_hist_Complete [h.av] [] (.agg ((complete h).cells.map .iv)) [(2, .box ((complete h).cells.map .iv))] := by
  refine gspecCL [72, 90, 3, 1] 2 (complete h).cells rfl hist_Complete_is (by simp [Hs.av]) (by decide) ?_
  simp -dsimp [hist_Complete, Hs.av]
  refine loop_idxL [5, 26] h.tables.length (fun i => ⟨[(16, vi i), (15, vi h.tables.length), (14, .iv (.lst 1 (tbsC h.tables))), (1, .ptr 1 0), (2, .ptr 2 0), (3, .ptr 3 0)],
    [(3, .box [.sl 27 1 0 i, .sl 72 22 0 0, .sl 45 5 0 0]), (27, .list 1 (tbsC (h.tables.take i))), (72, .list 22 []), (45, .list 5 []), (2, .box [.nil 1, .nil 22, .nil 5]), (1, .box (h.cells.map .iv))]⟩) (fun _ => True) ?_ trivial ?_
  · refine ((le_own (j := 3) (i := 0) (id := 27) rfl rfl rfl (by decide)).trans ((le_own (j := 3) (i := 1) (id := 72) rfl rfl rfl (by decide)).trans ((le_own (j := 3) (i := 2) (id := 45) rfl rfl rfl (by decide)).trans (LeTo.le (D := []) ?_))))
    simp -dsimp [St.add, Hs.cells, tbsC]
  · intro i hi _
    by_cases hil : i < h.tables.length
    · have hil2 : ¬h.tables.length ≤ i := by omega
      obtain ⟨t, hti⟩ := some_at hil
      have hiw := wrap_in (n := (i : Int) + 1) (by omega)
      have htc : GSpec prog false n_slices_Clone_bool_bool [.iv (tbIV t)] [] (.iv (tbIV t)) [] := Clone_bools (by have := htb t (List.mem_of_getElem? hti); simpa using this)
      have hnx : tbsC (h.tables.take (i + 1)) = tbsC (h.tables.take i) ++ [[tbIV t]] := by rw [List.take_add_one, hti]; simp [tbsC]
      simp -dsimp [hist_Complete_l7, Hs.cells, hil2, hti]
      intro _
      constructor
      all_goals
        refine call_mut htc rfl (by simp) (by simp) (by simp) (by simp) (by simp) (by simp) (by simp) ?_
        simp -dsimp [hiw, hnx]
        omega
    · have hie : i = h.tables.length := by omega
      subst hie
      simp -dsimp [hist_Complete_l7, Hs.cells]
      refine loop_idx [5, 27] [7, 44] h.order.length (fun i => ⟨[(33, vi i), (32, vi h.order.length), (31, .iv (.lst 5 (insC h.order))), (1, .ptr 1 0), (2, .ptr 2 0), (3, .ptr 3 0)],
        [(3, .box [.iv (.lst 1 (tbsC h.tables)), .sl 72 22 0 0, .sl 45 5 0 i]), (45, .list 5 (insC (h.order.take i))), (72, .list 22 []), (2, .box [.nil 1, .nil 22, .nil 5]), (1, .box (h.cells.map .iv))]⟩) (fun _ => True) ?_ trivial ?_
      · simp -dsimp [Hs.cells, insC, List.take_of_length_le]
      · intro i hi _
        by_cases hil : i < h.order.length
        · have hil2 : ¬h.order.length ≤ i := by omega
          obtain ⟨o, hoi⟩ := some_at hil
          have hiw := wrap_in (n := (i : Int) + 1) (by omega)
          have hnx : insC (h.order.take (i + 1)) = insC (h.order.take i) ++ [o.cells] := by rw [List.take_add_one, hoi]; simp [insC]
          have hoc : GSpec prog false n_slices_Clone_int_int [.iv (intsIV o.txns)] [] (.iv (intsIV o.txns)) [] := Clone_ints (by have := htx o (List.mem_of_getElem? hoi); simpa using this)
          simp -dsimp [hist_Complete_l14, Hs.cells, hil2, hoi, Ins.cells_eq o]
          intro _
          refine call_mut hoc rfl (by simp [intsIV]) (by simp [intsIV]) (by simp) (by simp) (by simp) (by simp) (by simp) ?_
          simp -dsimp [hiw, hnx, Ins.cells_eq o, intsIV]
          omega
        · have hie : i = h.order.length := by omega
          subst hie
          simp -dsimp [hist_Complete_l14, Hs.cells]
          refine loop_idx [45] [10, 64, 71] h.events.length (fun i => ⟨[(52, vi i), (51, vi h.events.length), (50, .iv (.lst 22 (evsC h.events))), (8, .mpr 48), (1, .ptr 1 0), (2, .ptr 2 0), (3, .ptr 3 0)],
            [(3, .box [.iv (.lst 1 (tbsC h.tables)), .sl 72 22 0 i, .iv (.lst 5 (insC h.order))]), (72, .list 22 (evsC (h.events.take i))), (48, .map skS (gT (begs h.events (h.events.take i)))), (2, .box [.nil 1, .nil 22, .nil 5]), (1, .box (h.cells.map .iv))]⟩) (fun _ => True) ?_ trivial ?_
          · have h0 : gT (begs h.events []) = fun _ => none := by
              funext q; unfold gT; split <;> simp [begs]
            simp -dsimp [Hs.cells, evsC, List.take_of_length_le, h0]
          · intro i hi _
            by_cases hil : i < h.events.length
            · have hil2 : ¬h.events.length ≤ i := by omega
              obtain ⟨e, hei⟩ := some_at hil
              have hiw := wrap_in (n := (i : Int) + 1) (by omega)
              have hnx : evsC (h.events.take (i + 1)) = evsC (h.events.take i) ++ [e.cells] := by rw [List.take_add_one, hei]; simp [evsC]
              have hbn := begs_next (es := h.events) hei
              obtain ⟨hv1, hv2, hv3⟩ := hev e (List.mem_of_getElem? hei)
              have hrow : GSpec prog false n_row_Clone [.iv (.lst 3 (rowC e.row))] [] (.iv (.lst 3 (rowC e.row))) [] := row_Clone_spec (by simpa using hv1)
              have hrefs : GSpec prog false n_slices_Clone_api_Ref_api_Ref [.iv (.lst 5 (refsC e.refs))] [] (.iv (.lst 5 (refsC e.refs))) [] := Clone_refs (by simpa using hv2)
              have hpred := pred_Clone_spec hv3 64
              by_cases hk : e.kind = 1
              · simp -dsimp [hist_Complete_l24, Hs.cells, hil2, hei, Ev.cells_eq e, hk, -hist_Complete_t19]
                intro _
                simp -dsimp [hist_Complete_t19]
                by_cases hz : ended h.events e.txn = 0
                · rw [if_pos ⟨hk, hz⟩] at hbn
                  repeat' first
                    | apply And.intro
                    | (refine call_mut hrow rfl (by simp) (by simp) (by simp) (by simp) (by simp) (by simp) (by simp) ?_; simp -dsimp [hiw, hnx, hk, hbn, hz, Ev.cells_eq e, gset_gT])
                    | (refine call_mut hrefs rfl (by simp) (by simp) (by simp) (by simp) (by simp) (by simp) (by simp) ?_; simp -dsimp [hiw, hnx, hk, hbn, hz, Ev.cells_eq e, gset_gT])
                    | (refine call_newC hpred (by decide) rfl (by simp [Pd.av_eq]) (by simp [Pd.av_eq]) ?_; simp -dsimp [hiw, hnx, hk, hbn, hz, Ev.cells_eq e, gset_gT, Pd.cells_eq e.pred])
                    | (refine call_pure (hist_Ended_spec hok e.txn) (by simp [Hs.av, Hs.cells]) (by simp [Hs.av, Hs.cells]) ?_; simp -dsimp [hiw, hnx, hk, hbn, hz, Ev.cells_eq e, gset_gT])
                  all_goals omega
                · rw [if_neg (fun h => hz h.2)] at hbn
                  repeat' first
                    | apply And.intro
                    | (refine call_mut hrow rfl (by simp) (by simp) (by simp) (by simp) (by simp) (by simp) (by simp) ?_; simp -dsimp [hiw, hnx, hk, hbn, hz, Ev.cells_eq e])
                    | (refine call_mut hrefs rfl (by simp) (by simp) (by simp) (by simp) (by simp) (by simp) (by simp) ?_; simp -dsimp [hiw, hnx, hk, hbn, hz, Ev.cells_eq e])
                    | (refine call_newC hpred (by decide) rfl (by simp [Pd.av_eq]) (by simp [Pd.av_eq]) ?_; simp -dsimp [hiw, hnx, hk, hbn, hz, Ev.cells_eq e, Pd.cells_eq e.pred])
                    | (refine call_pure (hist_Ended_spec hok e.txn) (by simp [Hs.av, Hs.cells]) (by simp [Hs.av, Hs.cells]) ?_; simp -dsimp [hiw, hnx, hk, hbn, hz, Ev.cells_eq e])
                  all_goals omega
              · rw [if_neg (fun h => hk h.1)] at hbn
                simp -dsimp [hist_Complete_l24, Hs.cells, hil2, hei, Ev.cells_eq e, hk, -hist_Complete_t19]
                intro _
                simp -dsimp [hist_Complete_t19]
                repeat' first
                  | apply And.intro
                  | (refine call_mut hrow rfl (by simp) (by simp) (by simp) (by simp) (by simp) (by simp) (by simp) ?_; simp -dsimp [hiw, hnx, hk, hbn, Ev.cells_eq e])
                  | (refine call_mut hrefs rfl (by simp) (by simp) (by simp) (by simp) (by simp) (by simp) (by simp) ?_; simp -dsimp [hiw, hnx, hk, hbn, Ev.cells_eq e])
                  | (refine call_newC hpred (by decide) rfl (by simp [Pd.av_eq]) (by simp [Pd.av_eq]) ?_; simp -dsimp [hiw, hnx, hk, hbn, Ev.cells_eq e, Pd.cells_eq e.pred])
                all_goals omega
            · have hie : i = h.events.length := by omega
              subst hie
              simp -dsimp [hist_Complete_l24, Hs.cells]
              refine call_newC (maps_Keys_at (gT (begs h.events h.events)) 89) (by decide) rfl (by simp) (by simp) ?_
              simp -dsimp
              have hol := opens_len h.events (txns h.events)
              have htl := txns_len h.events
              have hos := opens_sorted h.events
              refine call_new ((Sorted_gT (begs_opens h.events) hos (by omega)).freshL 90 (by simp [AV.shal, AV.shal2, AV.shal1]) (fun ρ => by simp [AV.ren, AV.ren2, AV.ren1, CapV.ren])) (by decide) (by simp) (by simp) ?_
              have hcomp : (complete h).cells = [.lst 1 (tbsC h.tables), .lst 22 (evsC (h.events ++ (opens h.events (txns h.events)).map abortEv)), .lst 5 (insC h.order)] := rfl
              rw [hcomp]
              generalize opens h.events (txns h.events) = T at *
              simp -dsimp [intsIV]
              refine loop_idx [89] [100] T.length (fun i => ⟨[(92, vi i), (91, vi T.length), (90, .sl 90 1 0 T.length), (1, .ptr 1 0), (2, .ptr 2 0), (3, .ptr 3 0)],
                [(3, .box [.iv (.lst 1 (tbsC h.tables)), .sl 72 22 0 (h.events ++ (T.take i).map abortEv).length, .iv (.lst 5 (insC h.order))]), (72, .list 22 (evsC (h.events ++ (T.take i).map abortEv))), (90, .list 1 (intsC T)), (2, .box [.nil 1, .nil 22, .nil 5]), (1, .box (h.cells.map .iv))]⟩) (fun _ => True) ?_ trivial ?_
              · simp -dsimp [Hs.cells, evsC]
              · intro i hi _
                by_cases hil : i < T.length
                · have hil2 : ¬T.length ≤ i := by omega
                  obtain ⟨x, hx⟩ := some_at hil
                  have hiw := wrap_in (n := (i : Int) + 1) (by omega)
                  have hnx : T.take (i + 1) = T.take i ++ [x] := by rw [List.take_add_one, hx]; rfl
                  simp -dsimp [hist_Complete_l30, Hs.cells, hil2, hx, hiw, hnx]
                  intro _
                  refine ⟨hil, by omega, by omega, hil, by omega, ?_⟩
                  simp only [evsC, List.map_append, List.map_cons, List.map_nil, List.append_assoc]
                  rfl
                · have hie : i = T.length := by omega
                  subst hie
                  simp -dsimp [hist_Complete_l30, Hs.cells]
                  exact List.take_of_length_le (by simp)
end Go.Rt
end

/- The law HistCompletes: what the code comes to. -/
section
namespace Go.Rt
open Go.Vm

theorem few_of_flat {p : Pd} (h : p.Ok) : ∀ d : Int, p.Flat d → p.Few := by
  induction h with
  | mk p _ _ _ _ ih =>
    intro d hf
    obtain ⟨_, h2, h3, _⟩ := (Pd.flat_eq d p).1 hf
    exact .mk p (by omega) fun q hq => ih q hq (d + 1) ((Pd.flatL_iff (d + 1) p.l).1 h3 q hq)

theorem complete_ok {h : Hs} (hok : h.Ok) (hl : h.events.length < 2 ^ 32) : (complete h).Ok := {
  tables := hok.tables
  events := by
    have h1 := opens_len h.events (txns h.events)
    have h2 := txns_len h.events
    simp only [complete, List.length_append, List.length_map]
    omega
  order := hok.order
  ev := fun e he => by
    rcases List.mem_append.1 he with he | he
    · exact hok.ev e he
    · obtain ⟨t, _, rfl⟩ := List.mem_map.1 he
      exact ⟨by simp [abortEv], by simp [abortEv], exPd_ok, by simp [abortEv, ByteArray.size], fun r hr => by cases hr⟩
  txns := hok.txns
  tb := hok.tb
  cols := hok.cols }

theorem few_ev {h : Hs} (hok : h.Ok) (hs : SmallP h) : ∀ e ∈ h.events, e.row.length < 2 ^ 32 ∧ e.refs.length < 2 ^ 32 ∧ e.pred.Few := by
  intro e he
  obtain ⟨i, hi⟩ := List.mem_iff_getElem?.1 he
  have := hs.ev i (List.getElem?_eq_some_iff.1 hi).1 e hi
  exact ⟨by have := this.row; omega, by have := this.refs; omega, few_of_flat (hok.ev e he).pred 0 this.flat⟩

def ColsOk (h : Hs) : Prop := ∀ t ∈ h.tables, t.length ≤ 140737488355328

theorem hist_Complete_at {h : Hs} (hok : h.Ok) (hc : ColsOk h) (hs : SmallP h) (d : Nat) : GSpec prog false n_hist_Complete [h.av] [] (.agg ((complete h).cells.map .iv)) [(d, .box ((complete h).cells.map .iv))] := by
  refine box_at (hist_Complete_spec hok (by have := hs.events; omega) (by have := hs.tables; omega) (by have := hs.order; omega) hc (fun o ho => ?_) (few_ev hok hs)) d (by simp [Hs.av, AV.shal, AV.shal2, AV.shal1]) (fun ρ => by simp [Hs.av, AV.ren, AV.ren2, AV.ren1])
  obtain ⟨i, hi⟩ := List.mem_iff_getElem?.1 ho
  have := hs.txns i (List.getElem?_eq_some_iff.1 hi).1 o hi
  omega
theorem ref18_Complete_at {h : Hs} (hok : h.Ok) (hs : SmallP h) (d : Nat) : GSpec prog false n_ratlineref18_Complete [h.av] [] (.agg ((complete h).cells.map .iv)) [(d, .box ((complete h).cells.map .iv))] :=
  box_at (ref18_Complete_spec hok hs.len) d (by simp [Hs.av, AV.shal, AV.shal2, AV.shal1]) (fun ρ => by simp [Hs.av, AV.ren, AV.ren2, AV.ren1])

set_option maxRecDepth 8000 in
theorem HistCompletes_spec {h : Hs} (hok : h.Ok) (hc : ColsOk h) (txn : Int) : GSpec prog true n_ratlinelaw18_HistCompletes [h.av, vi txn] [] (vb true) [] := by
  refine gspec1 ratlinelaw18_HistCompletes_is (by simp) (by decide) rfl ?_
  simp -dsimp [ratlinelaw18_HistCompletes, Hs.av]
  refine call_pure awake_spec (by simp) (by simp) ?_
  simp -dsimp
  refine call_pure (ref18_Small_spec hok) (by simp [Hs.av]) (by simp [Hs.av]) ?_
  simp -dsimp
  intro hs
  constructor
  all_goals
    refine call_newC (hist_Complete_at hok hc hs 15) (by decide) rfl (by simp [Hs.av]) (by simp [Hs.av]) ?_
    simp -dsimp
    refine call_newC (ref18_Complete_at hok hs 17) (by decide) rfl (by simp [Hs.av]) (by simp [Hs.av]) ?_
    simp -dsimp
    refine call_pure (ref18_Same_refl (complete_ok hok hs.len)) (by simp [Hs.av, Hs.cells]) (by simp [Hs.av]) ?_
    simp -dsimp
    constructor
    all_goals
      refine call_pure (hist_Ended_spec hok txn) (by simp [Hs.av]) (by simp [Hs.av]) ?_
      simp -dsimp
      refine call_pure (ref18_Ended_spec hok txn) (by simp [Hs.av]) (by simp [Hs.av]) ?_
      simp -dsimp
end Go.Rt
end

/- What comes in is of the form's own reach: the columns of a table. -/
section
namespace Go.Rt
open Go.Vm

theorem sz_slice {P : Program} {f : Nat} {t e n : Nat} {xs : List (List IV)} (hu : P.underlying t = some (.slice e)) (hn : P.cellsOf e = n) (h : SzT P f t [.lst n xs]) : ∃ f', f = f' + 1 ∧ xs.length * P.bytesOf e ≤ reachBytes ∧ ∀ x ∈ xs, SzT P f' e x := by
  cases f with
  | zero => exact h.elim
  | succ f =>
    simp only [SzT, hu, hn] at h
    obtain ⟨ys, h1, h2, h3⟩ := h
    simp only [List.cons.injEq, IV.lst.injEq, true_and, and_true] at h1
    subst h1
    exact ⟨f, rfl, h2, h3⟩
theorem sz_struct {P : Program} {f : Nat} {t : Nat} {l : List (Nat × Nat × Nat)} {cs : List IV} (hu : fieldsOf P t = some l) (h : SzT P f t cs) :
    ∃ f', f = f' + 1 ∧ ∀ p ∈ l, SzT P f' p.1 ((cs.drop p.2.1).take p.2.2) := by
  unfold fieldsOf at hu
  split at hu
  · rename_i fs hu'
    cases f with
    | zero => exact h.elim
    | succ f =>
      simp only [SzT, hu'] at h
      refine ⟨f, rfl, fun p hp => ?_⟩
      cases hu
      obtain ⟨fld, h1, rfl⟩ := List.mem_map.1 hp
      exact h fld h1
  · cases hu
theorem sz_cols {h : Hs} {f : Nat} (hs : SzT prog f 26 h.cells) : ColsOk h := by
  obtain ⟨f, rfl, h1⟩ := sz_struct (P := prog) (t := 26) (l := [(22, 0, 1), (23, 1, 1), (24, 2, 1)]) (by kernel_rfl) hs
  obtain ⟨f1, _, _, h2⟩ := sz_slice (P := prog) (t := 22) (e := 53) (n := 1) (xs := tbsC h.tables) (by kernel_rfl) (by kernel_rfl) (h1 (22, 0, 1) (by decide))
  intro t ht
  obtain ⟨f2, _, h3⟩ := sz_struct (P := prog) (t := 53) (l := [(51, 0, 1)]) (by kernel_rfl) (h2 [tbIV t] (List.mem_map.2 ⟨t, ht, rfl⟩))
  obtain ⟨f3, _, h4, _⟩ := sz_slice (P := prog) (t := 51) (e := 4) (n := 1) (xs := boolsC t) (by kernel_rfl) (by kernel_rfl) (h3 (51, 0, 1) (by decide))
  have hb : prog.bytesOf 4 = 1 := by kernel_rfl
  rw [hb] at h4
  simp only [boolsC_len, Nat.mul_one] at h4
  exact Nat.le_trans h4 (by decide)
end Go.Rt
end

/- What the rows share where sizes are asked. -/
section
namespace Go.Proofs.Ytiabgaimhgifeaa
open Go.ChangeShapes Go.WideShapes Go.ChangeAt Go.RowKit Go.Vm Go.Rt
open Go.Proofs (Try.prog)

theorem args_hs_int_sz {css : List (List IV)} (h : WfArgs Try.prog [26, 3] css) (hs : SzArgs Try.prog [26, 3] css) : ∃ (h : Hs) (i : Int), h.Ok ∧ ColsOk h ∧ argsT Try.prog [26, 3] css = [h.av, vi i] := by
  match css, h, hs with
  | [cs, ds], ⟨_, ⟨g, h2⟩, _⟩, ⟨⟨f, h1, h3⟩, _⟩ =>
    obtain ⟨h, rfl, hok⟩ := wf_hs h1
    obtain ⟨i, rfl, _⟩ := wf_int u3 h2
    exact ⟨h, i, hok, sz_cols h3, by simp only [argsT, agg26, agg3]; rfl⟩
theorem args_hs_sz {css : List (List IV)} (h : WfArgs Try.prog [26] css) (hs : SzArgs Try.prog [26] css) : ∃ h : Hs, h.Ok ∧ ColsOk h ∧ argsT Try.prog [26] css = [h.av] := by
  match css, h, hs with
  | [cs], _, ⟨⟨f, h1, h3⟩, _⟩ =>
    obtain ⟨h, rfl, hok⟩ := wf_hs h1
    exact ⟨h, hok, sz_cols h3, by simp only [argsT, agg26]; rfl⟩
theorem weightsEach_app {H : Type} {P : Program} : ∀ {ts vs : List TypeId} {ds gs : List (DataW H)} {n : Nat}, n ∈ DataW.weightsEach P ts ds → n ∈ DataW.weightsEach P (ts ++ vs) (ds ++ gs)
  | [], _, _, _, _, h => by simp [DataW.weightsEach] at h
  | _ :: _, _, [], _, _, h => by simp [DataW.weightsEach] at h
  | t :: ts, vs, d :: ds, gs, n, h => by
    simp only [List.cons_append, DataW.weightsEach, List.mem_append] at h ⊢
    exact h.imp id fun h => weightsEach_app (ts := ts) h
theorem sz_all {H : Type} {P : Program} {ts ts' vs : List TypeId} {ds gs : List (DataW H)} (e : ts' = ts) (h : (DataW.weightsEach P (ts' ++ vs) (ds ++ gs)).all (· ≤ reachBytes) = true) : ∀ n ∈ DataW.weightsEach P ts ds, n ≤ reachBytes := by
  subst e
  exact fun n hn => by simpa using List.all_eq_true.1 h n (weightsEach_app hn)
end Go.Proofs.Ytiabgaimhgifeaa
end
