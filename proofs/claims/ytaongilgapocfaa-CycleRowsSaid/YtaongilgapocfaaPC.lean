/- Contracts of functions of the program, and what they lean on. Conditions: those of each theorem. -/
import Derived.Test.YtaongilgapocfaaPB
import Derived.Test.YtaongilgapocfaaPA

set_option linter.unusedVariables false
set_option linter.unusedSimpArgs false

/- Edges; the small functions. -/
section
namespace Go.Rt
open Go.Vm

/-- api.Edge -/
structure Eg where
  frm : Int
  to : Int
  kind : Int
  table : Int
  key : Vl
  cursor : Bool
def Eg.cells (e : Eg) : List IV := [ci e.frm, ci e.to, ci e.kind, ci e.table, cb e.key.text, ci e.key.n, .v (.string e.key.s), cb e.cursor]
def Eg.av (e : Eg) : AV := .agg (e.cells.map .iv)
def egsC (l : List Eg) : List (List IV) := l.map Eg.cells
def egsIV (l : List Eg) : IV := .lst 8 (egsC l)
@[simp] theorem egsC_len (l : List Eg) : (egsC l).length = l.length := by simp [egsC]
@[simp] theorem egsC_get (l : List Eg) (i : Nat) : (egsC l)[i]? = (l[i]?).map Eg.cells := by simp [egsC]
theorem egsC_flat (l : List Eg) : ∀ x ∈ egsC l, ∀ y ∈ x, y.flat = true := by
  intro x hx y hy
  obtain ⟨e, _, rfl⟩ := List.mem_map.1 hx
  simp only [Eg.cells, List.mem_cons, List.not_mem_nil, or_false] at hy
  rcases hy with rfl | rfl | rfl | rfl | rfl | rfl | rfl | rfl <;> rfl

/-- the first place of a kind -/
def ixP {α : Type} (p : α → Bool) (l : List α) : Int := match l.findIdx? p with
  | some i => i
  | none => -1
theorem ixP_at {α : Type} {p : α → Bool} {l : List α} {i : Nat} {e : α} (he : l[i]? = some e) (h : p e = true) (hn : Upto i fun j => ∀ x, l[j]? = some x → p x = false) : ixP p l = i := by
  have : l.findIdx? p = some i := by
    rw [List.findIdx?_eq_some_iff_getElem]
    have hl := (List.getElem?_eq_some_iff.1 he).1
    have hg := (List.getElem?_eq_some_iff.1 he).2
    refine ⟨hl, by rw [hg]; exact h, fun j hj => ?_⟩
    have := hn j hj l[j] (List.getElem?_eq_getElem (by omega))
    simpa using this
  unfold ixP; rw [this]
theorem ixP_none {α : Type} {p : α → Bool} {l : List α} (hn : ∀ x, x ∈ l → p x = false) : ixP p l = -1 := by
  have : l.findIdx? p = none := by
    rw [List.findIdx?_eq_none_iff]
    exact hn
  unfold ixP; rw [this]
theorem upto_all {α : Type} {l : List α} {i : Nat} {p : α → Prop} (hi : l.length ≤ i) (h : Upto i fun j => ∀ x, l[j]? = some x → p x) : ∀ x, x ∈ l → p x := by
  intro x hx
  obtain ⟨j, hj⟩ := List.getElem?_of_mem hx
  exact h j (by have := (List.getElem?_eq_some_iff.1 hj).1; omega) x hj
theorem ixP_cases {α : Type} (p : α → Bool) (l : List α) : (∃ (i : Nat) (x : α), l[i]? = some x ∧ p x = true ∧ ixP p l = i ∧ ∀ j y, j < i → l[j]? = some y → p y = false) ∨ ((∀ x, x ∈ l → p x = false) ∧ ixP p l = -1) := by
  unfold ixP
  cases h : l.findIdx? p with
  | none =>
    rw [List.findIdx?_eq_none_iff] at h
    exact .inr ⟨h, rfl⟩
  | some i =>
    rw [List.findIdx?_eq_some_iff_getElem] at h
    obtain ⟨hl, h1, h2⟩ := h
    refine .inl ⟨i, l[i], List.getElem?_eq_getElem hl, h1, rfl, fun j y hj hy => ?_⟩
    have := h2 j hj
    have hy2 := (List.getElem?_eq_some_iff.1 hy).2
    rw [hy2] at this
    simpa using this
theorem ixP_nonneg {α : Type} (p : α → Bool) (l : List α) : 0 ≤ ixP p l ↔ ∃ x, x ∈ l ∧ p x = true := by
  rcases ixP_cases p l with ⟨i, x, h1, h2, h3, _⟩ | ⟨h1, h2⟩
  · rw [h3]; exact ⟨fun _ => ⟨x, List.mem_of_getElem? h1, h2⟩, fun _ => by omega⟩
  · rw [h2]
    refine ⟨fun h => by omega, ?_⟩
    rintro ⟨x, hx, hp⟩
    rw [h1 x hx] at hp; cases hp
/-- where a number stands -/
def place (l : List Int) (x : Int) : Int := ixP (fun y => decide (x = y)) l
theorem place_nonneg {l : List Int} {x : Int} : 0 ≤ place l x ↔ x ∈ l := by
  unfold place; rw [ixP_nonneg]
  constructor
  · rintro ⟨y, hy, h⟩; simp only [decide_eq_true_eq] at h; exact h ▸ hy
  · exact fun h => ⟨x, h, by simp⟩

theorem place_at {l : List Int} {x : Int} {i : Nat} {e : Int} (he : l[i]? = some e) (h : x = e) (hn : Upto i fun j => ∀ y, l[j]? = some y → ¬x = y) : place l x = i :=
  ixP_at he (by simpa using h) fun j hj y hy => by simpa using hn j hj y hy
theorem place_none {l : List Int} {x : Int} (hn : ∀ y, y ∈ l → ¬x = y) : place l x = -1 := ixP_none fun y hy => by simpa using hn y hy

theorem slices_Index_spec (l : List Int) (hl : l.length < 2 ^ 63) (x : Int) : GSpec prog true n_slices_Index_int_int [.iv (intsIV l), vi x] [] (vi (place l x)) [] := by
  refine gspec1 slices_Index_int_int_is (by simp) (by decide) rfl ?_
  simp -dsimp [slices_Index_int_int, intsIV]
  refine loop_idx [] [] l.length (fun i => ⟨[(8, vi i), (7, vi l.length), (0, .iv (.lst 1 (intsC l))), (1, vi x)], []⟩)
    (fun i => Upto i fun j => ∀ y, l[j]? = some y → ¬x = y) ?_ ?_ ?_
  · simp -dsimp
  · exact upto_zero
  · intro i hi hq
    simp -dsimp [slices_Index_int_int_l7]
    refine ⟨fun hlt => ?_, fun hge => ?_⟩
    · obtain ⟨e, he⟩ := some_at hlt
      have hw := wrap_in (n := (i : Int) + 1) (by omega)
      simp -dsimp [he, hw]
      refine ⟨fun g => ?_, fun g => ⟨hlt, hq.succ fun y hy => by rw [he] at hy; cases hy; exact g⟩⟩
      rw [place_at he g hq]
    · rw [place_none (upto_all hge hq)]
theorem place_spec (l : List Int) (hl : l.length < 2 ^ 62) (x : Int) : GSpec prog true n_ratlineref21_place [.iv (intsIV l), vi x] [] (vi (place l x)) [] := by
  refine gspec1 ratlineref21_place_is (by simp) (by decide) rfl ?_
  simp -dsimp [ratlineref21_place, intsIV]
  refine loop_idx [] [] l.length (fun i => ⟨[(5, vi i), (0, .iv (.lst 1 (intsC l))), (1, vi x)], []⟩)
    (fun i => Upto i fun j => ∀ y, l[j]? = some y → ¬x = y) ?_ ?_ ?_
  · simp -dsimp
  · exact upto_zero
  · intro i hi hq
    simp -dsimp [ratlineref21_place_l6]
    refine ⟨fun hlt => ?_, fun hge => ?_⟩
    · obtain ⟨e, he⟩ := some_at hlt
      have hw := wrap_in (n := (i : Int) + 1) (by omega)
      simp -dsimp [he, hw]
      refine ⟨fun g => ?_, fun g => ⟨hlt, hq.succ fun y hy => by rw [he] at hy; cases hy; exact fun h => g h.symm⟩⟩
      rw [place_at he g.symm hq]
    · rw [place_none (upto_all hge hq)]
theorem slices_Contains_spec (l : List Int) (hl : l.length < 2 ^ 62) (x : Int) : GSpec prog true n_slices_Contains_int_int [.iv (intsIV l), vi x] [] (vb (decide (x ∈ l))) [] := by
  refine gspec1 slices_Contains_int_int_is (by simp) (by decide) rfl ?_
  simp -dsimp [slices_Contains_int_int]
  refine call_pure (slices_Index_spec l (by omega) x) (by simp) (by simp) ?_
  simp -dsimp
  rw [place_nonneg]
/-- whether one of some edges leads to a number -/
theorem met_spec (l : List Eg) (hl : l.length < 2 ^ 62) (x : Int) : GSpec prog true n_ratlineref21_met [.iv (egsIV l), vi x] [] (vb (decide (x ∈ l.map Eg.to))) [] := by
  refine gspec1 ratlineref21_met_is (by simp) (by decide) rfl ?_
  simp -dsimp [ratlineref21_met, egsIV]
  refine loop_idx [] [] l.length (fun i => ⟨[(5, vi i), (0, .iv (.lst 8 (egsC l))), (1, vi x)], []⟩)
    (fun i => Upto i fun j => ∀ y, l[j]? = some y → y.to ≠ x) ?_ ?_ ?_
  · simp -dsimp
  · exact upto_zero
  · intro i hi hq
    simp -dsimp [ratlineref21_met_l6]
    refine ⟨fun hlt => ?_, fun hge => ?_⟩
    · obtain ⟨e, he⟩ := some_at hlt
      have hw := wrap_in (n := (i : Int) + 1) (by omega)
      simp -dsimp [he, hw, Eg.cells]
      refine ⟨fun g => ?_, fun g => ⟨hlt, hq.succ fun y hy => by rw [he] at hy; cases hy; exact g⟩⟩
      exact ⟨e, List.mem_of_getElem? he, g⟩
    · exact upto_all hge hq
theorem ok_of_1 : okFn prog n_cycle_of_1 = true := by kernel_rfl
/-- of some kinds -/
def ofK (ks : List Int) (e : Eg) : Bool := decide (e.kind ∈ ks)
theorem of_1_spec (ks : List Int) (hl : ks.length < 2 ^ 62) (e : Eg) : GSpec prog true n_cycle_of_1 [e.av, .iv (.pt [intsIV ks])] [] (vb (ofK ks e)) [] := by
  refine gspec1 cycle_of_1_is (by simp) (by decide) rfl ?_
  simp -dsimp [cycle_of_1, Eg.av, Eg.cells]
  refine call_pure (slices_Contains_spec ks hl e.kind) (by simp) (by simp) ?_
  simp -dsimp [ofK]
theorem of_spec0 (ks : List Int) : GSpecN prog false n_cycle_of [.iv (intsIV ks)] [] (fun r K => r = .fn n_cycle_of_1 [] [.ptr 1 0] ∧ K = [(1, .box [.iv (intsIV ks)])]) := by
  refine gspecR _ cycle_of_is (by simp) (by decide) (fun x H' h => by
    obtain ⟨rfl, rfl⟩ := h
    refine ⟨fun id o ho => ?_, by simp⟩
    simp only [Vm.look] at ho
    split at ho
    · cases ho; rfl
    · cases ho) ?_
  simp -dsimp [cycle_of]
  try exact ⟨[], _, _, ⟨rfl, rfl⟩, by simp -dsimp⟩
theorem of_at (ks : List Int) (d : Nat) : GSpec prog false n_cycle_of [.iv (intsIV ks)] [] (.fn n_cycle_of_1 [] [.ptr d 0]) [(d, .box [.iv (intsIV ks)])] := by
  have h := ((of_spec0 ks).one (fun _ _ h => h) (fun id o ho => by
    simp only [Vm.look] at ho
    split at ho
    · cases ho; rfl
    · cases ho)).ren (Ren.swap 1 d) (by simp [AV.shal, AV.shal2, AV.shal1, Ob.shal, intsIV])
  have e : (Ren.swap 1 d).to 1 = d := by simp [Ren.swap, swapN]
  simpa [Hp.ren, AV.ren, AV.ren2, AV.ren1, Ob.ren, CapV.ren, e] using h
end Go.Rt
end

/- Edges as a graph; maps of numbers. -/
section
namespace Go.Rt
open Go.Vm

abbrev skF : Sk := (false, [.i .i64], false)
def gF (f : Fm) : List Value → Option (List IV)
  | [.int .i64 k] => (fmAt f k).map fun i => [ci i]
  | _ => none
theorem gF_set {f : Fm} {k : Int} (h : fmAt f k = none) (i : Int) : gset (gF f) [.int .i64 k] (some [ci i]) = gF (f ++ [(k, i)]) := by
  funext q
  simp only [gset]
  split
  · rename_i e; subst e
    simp only [gF, fmAt_append, h]
    simp
  · rename_i hne
    unfold gF
    split
    · rename_i q'
      rw [fmAt_append, if_neg (by rintro rfl; exact hne rfl)]
      simp
    · rfl
theorem gF_nil : (fun _ => none : List Value → Option (List IV)) = gF [] := by
  funext q; unfold gF; split <;> rfl

/-- edges as a graph: those that may be gone are of a kind -/
def grOf (l : List Eg) (ok : Eg → Bool) : Gr where
  m := l.length
  F := fun k => (l[k]?.map Eg.frm).getD 0
  T := fun k => (l[k]?.map Eg.to).getD 0
  ok := fun k => (l[k]?.map ok).getD false
section
variable {l : List Eg} {ok : Eg → Bool} {k : Nat} {e : Eg}
theorem gr_m : (grOf l ok).m = l.length := rfl
theorem gr_F (h : l[k]? = some e) : (grOf l ok).F k = e.frm := by simp [grOf, h]
theorem gr_T (h : l[k]? = some e) : (grOf l ok).T k = e.to := by simp [grOf, h]
theorem gr_ok (h : l[k]? = some e) : (grOf l ok).ok k = ok e := by simp [grOf, h]
end
/-- the edges of these places -/
def pick (l : List Eg) (p : List Nat) : List Eg := p.filterMap fun k => l[k]?
theorem pick_cons {l : List Eg} {k : Nat} {e : Eg} (h : l[k]? = some e) (p : List Nat) : pick l (k :: p) = e :: pick l p := by simp [pick, h]
theorem pick_snoc {l : List Eg} {k : Nat} {e : Eg} (h : l[k]? = some e) (p : List Nat) : pick l (p ++ [k]) = pick l p ++ [e] := by simp [pick, h]
theorem pick_nil (l : List Eg) : pick l [] = [] := rfl
theorem pick_reverse (l : List Eg) (p : List Nat) : pick l p.reverse = (pick l p).reverse := by simp [pick, List.filterMap_reverse]
theorem pick_append (l : List Eg) (p q : List Nat) : pick l (p ++ q) = pick l p ++ pick l q := by simp [pick, List.filterMap_append]
theorem pick_len {l : List Eg} : ∀ {p : List Nat}, (∀ k, k ∈ p → k < l.length) → (pick l p).length = p.length
  | [], _ => rfl
  | k :: p, h => by
    obtain ⟨e, he⟩ := some_at (h k List.mem_cons_self)
    rw [pick_cons he, List.length_cons, List.length_cons, pick_len fun x hx => h x (List.mem_cons_of_mem _ hx)]
theorem pick_get {l : List Eg} : ∀ {p : List Nat} (_ : ∀ k, k ∈ p → k < l.length) (i : Nat), (pick l p)[i]? = (p[i]?).bind fun k => l[k]?
  | [], _, i => by simp [pick]
  | k :: p, h, i => by
    obtain ⟨e, he⟩ := some_at (h k List.mem_cons_self)
    rw [pick_cons he]
    cases i with
    | zero => simp [he]
    | succ i => simp only [List.getElem?_cons_succ]; exact pick_get (fun x hx => h x (List.mem_cons_of_mem _ hx)) i
theorem pick_to {l : List Eg} {ok : Eg → Bool} : ∀ {p : List Nat}, (∀ k, k ∈ p → k < l.length) → (pick l p).map Eg.to = p.map (grOf l ok).T
  | [], _ => rfl
  | k :: p, h => by
    obtain ⟨e, he⟩ := some_at (h k List.mem_cons_self)
    rw [pick_cons he, List.map_cons, List.map_cons, pick_to (ok := ok) fun x hx => h x (List.mem_cons_of_mem _ hx), gr_T he]
end Go.Rt
end

/- A row of edges turned about. -/
section
namespace Go.Rt
open Go.Vm

/-- some rounds of turning a row about -/
def revAt (xs ys : List Eg) (i : Nat) : Prop := ys.length = xs.length ∧ ∀ k, k < xs.length → ys[k]? = if k < i ∨ xs.length - i ≤ k then xs[xs.length - 1 - k]? else xs[k]?
theorem revAt_end {xs ys : List Eg} {i : Nat} (h : revAt xs ys i) (hi : xs.length ≤ 2 * i + 1) : ys = xs.reverse := by
  refine List.ext_getElem? fun k => ?_
  by_cases hk : k < xs.length
  · rw [h.2 k hk, List.getElem?_reverse hk]
    by_cases h1 : k < i ∨ xs.length - i ≤ k
    · rw [if_pos h1]
    · rw [if_neg h1]
      have : k = xs.length - 1 - k := by omega
      rw [← this]
  · rw [List.getElem?_eq_none (by have := h.1; omega), List.getElem?_eq_none (by simp; omega)]
theorem revAt_step {xs ys : List Eg} {i : Nat} {a b : Eg} (h : revAt xs ys i) (hi : 2 * i + 1 < xs.length) (ha : ys[i]? = some a) (hb : ys[xs.length - 1 - i]? = some b) : revAt xs ((ys.set i b).set (xs.length - 1 - i) a) (i + 1) := by
  have hl := h.1
  have ha' := h.2 i (by omega)
  rw [ha, if_neg (by omega)] at ha'
  have hb' := h.2 (xs.length - 1 - i) (by omega)
  rw [hb, if_neg (by omega)] at hb'
  refine ⟨by simp [hl], fun k hk => ?_⟩
  rw [List.getElem?_set, List.getElem?_set]
  simp only [List.length_set]
  by_cases h1 : xs.length - 1 - i = k
  · subst h1
    rw [if_pos rfl, if_pos (by omega), if_pos (by omega), ha']
    congr 1; omega
  · rw [if_neg h1]
    by_cases h2 : i = k
    · subst h2
      rw [if_pos rfl, if_pos (by omega), if_pos (by omega), hb']
    · rw [if_neg h2, h.2 k hk]
      by_cases h3 : k < i ∨ xs.length - i ≤ k
      · rw [if_pos h3, if_pos (by omega)]
      · rw [if_neg h3, if_neg (by omega)]
theorem egs_set (ys : List Eg) (i : Nat) (b : Eg) : (egsC ys).set i b.cells = egsC (ys.set i b) := by simp [egsC, List.map_set]

theorem egs_setC (ys : List Eg) (i : Nat) (b : Eg) : (egsC ys).set i [ci b.frm, ci b.to, ci b.kind, ci b.table, cb b.key.text, ci b.key.n, .v (.string b.key.s), cb b.cursor] = egsC (ys.set i b) := egs_set ys i b

set_option maxHeartbeats 1000000 in
theorem Reverse_spec (xs : List Eg) (hl : xs.length < 2 ^ 40) : GSpec prog false n_slices_Reverse_api_Edge_api_Edge [.sl 1000 8 0 xs.length] [(1000, .list 8 (egsC xs))] (.tup []) [(1000, .list 8 (egsC xs.reverse))] := by
  refine gspecM slices_Reverse_api_Edge_api_Edge_is (by simp) (by decide) (by simp) rfl ?_
  simp -dsimp [slices_Reverse_api_Edge_api_Edge]
  have hw0 := wrap_in (n := (xs.length : Int) - 1) (by omega)
  refine loop_any (fun k s => ∃ (i : Nat) (ys : List Eg), k = xs.length - i ∧ i ≤ xs.length ∧ revAt xs ys i ∧ s = ⟨[(2, vi i), (3, vi (xs.length - 1 - i)), (0, .sl 1000 8 0 xs.length)], [(1000, .list 8 (egsC ys))]⟩)
    ⟨_, _, LeTo.le (D := []) (s' := ⟨[(2, vi (0 : Nat)), (3, vi (xs.length - 1 - (0 : Nat))), (0, .sl 1000 8 0 xs.length)], [(1000, .list 8 (egsC xs))]⟩) ?_, 0, xs, rfl, Nat.zero_le _, ⟨rfl, fun k hk => ?_⟩, rfl⟩ ?_
  · simp [hw0]
  · rw [if_neg (by omega)]
  · rintro k s ⟨i, ys, rfl, hi, hr, rfl⟩
    by_cases hlt : 2 * i + 1 < xs.length
    · have hc : (i : Int) < xs.length - 1 - i := by omega
      obtain ⟨a, ha⟩ : ∃ a, ys[i]? = some a := some_at (by rw [hr.1]; omega)
      obtain ⟨b, hb⟩ : ∃ b, ys[xs.length - 1 - i]? = some b := some_at (by rw [hr.1]; omega)
      have hj : (xs.length : Int) - 1 - i = ((xs.length - 1 - i : Nat) : Int) := by omega
      have hs := revAt_step hr hlt ha hb
      have hw1 := wrap_in (n := (i : Int) + 1) (by omega)
      have hw2 := wrap_in (n := ((xs.length - 1 - i : Nat) : Int) - 1) (by omega)
      have hij : i ≠ xs.length - 1 - i := by omega
      rw [hj] at hc ⊢
      generalize hjj : xs.length - 1 - i = j at *
      have hb2 : (ys.set i b)[j]? = some b := by rw [List.getElem?_set, if_neg hij]; exact hb
      simp -dsimp [slices_Reverse_api_Edge_api_Edge_l4, hc, ha, hb, hb2, hw1, hw2, hr.1, Eg.cells, egs_setC, setRange]
      refine ⟨by omega, by omega, by omega, _, by omega, _, LeTo.le (D := []) (s' := ⟨[(2, vi (i + 1 : Nat)), (3, vi (xs.length - 1 - (i + 1 : Nat))), (0, .sl 1000 8 0 xs.length)], [(1000, .list 8 (egsC ((ys.set i b).set j a)))]⟩) ?_, i + 1, rfl, by omega, _, hs, rfl⟩
      have : (xs.length : Int) - 1 - (i + 1 : Nat) = (j : Int) - 1 := by omega
      simp [this]
      omega
    · have hc : ¬(i : Int) < xs.length - 1 - i := by omega
      simp -dsimp [slices_Reverse_api_Edge_api_Edge_l4, hc]
      rw [revAt_end hr (by omega)]
end Go.Rt
end

/- Contracts: the way back, by layers. -/
section
namespace Go.Rt
open Go.Vm

theorem fmAt_in {f : Fm} {k i : Int} (h : fmAt f k = some i) : (k, i) ∈ f := by
  unfold fmAt at h
  obtain ⟨p, h1, h2⟩ := Option.map_eq_some_iff.1 h
  have h3 := List.find?_some h1
  have h4 := List.mem_of_find?_eq_some h1
  simp only [decide_eq_true_eq] at h3
  obtain ⟨a, b⟩ := p
  simp only at h2 h3
  subst h2 h3
  exact h4
theorem list_le {sz : Nat} {xs ys : List (List IV)} (h : xs.length ≤ ys.length) : (Ob.list sz xs).le (Ob.list sz ys) := Ob.le_of rfl rfl h
theorem Reverse_20 (xs : List Eg) (hl : xs.length < 2 ^ 40) : GSpec prog false n_slices_Reverse_api_Edge_api_Edge [.sl 20 8 0 xs.length] [(20, .list 8 (egsC xs))] (.tup []) [(20, .list 8 (egsC xs.reverse))] :=
  (Reverse_spec xs hl).ren (Ren.swaps [(1000, 20)]) rfl
abbrev fnK (ks : List Int) : AV := .fn n_cycle_of_1 [] [.val (.pt [intsIV ks])]

set_option maxHeartbeats 4000000 in
theorem back_here {l : List Eg} (ks : List Int) (x : Int) (hpos : 0 < l.length) : GSpec prog false n_cycle_back [.iv (egsIV l), vi x, vi x, fnK ks] [] (.tup [.iv (egsIV []), vb true]) [] := by
  refine gspec2V (by decide) cycle_back_is (by simp) (by decide) ?_
  have hmap : gset (fun _ => none) [Value.int .i64 x] (some [ci (-1)]) = gF [(x, -1)] := by
    rw [gF_nil]; exact gF_set (f := []) rfl (-1)
  have hlk : gF [(x, -1)] [.int .i64 x] = some [ci (-1)] := by simp [gF, fmAt]
  simp -dsimp [cycle_back, hmap]
  refine loop_any (fun k s => k = 0 ∧ s = ⟨[(11, .iv (.lst 1 [[ci x]])), (10, .mpr 22), (12, vb true), (0, .iv (egsIV l)), (2, vi x)], [(22, .map skF (gF [(x, -1)]))]⟩) ⟨_, _, LeTo.le (D := [26, 8]) ?_, rfl, rfl⟩ ?_
  · simp [egsIV]
  · rintro k s ⟨rfl, rfl⟩
    simp -dsimp [cycle_back_l24]
    refine loop_any (fun k s => k = 0 ∧ s = ⟨[(20, .sl 20 8 0 0), (12, vb true), (10, .mpr 22), (21, vi x), (0, .iv (egsIV l))], [(20, .list 8 (egsC [])), (22, .map skF (gF [(x, -1)]))]⟩) ⟨_, _, LeTo.le (D := []) ?_, rfl, rfl⟩ ?_
    · simp [egsC, egsIV]
    · rintro k s ⟨rfl, rfl⟩
      simp -dsimp [cycle_back_l30, hlk]
      refine call_mut (Reverse_20 [] (by simp)) rfl (by simp) (by simp) (by simp) (by simp) (by simp) (by simp [list_le]) (by simp) ?_
      simp -dsimp
      exact ⟨[20], by simp [EndV2, AV.ivc, egsIV, egsC]⟩

def bkP (G : Gr) (s : Nat) (dst : Int) (k : Nat) (circle : List Int) (f : Fm) (res : Bool × Fm) : Prop :=
  bfsE G dst k circle f = some res ∧ GoodM G s f ∧ circle.length ≤ 1000

def foldR (G : Gr) (n : Int) (q : Nat) (st : Fm × List Int) : Fm × List Int := foldE G n ((List.range G.m).take q) st
def scanD (G : Gr) (dst n : Int) (q : Nat) (st : Fm × List Int) : Bool × Fm × List Int := scanE G dst n ((List.range G.m).drop q) st
theorem foldR_next {G : Gr} {j : Nat} (h : j < G.m) (n : Int) (st : Fm × List Int) : foldR G n (j + 1) st = stepE G n (foldR G n j st) j := foldE_next h n st
theorem foldR_end {G : Gr} (n : Int) (st : Fm × List Int) : foldR G n G.m st = foldE G n (List.range G.m) st := by
  unfold foldR; rw [List.take_of_length_le (by simp)]
theorem scanD_end {G : Gr} (dst n : Int) (st : Fm × List Int) : scanD G dst n G.m st = (false, st) := by
  unfold scanD; rw [List.drop_of_length_le (by simp)]; rfl
theorem scanD_at {G : Gr} {j : Nat} (h : j < G.m) (dst n : Int) (st : Fm × List Int) : scanD G dst n j st =
    if G.ok j = true ∧ G.F j = n ∧ fmAt st.1 (G.T j) = none then (if G.T j = dst then (true, stepE G n st j) else scanD G dst n (j + 1) (stepE G n st j)) else scanD G dst n (j + 1) st := scanE_at h dst n st

set_option maxHeartbeats 8000000 in
theorem back_spec {l : List Eg} (hl : l.length ≤ 1000) (ks : List Int) (hks : ks.length < 2 ^ 62) {s : Nat} {e0 : Eg} (he0 : l[s]? = some e0) (hne : e0.to ≠ e0.frm) {K K2 : Nat} {b : Bool} {g : Fm} {out : List Nat}
    (hb : bfsE (grOf l (ofK ks)) e0.frm K [e0.to] [(e0.to, -1)] = some (b, g)) (hc : b = true → chain (grOf l (ofK ks)) g K2 e0.frm = some out) (hc2 : b = false → out = []) (ho : out.length ≤ 1000) :
    GSpec prog false n_cycle_back [.iv (egsIV l), vi e0.to, vi e0.frm, fnK ks] [] (.tup [.iv (egsIV (pick l out.reverse)), vb b]) [] := by
  refine gspec2V (by decide) cycle_back_is (by simp) (by decide) ?_
  have hs : s < l.length := (List.getElem?_eq_some_iff.1 he0).1
  have hmap : gset (fun _ => none) [Value.int .i64 e0.to] (some [ci (-1)]) = gF [(e0.to, -1)] := by
    rw [gF_nil]; exact gF_set (f := []) rfl (-1)
  generalize hG : grOf l (ofK ks) = G at hb hc
  have hm : G.m = l.length := by rw [← hG]; rfl
  have hF : ∀ {k : Nat} {e : Eg}, l[k]? = some e → G.F k = e.frm := fun h => by rw [← hG]; exact gr_F h
  have hT : ∀ {k : Nat} {e : Eg}, l[k]? = some e → G.T k = e.to := fun h => by rw [← hG]; exact gr_T h
  have hok : ∀ {k : Nat} {e : Eg}, l[k]? = some e → G.ok k = ofK ks e := fun h => by rw [← hG]; exact gr_ok h
  simp -dsimp [cycle_back, hmap, hne]
  refine loop_any (fun k st => ∃ (circle : List Int) (f : Fm), bkP G s e0.frm k circle f (b, g) ∧
    st = ⟨[(11, .iv (.lst 1 (intsC circle))), (10, .mpr 22), (12, vb false), (0, .iv (egsIV l)), (2, vi e0.frm), (3, fnK ks)], [(22, .map skF (gF f))]⟩) ⟨K, _, LeTo.le (D := [26, 8]) ?_, [e0.to], [(e0.to, -1)], ⟨hb, ⟨by simp, ?_, ?_⟩, by simp⟩, rfl⟩ ?_
  · simp [egsIV, intsC, hne]
  · intro x hx
    simp only [List.map_cons, List.map_nil, List.mem_singleton] at hx
    subst hx
    exact List.mem_map.2 ⟨s, List.mem_range.2 (by rw [hm]; exact hs), hT he0⟩
  · intro k i hki
    simp only [List.mem_singleton, Prod.mk.injEq] at hki
    omega
  · rintro k st ⟨circle, f, ⟨h1, h3, h4⟩, rfl⟩
    by_cases hcl : circle = []
    · subst hcl
      have hr : b = false ∧ g = f := by cases k <;> simp [bfsE] at h1 <;> exact ⟨h1.1, h1.2.symm⟩
      obtain ⟨rfl, rfl⟩ := hr
      have ho2 := hc2 rfl
      subst ho2
      simp -dsimp [cycle_back_l24, intsC]
      refine loop_any (fun k s => k = 0 ∧ s = ⟨[(20, .sl 20 8 0 0), (12, vb false)], [(20, .list 8 (egsC []))]⟩) ⟨_, _, LeTo.le (D := [22]) ?_, rfl, rfl⟩ ?_
      · simp [egsC]
      · rintro k s ⟨rfl, rfl⟩
        simp -dsimp [cycle_back_l30]
        refine call_mut (Reverse_20 [] (by simp)) rfl (by simp) (by simp) (by simp) (by simp) (by simp) (by simp [list_le]) (by simp) ?_
        simp -dsimp
        exact ⟨[20], by simp [EndV2, AV.ivc, egsIV, egsC, pick_nil]⟩
    · have hpos := List.length_pos_iff.2 hcl
      simp -dsimp [cycle_back_l24, hcl, hpos]
      obtain ⟨k, rfl⟩ : ∃ m, k = m + 1 := by
        cases k with
        | zero => cases circle with
          | nil => exact absurd rfl hcl
          | cons a b => simp [bfsE] at h1
        | succ m => exact ⟨m, rfl⟩
      have h1' : (if (layerE G e0.frm circle (f, [])).1 = true then some (true, (layerE G e0.frm circle (f, [])).2.1) else bfsE G e0.frm k (layS G circle (f, [])).2 (layS G circle (f, [])).1) = some (b, g) := by
        cases circle with
        | nil => exact absurd rfl hcl
        | cons a b => exact h1
      have hcnt : ∀ j, Cnt G s f.length (layS G (circle.take j) (f, [])) := fun j => layS_cnt _ ⟨h3, by simp⟩
      refine loop_idx [] [] circle.length (fun j => ⟨[(39, vi j), (38, vi circle.length), (37, .iv (.lst 1 (intsC circle))), (13, .sl 13 1 0 (layS G (circle.take j) (f, [])).2.length), (10, .mpr 22), (12, vb false), (0, .iv (egsIV l)), (2, vi e0.frm), (3, fnK ks)],
        [(13, .list 1 (intsC (layS G (circle.take j) (f, [])).2)), (22, .map skF (gF (layS G (circle.take j) (f, [])).1))]⟩)
        (fun j => layerE G e0.frm (circle.drop j) (layS G (circle.take j) (f, [])) = layerE G e0.frm circle (f, [])) ?_ ?_ ?_
      · simp [layS, intsC, egsIV]
      · simp [layS]
      · intro j hj hQ
        by_cases hjl : j < circle.length
        · obtain ⟨n, hn⟩ := some_at hjl
          rw [layerE_at hn] at hQ
          have hnext := layS_next (G := G) hn (f, [])
          have hc1 := hcnt j
          generalize hst : layS G (circle.take j) (f, []) = st at *
          obtain ⟨f1, nx⟩ := st
          have hjw := wrap_in (n := (j : Int) + 1) (by omega)
          simp -dsimp [cycle_back_l22, hn]
          refine ⟨fun _ => ?_, fun h => absurd h (by omega)⟩
          refine loop_idx [] [17, 79] l.length (fun q => ⟨[(45, vi q), (44, vi l.length), (43, .iv (egsIV l)), (15, vi n), (39, vi j), (38, vi circle.length), (37, .iv (.lst 1 (intsC circle))),
            (13, .sl 13 1 0 (foldR G n q (f1, nx)).2.length), (10, .mpr 22), (12, vb false), (0, .iv (egsIV l)), (2, vi e0.frm), (3, fnK ks)],
            [(13, .list 1 (intsC (foldR G n q (f1, nx)).2)), (22, .map skF (gF (foldR G n q (f1, nx)).1))]⟩)
            (fun q => scanD G e0.frm n q (foldR G n q (f1, nx)) = scanE G e0.frm n (List.range G.m) (f1, nx)) ?_ ?_ ?_
          · simp [foldR, foldE, egsIV]
          · simp [foldR, foldE, scanD]
          · intro q hq hQ2
            by_cases hql : q < l.length
            · obtain ⟨e, he⟩ := some_at hql
              rw [scanD_at (by rw [hm]; exact hql)] at hQ2
              have hnq := foldR_next (G := G) (j := q) (by rw [hm]; exact hql) n (f1, nx)
              have hcq : Cnt G s f.length (foldR G n q (f1, nx)) := foldE_cnt _ (fun x hx => List.mem_range.1 (List.mem_of_mem_take hx)) hc1
              have hcs := stepE_cnt (n := n) (k := q) (by rw [hm]; exact hql) hcq
              generalize hst2 : foldR G n q (f1, nx) = st2 at *
              obtain ⟨f2, nx2⟩ := st2
              have hlenq := hcq.len
              simp only at hlenq
              have hqw := wrap_in (n := (q : Int) + 1) (by omega)
              rw [hF he, hT he, hok he] at hQ2
              have hstep : stepE G n (f2, nx2) q = if ofK ks e = true ∧ e.frm = n ∧ fmAt f2 e.to = none then (f2 ++ [(e.to, (q : Int))], nx2 ++ [e.to]) else (f2, nx2) := by
                unfold stepE; rw [hF he, hT he, hok he]
              by_cases hfr : e.frm = n
              · cases hk : ofK ks e with
                | false =>
                  rw [hk] at hstep hQ2
                  simp only [Bool.false_eq_true, false_and, if_false] at hstep hQ2
                  rw [hstep] at hnq
                  simp -dsimp [cycle_back_l20, egsIV, he, Eg.cells, hfr, setRange]
                  refine ⟨fun _ => ?_, fun h => absurd h (by omega)⟩
                  refine ⟨ok_of_1, call_purev (of_1_spec ks hks e) (by simp) (by simp [Eg.av, Eg.cells, hfr]) (by simp [Eg.av, Eg.cells]) ?_⟩
                  simp -dsimp [hk, hqw, hnq]
                  exact ⟨hql, hQ2⟩
                | true =>
                  rw [hk, hfr] at hstep hQ2
                  simp only [true_and] at hstep hQ2
                  cases hf : fmAt f2 e.to with
                  | some z =>
                    rw [hf] at hstep hQ2
                    simp only [reduceCtorEq, if_false] at hstep hQ2
                    rw [hstep] at hnq
                    have hg1 : gF f2 [.int .i64 e.to] = some [ci z] := by simp [gF, hf]
                    simp -dsimp [cycle_back_l20, egsIV, he, Eg.cells, hfr, setRange]
                    refine ⟨fun _ => ?_, fun h => absurd h (by omega)⟩
                    refine ⟨ok_of_1, call_purev (of_1_spec ks hks e) (by simp) (by simp [Eg.av, Eg.cells, hfr]) (by simp [Eg.av, Eg.cells]) ?_⟩
                    simp -dsimp [hk, hqw, hnq, hg1]
                    exact ⟨hql, hQ2⟩
                  | none =>
                    rw [hf] at hstep hQ2
                    simp only [if_true] at hstep hQ2
                    rw [hstep] at hnq hcs hQ2
                    have hg1 : gF f2 [.int .i64 e.to] = none := by simp [gF, hf]
                    have hg2 := gF_set hf q
                    by_cases hd : e.to = e0.frm
                    · simp only [hd, if_true] at hQ2
                      rw [hd] at hg1 hg2
                      simp -dsimp [cycle_back_l20, egsIV, he, Eg.cells, hfr, setRange]
                      refine ⟨fun _ => ?_, fun h => absurd h (by omega)⟩
                      refine ⟨ok_of_1, call_purev (of_1_spec ks hks e) (by simp) (by simp [Eg.av, Eg.cells, hfr]) (by simp [Eg.av, Eg.cells]) ?_⟩
                      simp -dsimp [hk, hqw, hg1, hg2, hd]
                      rw [← hQ2] at hQ
                      simp only [if_true] at hQ
                      rw [← hQ] at h1'
                      simp only [if_true, Option.some.injEq, Prod.mk.injEq] at h1'
                      obtain ⟨hb1, hg9⟩ := h1'
                      have hcg := hcs.1
                      rw [hd] at hcg
                      have hg : ∀ k i, (k, i) ∈ g → i < l.length := fun k i hi => by rw [← hg9] at hi; have := hcg.val k i hi; rw [hm] at this; exact this
                      rw [hg9]
                      subst hb1
                      have hc := hc rfl
                      refine loop_any (fun k s => ∃ (pre rest : List Nat) (cur : Int), chain G g k cur = some rest ∧ out = pre ++ rest ∧ (∀ x, x ∈ pre → x < l.length) ∧
                        s = ⟨[(20, .sl 20 8 0 pre.length), (12, vb true), (10, .mpr 22), (21, vi cur), (0, .iv (egsIV l))], [(20, .list 8 (egsC (pick l pre))), (22, .map skF (gF g))]⟩) ⟨K2, _, LeTo.le (D := [17, 13]) ?_, [], out, _, hc, rfl, by simp, rfl⟩ ?_
                      · simp [pick_nil, egsC, egsIV]
                      · rintro k s ⟨pre, rest, cur, g1, g2, g3, rfl⟩
                        obtain ⟨b, hb, hbl, hlk⟩ : ∃ b : Int, (fmAt g cur).getD 0 = b ∧ b < l.length ∧ (gF g [.int .i64 cur] = some [ci b] ∨ (gF g [.int .i64 cur] = none ∧ b = 0)) := by
                          cases hf : fmAt g cur with
                          | none => exact ⟨0, rfl, by omega, .inr ⟨by simp [gF, hf], rfl⟩⟩
                          | some b => exact ⟨b, rfl, hg cur b (fmAt_in hf), .inl (by simp [gF, hf])⟩
                        have hpl : (pick l pre).length = pre.length := pick_len g3
                        by_cases hneg : b < 0
                        · have hrest : rest = [] := by
                            cases k <;> simp only [chain, hb, hneg, if_true, Option.some.injEq] at g1 <;> exact g1.symm
                          have hge : ¬0 ≤ b := by omega
                          subst hrest
                          rw [List.append_nil] at g2
                          subst g2
                          rcases hlk with hlk | ⟨_, rfl⟩
                          · simp -dsimp [cycle_back_l30, hlk, hge]
                            refine call_mut (by have h := Reverse_20 (pick l out) (by omega); rw [hpl] at h; exact h) rfl (by simp) (by simp) (by simp) (by simp) (by simp) (by simp [list_le]) (by simp) ?_
                            simp -dsimp
                            exact ⟨[20], by simp [EndV2, AV.ivc, egsIV, pick_reverse, hpl, List.take_of_length_le (show (egsC (pick l out).reverse).length ≤ out.length by simp [hpl])]⟩
                          · omega
                        · obtain ⟨k, rfl⟩ : ∃ m, k = m + 1 := by
                            cases k with
                            | zero => simp [chain, hb, hneg] at g1
                            | succ m => exact ⟨m, rfl⟩
                          have hge : 0 ≤ b := by omega
                          simp only [chain, hb, hneg, if_false] at g1
                          obtain ⟨rest', g4, rfl⟩ := Option.map_eq_some_iff.1 g1
                          obtain ⟨b, rfl⟩ : ∃ n : Nat, b = n := ⟨b.toNat, by omega⟩
                          obtain ⟨e, he⟩ := some_at (l := l) (i := b) (by omega)
                          rw [Int.toNat_natCast] at g4 g2
                          rw [hF he] at g4
                          have hlen : pre.length ≤ 1000 := by rw [g2] at ho; simp at ho; omega
                          have hbl2 : b < l.length := by omega
                          rcases hlk with hlk | ⟨hlk, hb0⟩
                          · simp -dsimp [cycle_back_l30, hlk, egsIV, he, Eg.cells, hpl]
                            refine ⟨by omega, by omega, k, by omega, _, LeTo.le (D := [106]) ?_, pre ++ [b], rest', _, g4, by simp [g2], ?_, rfl⟩
                            · simp [pick_snoc he, egsC, Eg.cells]
                            · intro x hx
                              rcases List.mem_append.1 hx with hx | hx
                              · exact g3 x hx
                              · rw [List.mem_singleton.1 hx]; exact hbl2
                          · have hb0 : b = 0 := by omega
                            subst hb0
                            simp -dsimp [cycle_back_l30, hlk, egsIV, he, Eg.cells, hpl]
                            refine ⟨by omega, by omega, k, by omega, _, LeTo.le (D := [106]) ?_, pre ++ [0], rest', _, g4, by simp [g2], ?_, rfl⟩
                            · simp [pick_snoc he, egsC, Eg.cells]
                            · intro x hx
                              rcases List.mem_append.1 hx with hx | hx
                              · exact g3 x hx
                              · rw [List.mem_singleton.1 hx]; exact hbl2
                    · simp only [hd, if_false] at hQ2
                      simp -dsimp [cycle_back_l20, egsIV, he, Eg.cells, hfr, setRange]
                      refine ⟨fun _ => ?_, fun h => absurd h (by omega)⟩
                      refine ⟨ok_of_1, call_purev (of_1_spec ks hks e) (by simp) (by simp [Eg.av, Eg.cells, hfr]) (by simp [Eg.av, Eg.cells]) ?_⟩
                      simp -dsimp [hk, hqw, hg1, hg2, hd, hnq]
                      exact ⟨by omega, by omega, hql, by simp [intsC], hQ2⟩
              · have hnc : ¬(ofK ks e = true ∧ e.frm = n ∧ fmAt f2 e.to = none) := fun h => hfr h.2.1
                rw [if_neg hnc] at hstep hQ2
                rw [hstep] at hnq
                simp -dsimp [cycle_back_l20, egsIV, he, Eg.cells, hfr, setRange, hqw, hnq]
                exact ⟨fun _ => ⟨hql, hQ2⟩, fun h => absurd h (by omega)⟩
            · have hqe : q = l.length := by omega
              subst hqe
              have hdr : scanD G e0.frm n l.length (foldR G n l.length (f1, nx)) = (false, foldR G n l.length (f1, nx)) := by rw [← hm]; exact scanD_end _ _ _
              have htk : foldR G n l.length (f1, nx) = foldE G n (List.range G.m) (f1, nx) := by rw [← hm]; exact foldR_end _ _
              rw [hdr] at hQ2
              have hsf : (scanE G e0.frm n (List.range G.m) (f1, nx)).1 = false := by rw [← hQ2]
              rw [if_neg (by rw [hsf]; simp)] at hQ
              rw [htk]
              simp -dsimp [cycle_back_l20, hjw, hnext]
              exact ⟨hjl, hQ⟩
        · have hje : j = circle.length := by omega
          subst hje
          have hc1 := hcnt circle.length
          rw [List.drop_length] at hQ
          simp only [layerE, List.take_length] at hQ
          simp only [List.take_length] at hc1
          rw [← hQ] at h1'
          simp only [Bool.false_eq_true, if_false] at h1'
          simp -dsimp [cycle_back_l22]
          refine ⟨k, by omega, _, LeTo.le (D := [13]) ?_, (layS G circle (f, [])).2, (layS G circle (f, [])).1, ⟨h1', hc1.1, by have := hc1.len; omega⟩, rfl⟩
          simp [egsIV]
          exact List.take_of_length_le (by simp)
end Go.Rt
end

/- Contracts: a cycle that is found. -/
section
namespace Go.Rt
open Go.Vm

theorem egsIV_pick_nil (l : List Eg) : egsIV (pick l []) = egsIV [] := rfl
theorem back_cyc {l : List Eg} (hl : l.length ≤ 1000) (ks : List Int) (hks : ks.length < 2 ^ 62) {s : Nat} {e0 : Eg} (he0 : l[s]? = some e0) :
    GSpec prog false n_cycle_back [.iv (egsIV l), vi e0.to, vi e0.frm, fnK ks] [] (.tup [.iv (egsIV (pick l (cyc (grOf l (ofK ks)) s).tail)), vb (decide (cyc (grOf l (ofK ks)) s ≠ []))]) [] := by
  have hs : s < l.length := (List.getElem?_eq_some_iff.1 he0).1
  have hF := gr_F (ok := ofK ks) he0
  have hT := gr_T (ok := ofK ks) he0
  by_cases hne : e0.to = e0.frm
  · have hc : cyc (grOf l (ofK ks)) s = [s] := cyc_here (by rw [hF, hT]; exact hne)
    have := back_here (l := l) ks e0.frm (by omega)
    rw [hc, hne]
    simpa [pick_nil] using this
  · obtain ⟨K, b, g, h1, h2⟩ := cycle_same (G := grOf l (ofK ks)) (s := s) hs (by rw [hF, hT]; exact hne)
    rw [hF, hT] at h1
    rcases h2 with ⟨rfl, hc⟩ | ⟨rfl, K2, h3, D, hw⟩
    · have := back_spec hl ks hks he0 hne (K2 := 0) (out := []) h1 (fun h => by cases h) (fun _ => rfl) (by simp)
      rw [hc]
      simpa [pick_nil] using this
    · rw [hF] at h3
      have hlt := hw.lt
      have hlen := hw.len
      have := back_spec hl ks hks he0 hne (K2 := K2) (out := (cyc (grOf l (ofK ks)) s).tail.reverse) h1 (fun _ => h3) (fun h => by cases h) (by
        rw [List.length_reverse, List.length_tail, hlen]
        have : (grOf l (ofK ks)).m = l.length := rfl
        omega)
      rw [List.reverse_reverse] at this
      simpa [hw.ne] using this
/-- the first edges that are wanted -/
def fstK (l : List Eg) (ks : List Int) (i : Nat) : Bool := (l[i]?.map (ofK ks)).getD false
/-- the cycle that is found -/
def fndE (l : List Eg) (fs rs : List Int) : List Eg := pick l (fnd (grOf l (ofK rs)) (fstK l fs))
theorem cyc_pick {l : List Eg} {ok : Eg → Bool} {s : Nat} {e : Eg} (he : l[s]? = some e) (h : cyc (grOf l ok) s ≠ []) : pick l (cyc (grOf l ok) s) = e :: pick l (cyc (grOf l ok) s).tail := by
  obtain ⟨D, hw, _⟩ := cyc_is (List.getElem?_eq_some_iff.1 he).1 h
  have hh := hw.head
  cases hc : cyc (grOf l ok) s with
  | nil => exact absurd hc h
  | cons a r =>
    rw [hc] at hh
    simp only [List.head?_cons, Option.some.injEq] at hh
    subst hh
    exact pick_cons he r
theorem fnd_at {l : List Eg} {ok : Eg → Bool} {first : Nat → Bool} {i : Nat} (hi : i < l.length) (hf : first i = true) (hn : Upto i fun j => first j = true → cyc (grOf l ok) j = []) (h : cyc (grOf l ok) i ≠ []) : fnd (grOf l ok) first = cyc (grOf l ok) i := by
  unfold fnd
  have e : (if first i then cyc (grOf l ok) i else []) = cyc (grOf l ok) i := by rw [hf]; rfl
  rw [firstTo_is (n := (grOf l ok).m) (i := i) (fun j hj => ?_) hi (by rw [e]; exact h), e]
  cases hj2 : first j with
  | false => rfl
  | true => exact hn j hj hj2
theorem fnd_no {l : List Eg} {ok : Eg → Bool} {first : Nat → Bool} (hn : Upto l.length fun j => first j = true → cyc (grOf l ok) j = []) : fnd (grOf l ok) first = [] := by
  unfold fnd
  refine firstTo_none _ fun j hj => ?_
  cases hj2 : first j with
  | false => rfl
  | true => exact hn j hj hj2
theorem pick_le {l : List Eg} (hl : l.length ≤ 1000) {ok : Eg → Bool} {s : Nat} (hs : s < l.length) : (pick l (cyc (grOf l ok) s).tail).length ≤ 1000 := by
  by_cases h : cyc (grOf l ok) s = []
  · rw [h]; simp [pick]
  · obtain ⟨D, hw, _⟩ := cyc_is (G := grOf l ok) hs h
    have h1 := hw.lt
    have h2 := hw.len
    have h3 : (grOf l ok).m = l.length := rfl
    rw [pick_len fun x hx => hw.inn x (List.mem_of_mem_tail hx), List.length_tail, h2]
    omega

set_option maxHeartbeats 4000000 in
theorem Find_spec {l : List Eg} (hl : l.length ≤ 1000) {fs rs : List Int} (hfs : fs.length < 2 ^ 62) (hrs : rs.length < 2 ^ 62) :
    GSpec prog false n_cycle_Find [.iv (egsIV l), .iv (intsIV fs), .iv (intsIV rs)] [] (.iv (egsIV (fndE l fs rs))) [] := by
  refine gspec1V cycle_Find_is (by simp) (by decide) ?_
  simp -dsimp [cycle_Find]
  refine call_newH (of_at fs 13) rfl (by simp [intsIV]) (by simp) (by simp) (by simp) ?_
  simp -dsimp
  refine loop_idx [6, 13] [9, 31] l.length (fun i => ⟨[(16, vi i), (15, vi l.length), (14, .iv (egsIV l)), (7, fnK fs), (0, .iv (egsIV l)), (2, .iv (intsIV rs))], []⟩)
    (fun i => Upto i fun j => fstK l fs j = true → cyc (grOf l (ofK rs)) j = []) ?_ upto_zero ?_
  · simp [egsIV]
  · intro i hi hq
    by_cases hil : i < l.length
    · obtain ⟨e, he⟩ := some_at hil
      have hf : fstK l fs i = ofK fs e := by simp [fstK, he]
      have hw := wrap_in (n := (i : Int) + 1) (by omega)
      simp -dsimp [cycle_Find_l10, egsIV, he, Eg.cells, setRange]
      refine ⟨fun _ => ?_, fun h => absurd h (by omega)⟩
      refine ⟨ok_of_1, call_purev (of_1_spec fs hfs e) (by simp) (by simp [Eg.av, Eg.cells]) (by simp [Eg.av, Eg.cells]) ?_⟩
      cases hk : ofK fs e with
      | false =>
        simp -dsimp [hw]
        exact ⟨hil, hq.succ fun h => by rw [hf, hk] at h; cases h⟩
      | true =>
        simp -dsimp
        have hpl := pick_le (ok := ofK rs) hl hil
        refine ⟨⟨?_, ?_⟩, ⟨?_, ?_⟩, ?_⟩
        all_goals
          refine call_newH (of_at rs 31) rfl (by simp [intsIV]) (by simp) (by simp) (by simp) ?_
          simp -dsimp
          refine call_le (le_drops [31] (by decide) _) ?_
          refine call_newH (back_cyc hl rs hrs he) rfl (by simp [egsIV]) (by simp) (by simp) (by simp) ?_
          by_cases hcy : cyc (grOf l (ofK rs)) i = []
          · simp -dsimp [hcy, hw]
            exact ⟨hil, hq.succ fun _ => hcy⟩
          · have hfd : fndE l fs rs = e :: pick l (cyc (grOf l (ofK rs)) i).tail := by
              unfold fndE
              rw [fnd_at hil (by rw [hf]; exact hk) hq hcy, cyc_pick he hcy]
            have ht : List.take (pick l (cyc (grOf l (ofK rs)) i).tail).length (List.map Eg.cells (pick l (cyc (grOf l (ofK rs)) i).tail)) = List.map Eg.cells (pick l (cyc (grOf l (ofK rs)) i).tail) := List.take_of_length_le (by simp)
            simp -dsimp [hcy, egsIV]
            exact ⟨by omega, by omega, [37, 9], by simp [EndV, AV.ivc, hfd, egsC, Eg.cells, Nat.add_comm 1, ht]⟩
    · have hie : i = l.length := by omega
      subst hie
      simp -dsimp [cycle_Find_l10, egsIV]
      exact ⟨[6], by simp [EndV, AV.ivc, fndE, fnd_no hq, pick_nil, egsC]⟩
end Go.Rt
end

/- Contracts: the reference's kinds; the ways of a length. -/
section
namespace Go.Rt
open Go.Vm

/-- ratlineref21.Kinds of bits alone -/
def knC (b : Int) : List IV := [ci b, cb false, ci 0, cb false, ci 0, .v (.string ⟨#[]⟩), cb false]
inductive Bk : Int → List Int → Prop
  | any : Bk 62 [1, 2, 3, 4, 5]
  | ww : Bk 2 [1]
  | rw : Bk 16 [4]
theorem Bk.small {b : Int} {ks : List Int} (h : Bk b ks) : ks.length < 2 ^ 62 := by cases h <;> decide
theorem Bk.out {b : Int} {ks : List Int} (h : Bk b ks) {x : Int} (hx : x < 1 ∨ 5 < x) : x ∉ ks := by
  cases h <;> simp <;> omega
theorem shr_62_1 : binV .shr (.int .i64 62) (.int .u64 (IntKind.u64.wrap 1)) = some (.int .i64 31) := by kernel_rfl
theorem shr_62_2 : binV .shr (.int .i64 62) (.int .u64 (IntKind.u64.wrap 2)) = some (.int .i64 15) := by kernel_rfl
theorem shr_62_3 : binV .shr (.int .i64 62) (.int .u64 (IntKind.u64.wrap 3)) = some (.int .i64 7) := by kernel_rfl
theorem shr_62_4 : binV .shr (.int .i64 62) (.int .u64 (IntKind.u64.wrap 4)) = some (.int .i64 3) := by kernel_rfl
theorem shr_62_5 : binV .shr (.int .i64 62) (.int .u64 (IntKind.u64.wrap 5)) = some (.int .i64 1) := by kernel_rfl
theorem shr_2_1 : binV .shr (.int .i64 2) (.int .u64 (IntKind.u64.wrap 1)) = some (.int .i64 1) := by kernel_rfl
theorem shr_2_2 : binV .shr (.int .i64 2) (.int .u64 (IntKind.u64.wrap 2)) = some (.int .i64 0) := by kernel_rfl
theorem shr_2_3 : binV .shr (.int .i64 2) (.int .u64 (IntKind.u64.wrap 3)) = some (.int .i64 0) := by kernel_rfl
theorem shr_2_4 : binV .shr (.int .i64 2) (.int .u64 (IntKind.u64.wrap 4)) = some (.int .i64 0) := by kernel_rfl
theorem shr_2_5 : binV .shr (.int .i64 2) (.int .u64 (IntKind.u64.wrap 5)) = some (.int .i64 0) := by kernel_rfl
theorem shr_16_1 : binV .shr (.int .i64 16) (.int .u64 (IntKind.u64.wrap 1)) = some (.int .i64 8) := by kernel_rfl
theorem shr_16_2 : binV .shr (.int .i64 16) (.int .u64 (IntKind.u64.wrap 2)) = some (.int .i64 4) := by kernel_rfl
theorem shr_16_3 : binV .shr (.int .i64 16) (.int .u64 (IntKind.u64.wrap 3)) = some (.int .i64 2) := by kernel_rfl
theorem shr_16_4 : binV .shr (.int .i64 16) (.int .u64 (IntKind.u64.wrap 4)) = some (.int .i64 1) := by kernel_rfl
theorem shr_16_5 : binV .shr (.int .i64 16) (.int .u64 (IntKind.u64.wrap 5)) = some (.int .i64 0) := by kernel_rfl
theorem Is_spec {b : Int} {ks : List Int} (h : Bk b ks) (e : Eg) : GSpec prog true n_ratlineref21_Kinds_Is [.agg ((knC b).map .iv), e.av] [] (vb (ofK ks e)) [] := by
  refine gspec1 ratlineref21_Kinds_Is_is (by simp) (by decide) rfl ?_
  by_cases h1 : e.kind < 1
  · have hk : ofK ks e = false := by simpa [ofK] using h.out (.inl h1)
    simp -dsimp [ratlineref21_Kinds_Is, Eg.av, Eg.cells, knC, h1, hk]
  · by_cases h2 : 5 < e.kind
    · have hk : ofK ks e = false := by simpa [ofK] using h.out (.inr h2)
      simp -dsimp [ratlineref21_Kinds_Is, Eg.av, Eg.cells, knC, h1, h2, hk]
    · have : e.kind = 1 ∨ e.kind = 2 ∨ e.kind = 3 ∨ e.kind = 4 ∨ e.kind = 5 := by omega
      rcases this with he | he | he | he | he <;> cases h <;>
        simp -dsimp [ratlineref21_Kinds_Is, Eg.av, Eg.cells, knC, he, ofK, shr_62_1, shr_62_2, shr_62_3, shr_62_4, shr_62_5, shr_2_1, shr_2_2, shr_2_3, shr_2_4, shr_2_5, shr_16_1, shr_16_2, shr_16_3, shr_16_4, shr_16_5] <;> decide

variable {l : List Eg} {ok : Eg → Bool}
theorem pick_last {p : List Nat} (hp : ∀ k, k ∈ p → k < l.length) (hne : p ≠ []) : ∃ e, (pick l p)[p.length - 1]? = some e ∧ e.to = nd (grOf l ok) p := by
  obtain ⟨q, k, rfl⟩ : ∃ q k, p = q ++ [k] := ⟨p.dropLast, p.getLast hne, (List.dropLast_concat_getLast hne).symm⟩
  obtain ⟨e, he⟩ := some_at (hp k (by simp))
  refine ⟨e, ?_, ?_⟩
  · rw [pick_get hp]; simp [he]
  · rw [nd_snoc, gr_T he]
theorem pick_head {p : List Nat} (hp : ∀ k, k ∈ p → k < l.length) (hne : p ≠ []) : ∃ e, (pick l p)[0]? = some e ∧ e.frm = (grOf l ok).F (p.headD 0) := by
  cases p with
  | nil => exact absurd rfl hne
  | cons k q =>
    obtain ⟨e, he⟩ := some_at (hp k (by simp))
    exact ⟨e, by rw [pick_cons he]; rfl, (gr_F he).symm⟩
theorem way_zero (p : List Nat) : wayM (grOf l ok) 0 p = if nd (grOf l ok) p = (grOf l ok).F (p.headD 0) then p else [] := rfl
theorem way_next (n : Nat) (p : List Nat) : wayM (grOf l ok) (n + 1) p = firstTo (fun k => if c1 (G := grOf l ok) p k then wayM (grOf l ok) n (p ++ [k]) else []) l.length := rfl
theorem way_inn : ∀ (n : Nat) {p : List Nat}, (∀ k, k ∈ p → k < l.length) → ∀ k, k ∈ wayM (grOf l ok) n p → k < l.length := by
  intro n
  induction n with
  | zero =>
    intro p hp k hk
    rw [way_zero] at hk
    split at hk
    · exact hp k hk
    · cases hk
  | succ n ih =>
    intro p hp k hk
    rw [way_next] at hk
    obtain ⟨i, hi, h2, _⟩ := firstTo_some (List.ne_nil_of_mem hk)
    rw [h2] at hk
    split at hk
    · refine ih (fun x hx => ?_) k hk
      rcases List.mem_append.1 hx with hx | hx
      · exact hp x hx
      · rw [List.mem_singleton.1 hx]; exact hi
    · cases hk
theorem way_len : ∀ (n : Nat) {p : List Nat}, (wayM (grOf l ok) n p).length ≤ p.length + n := by
  intro n
  induction n with
  | zero => intro p; rw [way_zero]; split <;> simp
  | succ n ih =>
    intro p
    rw [way_next]
    by_cases h : firstTo (fun k => if c1 (G := grOf l ok) p k then wayM (grOf l ok) n (p ++ [k]) else []) l.length = []
    · rw [h]; simp
    · obtain ⟨i, hi, h2, _⟩ := firstTo_some h
      rw [h2]
      split
      · have := ih (p := p ++ [i]); simp at this; omega
      · simp
theorem c1_at {p : List Nat} {k : Nat} {e : Eg} (hp : ∀ k, k ∈ p → k < l.length) (he : l[k]? = some e) : c1 (G := grOf l ok) p k = decide (ok e = true ∧ e.frm = nd (grOf l ok) p ∧ e.to ∉ (pick l p).map Eg.to) := by
  simp only [c1, gr_ok he, gr_F he, gr_T he, pick_to (ok := ok) hp]

set_option maxHeartbeats 4000000 in
theorem way_spec {b : Int} {ks : List Int} (hb : Bk b ks) (hl : l.length ≤ 2 ^ 30) : ∀ (n : Nat) {p : List Nat}, p ≠ [] → (∀ k, k ∈ p → k < l.length) → p.length + n ≤ 2 ^ 30 →
    GSpec prog false n_ratlineref21_way [.iv (egsIV l), .iv (egsIV (pick l p)), .agg ((knC b).map .iv), vi n] [] (.iv (egsIV (pick l (wayM (grOf l (ofK ks)) n p)))) [] := by
  intro n
  induction n with
  | zero =>
    intro p hne hp hlen
    have hpl := pick_len hp
    have hpos := List.length_pos_iff.2 hne
    obtain ⟨e, he, heT⟩ := pick_last (ok := ofK ks) hp hne
    obtain ⟨e2, he2, heF⟩ := pick_head (ok := ofK ks) hp hne
    rw [way_zero, ← heT, ← heF]
    refine gspec1V ratlineref21_way_is (by simp) (by decide) ?_
    obtain ⟨j, hj⟩ : ∃ j, p.length - 1 = j := ⟨_, rfl⟩
    rw [hj] at he
    have hw := wrap_in (n := (j : Int)) (by omega)
    have hi : (p.length : Int) - 1 = j := by omega
    simp -dsimp [ratlineref21_way, egsIV, knC, hpl, hw, hi, he, he2, Eg.cells, setRange]
    refine ⟨fun hq => ⟨[9, 6], by simp [EndV, AV.ivc, hq, egsC]⟩, fun hq => ⟨[8, 9, 6], by simp [EndV, AV.ivc, hq, egsC, pick_nil]⟩⟩
  | succ n ih =>
    intro p hne hp hlen
    have hpl := pick_len hp
    have hpos := List.length_pos_iff.2 hne
    obtain ⟨e, he, heT⟩ := pick_last (ok := ofK ks) hp hne
    refine gspec1V ratlineref21_way_is (by simp) (by decide) ?_
    obtain ⟨j, hj⟩ : ∃ j, p.length - 1 = j := ⟨_, rfl⟩
    rw [hj] at he
    have hw := wrap_in (n := (j : Int)) (by omega)
    have hi : (p.length : Int) - 1 = j := by omega
    have hw2 := wrap_in (n := ((n + 1 : Nat) : Int) - 1) (by omega)
    simp -dsimp [ratlineref21_way, egsIV, knC, hpl, hw, hi, he, Eg.cells, setRange]
    refine ⟨fun h => absurd h (by omega), fun _ => ?_⟩
    refine loop_idx [8] [11] l.length (fun i => ⟨[(10, vi i), (9, .ptr 9 0), (6, .ptr 6 0), (0, .iv (egsIV l)), (1, .iv (egsIV (pick l p))), (3, vi ((n : Int) + 1))], [(9, .box (e.cells.map .iv)), (6, .box ((knC b).map .iv))]⟩)
      (fun i => firstTo (fun k => if c1 (G := grOf l (ofK ks)) p k then wayM (grOf l (ofK ks)) n (p ++ [k]) else []) i = []) ?_ rfl ?_
    · simp [Eg.cells, knC, egsIV]
    · intro i hi hq
      by_cases hil : i < l.length
      · obtain ⟨e1, he1⟩ := some_at hil
        have hc1 := c1_at (ok := ofK ks) hp he1
        have hgo := firstTo_go hq
        have hwi := wrap_in (n := (i : Int) + 1) (by omega)
        simp -dsimp [ratlineref21_way_l18, egsIV, he1, Eg.cells, setRange, knC]
        refine ⟨fun _ => ?_, fun h => absurd h (by omega)⟩
        refine call_pure (Is_spec hb e1) (by simp [knC, Eg.av, Eg.cells]) (by simp [Eg.av, Eg.cells, knC]) ?_
        cases hk : ofK ks e1 with
        | false =>
          have hcf : c1 (G := grOf l (ofK ks)) p i = false := by rw [hc1, hk]; simp
          rw [hcf] at hgo
          simp -dsimp [hwi]
          exact ⟨hil, hgo⟩
        | true =>
          by_cases hfr : e1.frm = e.to
          · simp -dsimp [hfr]
            refine call_pure (d := 57) (met_spec (pick l p) (by omega) e1.to) (by simp [egsIV]) (by simp [egsIV]) ?_
            cases hm : decide (e1.to ∈ (pick l p).map Eg.to) with
            | true =>
              have hcf : c1 (G := grOf l (ofK ks)) p i = false := by rw [hc1]; simp only [decide_eq_true_eq] at hm; simp [hm]
              rw [hcf] at hgo
              simp -dsimp [hwi]
              exact ⟨hil, hgo⟩
            | false =>
              have hct : c1 (G := grOf l (ofK ks)) p i = true := by
                rw [hc1]; simp only [decide_eq_false_iff_not] at hm; simp only [hk, hfr, heT, hm, decide_true, true_and, not_false_eq_true]
              rw [hct] at hgo
              have hwn := wrap_in (n := (n : Int)) (by omega)
              have hfold : egsC (pick l p) ++ [[ci e.to, ci e1.to, ci e1.kind, ci e1.table, cb e1.key.text, ci e1.key.n, .v (.string e1.key.s), cb e1.cursor]] = egsC (pick l (p ++ [i])) := by
                rw [pick_snoc he1, ← hfr]; simp [egsC, Eg.cells]
              have hp2 : ∀ k, k ∈ p ++ [i] → k < l.length := fun k hk => by
                rcases List.mem_append.1 hk with hk | hk
                · exact hp k hk
                · rw [List.mem_singleton.1 hk]; exact hil
              have hpl2 := pick_len hp2
              have ht : List.take (p.length + 1) (egsC (pick l (p ++ [i]))) = egsC (pick l (p ++ [i])) := List.take_of_length_le (by simp [hpl2])
              simp -dsimp [hwi, hwn, hfold, hpl]
              refine ⟨by omega, by omega, by omega, by omega, ?_⟩
              refine call_le (le_drops [64] (by decide) _) ?_
              refine call_newH (ih (p := p ++ [i]) (by simp) hp2 (by simp; omega)) rfl (by simp [egsIV, knC, ht]) (by simp) (by simp) (by simp) ?_
              have hwl := way_len (l := l) (ok := ofK ks) n (p := p ++ [i])
              have hwp := pick_len (l := l) (way_inn (ok := ofK ks) n hp2)
              rw [List.length_append, List.length_singleton] at hwl
              by_cases hz : wayM (grOf l (ofK ks)) n (p ++ [i]) = []
              · simp -dsimp [hz, egsIV, egsC, pick_nil, hwi]
                exact ⟨hil, by rw [hgo]; simpa using hz⟩
              · have hpos2 := List.length_pos_iff.2 hz
                simp only [if_true] at hgo
                have hfin : wayM (grOf l (ofK ks)) (n + 1) p = wayM (grOf l (ofK ks)) n (p ++ [i]) := by
                  rw [way_next, firstTo_stays (j := i + 1) (by rw [hgo]; exact hz) hil, hgo]
                simp -dsimp [egsIV, hwp, hpos2, hfin]
                exact ⟨[11, 9, 6], by simp [EndV, AV.ivc]⟩
          · have hcf : c1 (G := grOf l (ofK ks)) p i = false := by rw [hc1, ← heT]; simp [hfr]
            rw [hcf] at hgo
            simp -dsimp [hfr, hwi]
            exact ⟨hil, hgo⟩
      · have hie : i = l.length := by omega
        subst hie
        simp -dsimp [ratlineref21_way_l18, egsIV]
        exact ⟨[8, 9, 6], by simp [EndV, AV.ivc, way_next, hq, egsC, pick_nil]⟩
end Go.Rt
end

/- Contracts: the reference's cycle. -/
section
namespace Go.Rt
open Go.Vm
variable {l : List Eg} {ok : Eg → Bool}
theorem cyc_way (s : Nat) : cyc (grOf l ok) s = firstTo (fun n => wayM (grOf l ok) n [s]) (l.length + 1) := rfl

set_option maxHeartbeats 4000000 in
theorem RFind_spec {bf br : Int} {fs rs : List Int} (hf : Bk bf fs) (hr : Bk br rs) (hl : l.length ≤ 2 ^ 29) :
    GSpec prog false n_ratlineref21_Find [.iv (egsIV l), .agg ((knC bf).map .iv), .agg ((knC br).map .iv)] [] (.iv (egsIV (fndE l fs rs))) [] := by
  refine gspec1V ratlineref21_Find_is (by simp) (by decide) ?_
  simp -dsimp [ratlineref21_Find, knC]
  refine loop_idx [6] [] l.length (fun i => ⟨[(7, vi i), (4, .ptr 4 0), (5, .ptr 5 0), (0, .iv (egsIV l))], [(5, .box ((knC br).map .iv)), (4, .box ((knC bf).map .iv))]⟩)
    (fun i => Upto i fun j => fstK l fs j = true → cyc (grOf l (ofK rs)) j = []) ?_ upto_zero ?_
  · simp [knC]
  · intro i hi hq
    by_cases hil : i < l.length
    · obtain ⟨e, he⟩ := some_at hil
      have hfs : fstK l fs i = ofK fs e := by simp [fstK, he]
      have hwi := wrap_in (n := (i : Int) + 1) (by omega)
      simp -dsimp [ratlineref21_Find_l13, egsIV, he, Eg.cells, setRange, knC]
      refine ⟨fun _ => ?_, fun h => absurd h (by omega)⟩
      refine call_pure (Is_spec hf e) (by simp [knC, Eg.av, Eg.cells]) (by simp [Eg.av, Eg.cells, knC]) ?_
      cases hk : ofK fs e with
      | false =>
        simp -dsimp [hwi]
        exact ⟨hil, hq.succ fun h => by rw [hfs, hk] at h; cases h⟩
      | true =>
        simp -dsimp
        refine loop_idx [] [36] (l.length + 1) (fun n => ⟨[(9, vi n), (7, vi i), (4, .ptr 4 0), (5, .ptr 5 0), (0, .iv (egsIV l))], [(5, .box ((knC br).map .iv)), (4, .box ((knC bf).map .iv))]⟩)
          (fun n => firstTo (fun n => wayM (grOf l (ofK rs)) n [i]) n = []) ?_ rfl ?_
        · simp [knC, egsIV]
        · intro n hn hq2
          have hwn := wrap_in (n := (n : Int) + 1) (by omega)
          by_cases hnl : n ≤ l.length
          · have hgo := firstTo_go hq2
            have hfold : [[ci e.frm, ci e.to, ci e.kind, ci e.table, cb e.key.text, ci e.key.n, .v (.string e.key.s), cb e.cursor]] = egsC (pick l [i]) := by
              rw [pick_cons he, pick_nil]; rfl
            simp -dsimp [ratlineref21_Find_l11, egsIV, he, Eg.cells, setRange, knC]
            refine ⟨fun _ => ?_, fun h => absurd h (by omega)⟩
            refine call_newH (way_spec (l := l) hr (by omega) n (p := [i]) (by simp) (by simpa using hil) (by simp; omega)) rfl (by simp [egsIV, knC, hfold]; exact List.take_of_length_le (by simp [egsC, pick_cons he, pick_nil])) (by simp) (by simp) (by simp) ?_
            have hwp := pick_len (l := l) (way_inn (ok := ofK rs) n (p := [i]) (by simpa using hil))
            by_cases hz : wayM (grOf l (ofK rs)) n [i] = []
            · simp -dsimp [hz, egsIV, egsC, pick_nil, hwn]
              exact ⟨by omega, by rw [hgo]; exact hz⟩
            · have hpos2 := List.length_pos_iff.2 hz
              have hcy : cyc (grOf l (ofK rs)) i = wayM (grOf l (ofK rs)) n [i] := by
                rw [cyc_way, firstTo_stays (j := n + 1) (by rw [hgo]; exact hz) (by omega), hgo]
              have hfd : fndE l fs rs = pick l (wayM (grOf l (ofK rs)) n [i]) := by
                unfold fndE
                rw [fnd_at hil (by rw [hfs]; exact hk) hq (by rw [hcy]; exact hz), hcy]
              simp -dsimp [egsIV, hwp, hpos2]
              exact ⟨[5, 4], by simp [EndV, AV.ivc, hfd]⟩
          · have hne : n = l.length + 1 := by omega
            have hnc : ¬(n : Int) ≤ l.length := by omega
            have hnc2 : ¬ n ≤ l.length := by omega
            have hcy : cyc (grOf l (ofK rs)) i = [] := by rw [cyc_way, ← hne]; exact hq2
            simp -dsimp [ratlineref21_Find_l11, egsIV, hnc, hnc2, hwi, knC]
            exact ⟨hil, hq.succ fun _ => hcy⟩
    · have hie : i = l.length := by omega
      subst hie
      simp -dsimp [ratlineref21_Find_l13, egsIV]
      exact ⟨[6, 5, 4], by simp [EndV, AV.ivc, fndE, fnd_no hq, pick_nil, egsC]⟩
end Go.Rt
end

/- Contracts: rows of edges compared; kinds; whether an edge is among some. -/
section
namespace Go.Rt
open Go.Vm

theorem Eg.eq_iff {a b : Eg} : a = b ↔ a.frm = b.frm ∧ a.to = b.to ∧ a.kind = b.kind ∧ a.table = b.table ∧ a.key.text = b.key.text ∧ a.key.n = b.key.n ∧ a.key.s = b.key.s ∧ a.cursor = b.cursor := by
  obtain ⟨a1, a2, a3, a4, ⟨a5, a6, a7⟩, a8⟩ := a
  obtain ⟨b1, b2, b3, b4, ⟨b5, b6, b7⟩, b8⟩ := b
  simp [and_assoc]
instance : DecidableEq Eg := fun a b => decidable_of_iff _ (Eg.eq_iff (a := a) (b := b)).symm
theorem Eg.ne_iff {a b : Eg} : a ≠ b ↔ ¬a.frm = b.frm ∨ ¬a.to = b.to ∨ ¬a.kind = b.kind ∨ ¬a.table = b.table ∨ ¬a.key.text = b.key.text ∨ ¬a.key.n = b.key.n ∨ ¬a.key.s = b.key.s ∨ ¬a.cursor = b.cursor := by
  rw [Ne, Eg.eq_iff]; simp only [Classical.not_and_iff_not_or_not]
theorem ref10_Ints_spec (a b : List Int) (hl : a.length < 2 ^ 63) : GSpec prog true n_ratlineref10_Ints [.iv (intsIV a), .iv (intsIV b)] [] (vb (decide (a = b))) [] := by
  refine gspec1 ratlineref10_Ints_is (by simp) (by decide) rfl ?_
  by_cases hlen : a.length = b.length
  · have hlen' : (a.length : Int) = b.length := by omega
    simp -dsimp [ratlineref10_Ints, intsIV, hlen']
    refine loop_idx [] [] b.length (fun i => ⟨[(5, vi i), (0, .iv (.lst 1 (intsC a))), (1, .iv (.lst 1 (intsC b)))], []⟩) (fun i => a.take i = b.take i) ?_ ?_ ?_
    · simp -dsimp
    · simp
    · intro i hi hq
      simp -dsimp [ratlineref10_Ints_l8, hlen']
      refine ⟨fun hlt => ?_, fun hge => ?_⟩
      · obtain ⟨x, hx⟩ : ∃ x, a[i]? = some x := some_at (by omega)
        obtain ⟨y, hy⟩ := some_at hlt
        have hw := wrap_in (n := (i : Int) + 1) (by omega)
        simp -dsimp [hx, hy, hw]
        refine ⟨fun g e => ?_, fun g => ⟨hlt, by rw [take_next hx, take_next hy, hq, g]⟩⟩
        subst e; rw [hx] at hy; cases hy; exact g rfl
      · rw [List.take_of_length_le (by omega), List.take_of_length_le hge] at hq
        simpa using hq
  · have hne : ¬a = b := fun g => hlen (by rw [g])
    have hlen' : ¬(a.length : Int) = b.length := by omega
    simp -dsimp [ratlineref10_Ints, intsIV, hlen', hne]
theorem ref20_Same_spec (a b : List Eg) (hl : a.length < 2 ^ 62) : GSpec prog true n_ratlineref20_Same [.iv (egsIV a), .iv (egsIV b)] [] (vb (decide (a = b))) [] := by
  refine gspec1 ratlineref20_Same_is (by simp) (by decide) rfl ?_
  by_cases hlen : a.length = b.length
  · have hlen' : (a.length : Int) = b.length := by omega
    simp -dsimp [ratlineref20_Same, egsIV, hlen']
    refine loop_idx [] [] b.length (fun i => ⟨[(5, vi i), (0, .iv (.lst 8 (egsC a))), (1, .iv (.lst 8 (egsC b)))], []⟩) (fun i => a.take i = b.take i) ?_ ?_ ?_
    · simp -dsimp
    · simp
    · intro i hi hq
      simp -dsimp [ratlineref20_Same_l8, hlen']
      refine ⟨fun hlt => ?_, fun hge => ?_⟩
      · obtain ⟨x, hx⟩ : ∃ x, a[i]? = some x := some_at (by omega)
        obtain ⟨y, hy⟩ := some_at hlt
        have hw := wrap_in (n := (i : Int) + 1) (by omega)
        simp -dsimp [hx, hy, hw, Eg.cells, setRange]
        refine ⟨fun g => ?_, fun g1 g2 g3 g4 g5 g6 g7 g8 => ⟨hlt, ?_⟩⟩
        · have hne := Eg.ne_iff.2 g
          rintro rfl
          rw [hx] at hy; cases hy; exact hne rfl
        · rw [take_next hx, take_next hy, hq, Eg.eq_iff.2 ⟨g1, g2, g3, g4, g5, g6, g7, g8⟩]
      · rw [List.take_of_length_le (by omega), List.take_of_length_le hge] at hq
        simpa using hq
  · have hne : ¬a = b := fun g => hlen (by rw [g])
    have hlen' : ¬(a.length : Int) = b.length := by omega
    simp -dsimp [ratlineref20_Same, egsIV, hlen', hne]
theorem law21_in_spec (l : List Eg) (e : Eg) (hl : l.length < 2 ^ 62) : GSpec prog true n_ratlinelaw21_in [.iv (egsIV l), e.av] [] (vb (decide (e ∈ l))) [] := by
  refine gspec1 ratlinelaw21_in_is (by simp) (by decide) rfl ?_
  simp -dsimp [ratlinelaw21_in, egsIV, Eg.av, Eg.cells]
  refine loop_idx [] [] l.length (fun i => ⟨[(5, vi i), (0, .iv (.lst 8 (egsC l))), (3, .ptr 3 0)], [(3, .box (e.cells.map .iv))]⟩) (fun i => Upto i fun j => ∀ x, l[j]? = some x → x ≠ e) ?_ upto_zero ?_
  · simp -dsimp [Eg.cells]
  · intro i hi hq
    simp -dsimp [ratlinelaw21_in_l6, Eg.cells]
    refine ⟨fun hlt => ?_, fun hge => ?_⟩
    · obtain ⟨x, hx⟩ := some_at hlt
      have hw := wrap_in (n := (i : Int) + 1) (by omega)
      simp -dsimp [hx, hw, Eg.cells, setRange]
      refine ⟨fun g1 g2 g3 g4 g5 g6 g7 g8 => ?_, fun g => ⟨hlt, hq.succ fun y hy h => ?_⟩⟩
      · have := Eg.eq_iff.2 ⟨g1, g2, g3, g4, g5, g6, g7, g8⟩
        exact this ▸ List.mem_of_getElem? hx
      · rw [hx] at hy; cases hy; subst h; exact g rfl rfl rfl rfl rfl rfl rfl rfl
    · exact fun h => upto_all hge hq e h rfl
theorem all_spec : GSpec prog false n_ratlinelaw21_all [] [] (.iv (intsIV [1, 2, 3, 4, 5])) [] := by
  refine gspec1V ratlinelaw21_all_is (by simp) (by decide) ?_
  simp -dsimp [ratlinelaw21_all]
  exact ⟨[1], by simp [EndV, AV.ivc, intsIV, intsC]⟩
theorem writes_spec : GSpec prog false n_ratlinelaw21_writes [] [] (.iv (intsIV [1])) [] := by
  refine gspec1V ratlinelaw21_writes_is (by simp) (by decide) ?_
  simp -dsimp [ratlinelaw21_writes]
  exact ⟨[1], by simp [EndV, AV.ivc, intsIV, intsC]⟩
theorem reads_spec : GSpec prog false n_ratlinelaw21_reads [] [] (.iv (intsIV [4])) [] := by
  refine gspec1V ratlinelaw21_reads_is (by simp) (by decide) ?_
  simp -dsimp [ratlinelaw21_reads]
  exact ⟨[1], by simp [EndV, AV.ivc, intsIV, intsC]⟩
end Go.Rt
end

/- Contracts: whether edges are a cycle, whether a row respects them. -/
section
namespace Go.Rt
open Go.Vm

/-- edges that are a cycle -/
def VP (l : List Eg) : Prop := l ≠ [] ∧ ∀ i a b, l[i]? = some a → l[(i + 1) % l.length]? = some b → a.to = b.frm ∧ a.to ∉ (l.map Eg.to).take i
def VPat (l : List Eg) (i : Nat) : Prop := ∀ a b, l[i]? = some a → l[(i + 1) % l.length]? = some b → a.to = b.frm ∧ a.to ∉ (l.map Eg.to).take i
theorem VP_of {l : List Eg} {i : Nat} (hne : l ≠ []) (hi : l.length ≤ i) (h : Upto i (VPat l)) : VP l :=
  ⟨hne, fun k a b ha hb => h k (by have := (List.getElem?_eq_some_iff.1 ha).1; omega) a b ha hb⟩
theorem tmod_next (i n : Nat) : ((i : Int) + 1).tmod (n : Int) = ((i + 1) % n : Nat) := by
  rw [Int.tmod_eq_emod_of_nonneg (by omega), Int.natCast_emod, Int.natCast_add]; rfl
open Classical in
theorem RValid_spec (l : List Eg) (hl : l.length < 2 ^ 62) : GSpec prog true n_ratlineref21_Valid [.iv (egsIV l)] [] (vb (decide (VP l))) [] := by
  refine gspec1 ratlineref21_Valid_is (by simp) (by decide) rfl ?_
  by_cases hne : l = []
  · subst hne
    have : ¬VP [] := fun h => h.1 rfl
    simp -dsimp [ratlineref21_Valid, egsIV, egsC, this]
  · have hpos := List.length_pos_iff.2 hne
    have hpos2 : ¬(l.length : Int) = 0 := by omega
    simp -dsimp [ratlineref21_Valid, egsIV, hpos2, hne]
    refine loop_idx [] [4] l.length (fun i => ⟨[(3, vi i), (0, .iv (.lst 8 (egsC l)))], []⟩) (fun i => Upto i (VPat l)) ?_ upto_zero ?_
    · simp -dsimp
    · intro i hi hq
      simp -dsimp [ratlineref21_Valid_l9]
      refine ⟨fun hlt => ?_, fun hge => VP_of hne hge hq⟩
      obtain ⟨x, hx⟩ := some_at hlt
      obtain ⟨y, hy⟩ := some_at (l := l) (i := (i + 1) % l.length) (Nat.mod_lt _ hpos)
      have hw := wrap_in (n := (i : Int) + 1) (by omega)
      have hm := tmod_next i l.length
      obtain ⟨j, hj⟩ : ∃ j, (i + 1) % l.length = j := ⟨_, rfl⟩
      rw [hj] at hm hy
      have hat : VPat l i ↔ x.to = y.frm ∧ x.to ∉ (l.map Eg.to).take i := by
        constructor
        · exact fun h => h x y hx (by rw [hj]; exact hy)
        · intro h a b ha hb
          rw [hx] at ha; cases ha
          rw [hj, hy] at hb; cases hb
          exact h
      have hno : ¬VPat l i → ¬VP l := fun h g => h (g.2 i)
      by_cases hxy : x.to = y.frm
      · simp -dsimp [hx, hy, hw, hne, hm, hxy, Eg.cells, setRange]
        refine ⟨by omega, call_pure (d := 39) (met_spec (l.take i) (by simp; omega) y.frm) (by simp [egsIV, egsC]) (by simp [egsIV]) ?_⟩
        rw [hxy] at hat
        rw [List.map_take]
        cases hmt : decide (y.frm ∈ (l.map Eg.to).take i) with
        | true =>
          simp only [decide_eq_true_eq] at hmt
          have hnv := hno (by rw [hat]; exact fun h => h.2 hmt)
          simp -dsimp [hnv]
        | false =>
          simp only [decide_eq_false_iff_not] at hmt
          simp -dsimp [hw]
          exact ⟨hlt, hq.succ (hat.2 ⟨rfl, hmt⟩)⟩
      · have hnv := hno (by rw [hat]; exact fun h => hxy h.1)
        simp -dsimp [hx, hy, hw, hne, hm, hxy, Eg.cells, setRange, hnv]

/-- how often a number was come to -/
def gM (m : List Int) : List Value → Option (List IV)
  | [.int .i64 k] => if k ∈ m then some [ci 1] else none
  | _ => none
theorem gM_set {m : List Int} {k : Int} : gset (gM m) [.int .i64 k] (some [ci 1]) = gM (m ++ [k]) := by
  funext q
  simp only [gset]
  split
  · rename_i e; subst e; simp [gM]
  · rename_i hne
    unfold gM
    split
    · rename_i q'
      have : q' ≠ k := by rintro rfl; exact hne rfl
      simp [this]
    · rfl
theorem gM_nil : (fun _ => none : List Value → Option (List IV)) = gM [] := by
  funext q; unfold gM; split <;> simp
open Classical in
theorem Valid_spec (l : List Eg) (hl : l.length < 2 ^ 62) : GSpec prog true n_cycle_Valid [.iv (egsIV l)] [] (vb (decide (VP l))) [] := by
  refine gspec1 cycle_Valid_is (by simp) (by decide) rfl ?_
  simp -dsimp [cycle_Valid, egsIV]
  refine loop_idx [] [5] l.length (fun i => ⟨[(9, vi i), (8, vi l.length), (7, .iv (egsIV l)), (3, .mpr 6), (0, .iv (egsIV l))], [(6, .map skF (gM ((l.map Eg.to).take i)))]⟩) (fun i => Upto i (VPat l)) ?_ upto_zero ?_
  · simp -dsimp [egsIV, gM_nil]
  · intro i hi hq
    simp -dsimp [cycle_Valid_l9, egsIV]
    refine ⟨fun hlt => ?_, fun hge => ?_⟩
    · have hpos : 0 < l.length := by omega
      have hne := List.length_pos_iff.1 hpos
      obtain ⟨x, hx⟩ := some_at hlt
      obtain ⟨y, hy⟩ := some_at (l := l) (i := (i + 1) % l.length) (Nat.mod_lt _ hpos)
      have hw := wrap_in (n := (i : Int) + 1) (by omega)
      have hm := tmod_next i l.length
      obtain ⟨j, hj⟩ : ∃ j, (i + 1) % l.length = j := ⟨_, rfl⟩
      rw [hj] at hm hy
      have hat : VPat l i ↔ x.to = y.frm ∧ x.to ∉ (l.map Eg.to).take i := by
        constructor
        · exact fun h => h x y hx (by rw [hj]; exact hy)
        · intro h a b ha hb
          rw [hx] at ha; cases ha
          rw [hj, hy] at hb; cases hb
          exact h
      have hno : ¬VPat l i → ¬VP l := fun h g => h (g.2 i)
      have htk : (l.map Eg.to).take (i + 1) = (l.map Eg.to).take i ++ [x.to] := by exact take_next (by simp [hx])
      rw [htk]
      generalize (l.map Eg.to).take i = ms at *
      by_cases hxy : x.to = y.frm
      · by_cases hmt : x.to ∈ ms
        · have hg : gM ms [.int .i64 x.to] = some [ci 1] := by simp [gM, hmt]
          have hnv := hno (by rw [hat]; exact fun h => h.2 hmt)
          rw [hxy] at hg
          simp -dsimp [hx, hy, hw, hne, hm, hxy, Eg.cells, setRange, hg, hnv]
        · have hg : gM ms [.int .i64 x.to] = none := by simp [gM, hmt]
          have hgs := gM_set (m := ms) (k := x.to)
          rw [hxy] at hg hgs
          simp -dsimp [hx, hy, hw, hne, hm, hxy, Eg.cells, setRange, hg, hgs]
          exact ⟨hlt, hgs, hq.succ (hat.2 ⟨hxy, hmt⟩)⟩
      · have hnv := hno (by rw [hat]; exact fun h => hxy h.1)
        simp -dsimp [hx, hy, hw, hne, hm, hxy, Eg.cells, setRange, hnv]
    · exact ⟨fun h => VP_of (List.length_pos_iff.1 h) hge hq, fun h => List.length_pos_iff.2 h.1⟩
end Go.Rt
end

/- Contracts: whether a row respects edges. -/
section
namespace Go.Rt
open Go.Vm

/-- an edge leads forward -/
def fwd (row : List Int) (e : Eg) : Bool := decide (place row e.frm < 0 ∨ place row e.to < 0 ∨ place row e.frm < place row e.to)
theorem place_lt (row : List Int) (x : Int) : place row x < row.length := by
  unfold place
  rcases ixP_cases (fun y => decide (x = y)) row with ⟨i, y, h1, h2, h3, _⟩ | ⟨h1, h2⟩
  · rw [h3]; have := (List.getElem?_eq_some_iff.1 h1).1; omega
  · rw [h2]; omega
theorem RRespects_spec (l : List Eg) (row : List Int) (hl : l.length < 2 ^ 62) (hr : row.length < 2 ^ 62) : GSpec prog true n_ratlineref21_Respects [.iv (egsIV l), .iv (intsIV row)] [] (vb (l.all (fwd row))) [] := by
  refine gspec1 ratlineref21_Respects_is (by simp) (by decide) rfl ?_
  simp -dsimp [ratlineref21_Respects, egsIV, intsIV]
  refine loop_idx [] [] l.length (fun i => ⟨[(5, vi i), (0, .iv (.lst 8 (egsC l))), (1, .iv (.lst 1 (intsC row)))], []⟩) (fun i => Upto i fun j => ∀ e, l[j]? = some e → fwd row e = true) ?_ upto_zero ?_
  · simp -dsimp
  · intro i hi hq
    simp -dsimp [ratlineref21_Respects_l8]
    refine ⟨fun hlt => ?_, fun hge => ?_⟩
    · obtain ⟨e, he⟩ := some_at hlt
      have hw := wrap_in (n := (i : Int) + 1) (by omega)
      simp -dsimp [he, Eg.cells]
      refine call_pure (place_spec row hr e.frm) (by simp [intsIV]) (by simp [intsIV]) ?_
      simp -dsimp [he, Eg.cells]
      refine call_pure (place_spec row hr e.to) (by simp [intsIV]) (by simp [intsIV]) ?_
      have hno : fwd row e = false → l.all (fwd row) = false := fun hf => by
        rw [List.all_eq_false]; exact ⟨e, List.mem_of_getElem? he, by rw [hf]; simp⟩
      have hfw : fwd row e = decide (place row e.frm < 0 ∨ place row e.to < 0 ∨ place row e.frm < place row e.to) := rfl
      have hgo : fwd row e = true → Upto (i + 1) fun j => ∀ e, l[j]? = some e → fwd row e = true := fun h => hq.succ fun y hy => by rw [he] at hy; cases hy; exact h
      generalize place row e.frm = a at *
      generalize place row e.to = c at *
      by_cases h1 : 0 ≤ a
      · by_cases h2 : 0 ≤ c
        · by_cases h3 : c ≤ a
          · have hf := hno (by rw [hfw]; simp; omega)
            simp -dsimp [h1, h2, h3, hf]
          · have hf := hgo (by rw [hfw]; simp; omega)
            simp -dsimp [h1, h2, h3, hw]
            exact ⟨hlt, hf⟩
        · have hf := hgo (by rw [hfw]; simp; omega)
          simp -dsimp [h1, h2, hw]
          exact ⟨hlt, hf⟩
      · have hf := hgo (by rw [hfw]; simp; omega)
        simp -dsimp [h1, hw]
        exact ⟨hlt, hf⟩
    · have := upto_all hge hq
      simpa using this
theorem ok_resp_1 : okFn prog n_cycle_Respects_1 = true := by kernel_rfl
theorem ok_resp_2 : okFn prog n_cycle_Respects_2 = true := by kernel_rfl
theorem resp1_spec (row : List Int) (hr : row.length < 2 ^ 62) (e : Eg) : GSpec prog true n_cycle_Respects_1 [e.av, .iv (.pt [intsIV row])] [] (vb (fwd row e)) [] := by
  refine gspec1 cycle_Respects_1_is (by simp) (by decide) rfl ?_
  simp -dsimp [cycle_Respects_1, Eg.av, Eg.cells]
  have hfw : fwd row e = decide (place row e.frm < 0 ∨ place row e.to < 0 ∨ place row e.frm < place row e.to) := rfl
  refine ⟨?_, ⟨?_, ?_⟩, ?_, ?_⟩
  all_goals
    refine call_pure (slices_Index_spec row (by omega) e.frm) (by simp) (by simp [intsIV]) ?_
    simp -dsimp
    refine call_pure (slices_Index_spec row (by omega) e.to) (by simp) (by simp [intsIV]) ?_
    generalize place row e.frm = a at *
    generalize place row e.to = c at *
    by_cases h1 : a < 0
    · simp -dsimp [h1, hfw]
    · by_cases h2 : c < 0
      · simp -dsimp [h1, h2, hfw]
      · simp -dsimp [h1, h2, hfw]
/-- the function that is captured -/
def Rc (row : List Int) : Ob := .box [.fn n_cycle_Respects_1 [] [.val (.pt [intsIV row])]]
@[simp] theorem Rc_hi (row : List Int) : (Rc row).hi = true := rfl
theorem resp2_spec (row : List Int) (hr : row.length < 2 ^ 62) (e : Eg) : GSpec prog false n_cycle_Respects_2 [e.av, .ptr 1000 0] [(1000, Rc row)] (vb (!fwd row e)) [(1000, Rc row)] := by
  refine gspecM1 cycle_Respects_2_is (by simp) (by decide) (by simp) rfl ?_
  simp -dsimp [cycle_Respects_2, Eg.av, Eg.cells, Rc]
  refine ⟨ok_resp_1, call_purev (resp1_spec row hr e) (by simp) (by simp [Eg.av, Eg.cells]) (by simp [Eg.av, Eg.cells, intsIV]) ?_⟩
  simp -dsimp
  rfl
theorem IndexFunc_spec (l : List Eg) (row : List Int) (hl : l.length < 2 ^ 62) (hr : row.length < 2 ^ 62) : GSpec prog false n_slices_IndexFunc_api_Edge_api_Edge [.iv (egsIV l), .fn n_cycle_Respects_2 [] [.ptr 1000 0]] [(1000, Rc row)] (vi (ixP (fun e => !fwd row e) l)) [(1000, Rc row)] := by
  refine gspecM1 slices_IndexFunc_api_Edge_api_Edge_is (by simp) (by decide) (by simp) rfl ?_
  simp -dsimp [slices_IndexFunc_api_Edge_api_Edge, egsIV]
  refine loop_idx [] [] l.length (fun i => ⟨[(8, vi i), (7, vi l.length), (0, .iv (.lst 8 (egsC l))), (1, .fn n_cycle_Respects_2 [] [.ptr 1000 0])], [(1000, Rc row)]⟩) (fun i => Upto i fun j => ∀ e, l[j]? = some e → (!fwd row e) = false) ?_ upto_zero ?_
  · simp -dsimp
  · intro i hi hq
    simp -dsimp [slices_IndexFunc_api_Edge_api_Edge_l7]
    refine ⟨fun hlt => ?_, fun hge => ?_⟩
    · obtain ⟨e, he⟩ := some_at hlt
      have hw := wrap_in (n := (i : Int) + 1) (by omega)
      simp -dsimp [he, Eg.cells, setRange]
      refine ⟨ok_resp_2, call_mut (resp2_spec row hr e) rfl (by simp) (by simp [Eg.av, Eg.cells]) (by simp [Eg.av, Eg.cells]) (by simp) (by simp [Rc]) (by simp [Rc]) (by simp) ?_⟩
      cases hf : fwd row e with
      | true =>
        simp -dsimp [hw]
        exact ⟨hlt, Upto.succ (fun j hj y hy => by simpa using hq j hj y hy) fun y hy => by rw [he] at hy; cases hy; exact hf⟩
      | false =>
        have := ixP_at (p := fun e => !fwd row e) he (by rw [hf]; rfl) hq
        simp -dsimp [this]
    · rw [ixP_none (upto_all hge hq)]
theorem ContainsFunc_spec (l : List Eg) (row : List Int) (hl : l.length < 2 ^ 62) (hr : row.length < 2 ^ 62) : GSpec prog false n_slices_ContainsFunc_api_Edge_api_Edge [.iv (egsIV l), .fn n_cycle_Respects_2 [] [.ptr 1000 0]] [(1000, Rc row)] (vb (!(l.all (fwd row)))) [(1000, Rc row)] := by
  refine gspecM1 slices_ContainsFunc_api_Edge_api_Edge_is (by simp) (by decide) (by simp) rfl ?_
  simp -dsimp [slices_ContainsFunc_api_Edge_api_Edge]
  refine call_mut (IndexFunc_spec l row hl hr) rfl (by simp) (by simp) (by simp [egsIV]) (by simp) (by simp [Rc]) (by simp [Rc]) (by simp) ?_
  simp -dsimp
  have := ixP_nonneg (fun e => !fwd row e) l
  cases ha : l.all (fwd row) with
  | true =>
    rw [List.all_eq_true] at ha
    have : ¬0 ≤ ixP (fun e => !fwd row e) l := fun h => by
      obtain ⟨x, hx, hp⟩ := this.1 h
      rw [ha x hx] at hp; cases hp
    simpa using this
  | false =>
    rw [List.all_eq_false] at ha
    obtain ⟨x, hx, hp⟩ := ha
    have : 0 ≤ ixP (fun e => !fwd row e) l := this.2 ⟨x, hx, by simpa using hp⟩
    simpa using this
theorem ContainsFunc_5 (l : List Eg) (row : List Int) (hl : l.length < 2 ^ 62) (hr : row.length < 2 ^ 62) : GSpec prog false n_slices_ContainsFunc_api_Edge_api_Edge [.iv (egsIV l), .fn n_cycle_Respects_2 [] [.ptr 5 0]] [(5, Rc row)] (vb (!(l.all (fwd row)))) [(5, Rc row)] :=
  (ContainsFunc_spec l row hl hr).ren (Ren.swaps [(1000, 5)]) rfl
theorem Respects_spec (l : List Eg) (row : List Int) (hl : l.length < 2 ^ 62) (hr : row.length < 2 ^ 62) : GSpec prog false n_cycle_Respects [.iv (egsIV l), .iv (intsIV row)] [] (vb (l.all (fwd row))) [] := by
  refine gspec1V cycle_Respects_is (by simp) (by decide) ?_
  simp -dsimp [cycle_Respects]
  refine call_le (le_drops [3] (by decide) _) ?_
  refine call_mut (ContainsFunc_5 l row hl hr) rfl (by simp) (by simp) (by simp [egsIV]) (by simp [Rc]) (by simp [Rc]) (by simp [Rc]) (by simp) ?_
  simp -dsimp
  exact ⟨[5], by simp [EndV, AV.ivc]⟩
end Go.Rt
end

/- What a cycle that is found is like. -/
section
namespace Go.Rt
open Go.Vm
section
variable {l : List Eg} {ok : Eg → Bool}
theorem cyc_inn {s : Nat} (hs : s < l.length) : ∀ k, k ∈ cyc (grOf l ok) s → k < l.length := by
  intro k hk
  by_cases h : cyc (grOf l ok) s = []
  · rw [h] at hk; cases hk
  · obtain ⟨D, hw, _⟩ := cyc_is (G := grOf l ok) hs h
    exact hw.inn k hk
theorem fnd_inn {first : Nat → Bool} : ∀ k, k ∈ fnd (grOf l ok) first → k < l.length := by
  intro k hk
  obtain ⟨i, h1, h2, h3, _⟩ := fnd_some (List.ne_nil_of_mem hk)
  rw [h3] at hk
  exact cyc_inn h1 k hk
theorem fndE_ne {fs rs : List Int} : fndE l fs rs ≠ [] ↔ fnd (grOf l (ofK rs)) (fstK l fs) ≠ [] := by
  have := pick_len (l := l) (p := fnd (grOf l (ofK rs)) (fstK l fs)) fnd_inn
  unfold fndE
  rw [← List.length_pos_iff, ← List.length_pos_iff, this]
theorem adj_iff {a b : Int} : Adj (grOf l ok) a b ↔ ∃ e, e ∈ l ∧ ok e = true ∧ e.frm = a ∧ e.to = b := by
  constructor
  · rintro ⟨k, h1, h2, h3, h4⟩
    obtain ⟨e, he⟩ := some_at (l := l) h1
    rw [gr_ok he] at h2; rw [gr_F he] at h3; rw [gr_T he] at h4
    exact ⟨e, List.mem_of_getElem? he, h2, h3, h4⟩
  · rintro ⟨e, h1, h2, h3, h4⟩
    obtain ⟨k, he⟩ := List.getElem?_of_mem h1
    exact ⟨k, (List.getElem?_eq_some_iff.1 he).1, by rw [gr_ok he]; exact h2, by rw [gr_F he]; exact h3, by rw [gr_T he]; exact h4⟩
theorem fst_at {fs : List Int} {i : Nat} {e : Eg} (he : l[i]? = some e) : fstK l fs i = ofK fs e := by simp [fstK, he]
theorem fndE_iff {fs rs : List Int} : fndE l fs rs ≠ [] ↔ ∃ e, e ∈ l ∧ ofK fs e = true ∧ Rc' (grOf l (ofK rs)) e.to e.frm := by
  rw [fndE_ne]
  constructor
  · intro h
    obtain ⟨i, h1, h2, _, h4, _⟩ := fnd_some h
    obtain ⟨e, he⟩ := some_at (l := l) h1
    have := (cyc_iff h1).1 h4
    rw [gr_T he, gr_F he] at this
    exact ⟨e, List.mem_of_getElem? he, by rw [← fst_at he]; exact h2, this⟩
  · rintro ⟨e, h1, h2, h3⟩ h
    obtain ⟨i, he⟩ := List.getElem?_of_mem h1
    have hi : i < (grOf l (ofK rs)).m := (List.getElem?_eq_some_iff.1 he).1
    refine (cyc_iff hi).2 ?_ (fnd_none h hi (by rw [fst_at he]; exact h2))
    rw [gr_T he, gr_F he]; exact h3
theorem nodup_take {α : Type} {l : List α} (h : l.Nodup) {i : Nat} {x : α} (hx : l[i]? = some x) : x ∉ l.take i := by
  intro hm
  obtain ⟨j, hj⟩ := List.getElem?_of_mem hm
  have hj1 := (List.getElem?_eq_some_iff.1 hj).1
  rw [List.length_take] at hj1
  rw [List.getElem?_take_of_lt (by omega)] at hj
  obtain ⟨a1, a2⟩ := List.getElem?_eq_some_iff.1 hx
  obtain ⟨b1, b2⟩ := List.getElem?_eq_some_iff.1 hj
  have := (List.getElem_inj (xs := l) (h₀ := b1) (h₁ := a1) h).1 (by rw [a2, b2])
  omega
theorem cyc_VP {s : Nat} (hs : s < l.length) (h : cyc (grOf l ok) s ≠ []) : VP (pick l (cyc (grOf l ok) s)) := by
  obtain ⟨D, hw, hn⟩ := cyc_is (G := grOf l ok) hs h
  generalize cyc (grOf l ok) s = p at *
  have hin : ∀ k, k ∈ p → k < l.length := hw.inn
  have hpl := pick_len hin
  have hto := pick_to (ok := ok) hin
  have hpos := List.length_pos_iff.2 h
  refine ⟨fun e => by rw [e] at hpl; simp only [List.length_nil] at hpl; omega, fun i a b ha hb => ⟨?_, ?_⟩⟩
  · have hil := (List.getElem?_eq_some_iff.1 ha).1
    rw [hpl] at hil hb
    rw [pick_get hin] at ha hb
    obtain ⟨x, hx, hxa⟩ := Option.bind_eq_some_iff.1 ha
    obtain ⟨y, hy, hyb⟩ := Option.bind_eq_some_iff.1 hb
    rw [← gr_T (ok := ok) hxa, ← gr_F (ok := ok) hyb]
    by_cases hi : i + 1 < p.length
    · rw [Nat.mod_eq_of_lt hi] at hy
      exact (hw.step i x y hx hy).symm
    · have hie : i + 1 = p.length := by omega
      rw [hie, Nat.mod_self] at hy
      have h0 := hw.head
      rw [List.head?_eq_getElem?, hy] at h0
      cases h0
      rw [← hn]
      unfold nd lastN
      rw [List.getLast?_eq_getElem?, show p.length - 1 = i by omega, hx]; rfl
  · rw [hto]
    have hnd := hw.nodup
    refine nodup_take hnd ?_
    rw [← hto, List.getElem?_map, ha]; rfl
theorem fndE_is {fs rs : List Int} (h : fndE l fs rs ≠ []) : VP (fndE l fs rs) ∧ (∀ e, e ∈ fndE l fs rs → e ∈ l) ∧ (∃ e, (fndE l fs rs)[0]? = some e ∧ ofK fs e = true) ∧ ∀ i e, (fndE l fs rs)[i + 1]? = some e → ofK rs e = true := by
  obtain ⟨s, h1, h2, h3, h4, _⟩ := fnd_some (fndE_ne.1 h)
  have h1' : s < l.length := h1
  have hf : fndE l fs rs = pick l (cyc (grOf l (ofK rs)) s) := by unfold fndE; rw [h3]
  rw [hf]
  obtain ⟨e, he⟩ := some_at (l := l) h1'
  refine ⟨cyc_VP h1' h4, fun x hx => ?_, ⟨e, by rw [cyc_pick he h4]; rfl, by rw [← fst_at he]; exact h2⟩, fun i x hx => ?_⟩
  · unfold pick at hx
    obtain ⟨k, _, hk⟩ := List.mem_filterMap.1 hx
    exact List.mem_of_getElem? hk
  · obtain ⟨D, hw, _⟩ := cyc_is (G := grOf l (ofK rs)) h1 h4
    rw [pick_get hw.inn] at hx
    obtain ⟨k, hk, hkx⟩ := Option.bind_eq_some_iff.1 hx
    rw [← gr_ok (ok := ofK rs) hkx]
    refine hw.ok k ?_
    refine List.mem_of_getElem? (i := i) ?_
    rw [List.getElem?_tail]; exact hk
end
/-- where a number stands -/
theorem place_idx {l : List Int} {x : Int} (h : x ∈ l) : place l x = l.idxOf x := by
  have hl : l.idxOf x < l.length := List.idxOf_lt_length_of_mem h
  refine place_at (e := x) ?_ rfl fun j hj y hy he => ?_
  · rw [List.getElem?_eq_getElem hl, List.getElem_idxOf]
  · subst he
    have := List.not_of_lt_findIdx (p := (· == x)) (xs := l) (i := j) hj
    obtain ⟨a1, a2⟩ := List.getElem?_eq_some_iff.1 hy
    rw [a2] at this
    simp at this
theorem place_out {l : List Int} {x : Int} (h : x ∉ l) : place l x < 0 := by
  have := place_nonneg (l := l) (x := x)
  by_cases hp : 0 ≤ place l x
  · exact absurd (this.1 hp) h
  · omega
end Go.Rt
end
