/- Contracts of functions of the program, and what they lean on. Conditions: those of each theorem. -/
import Derived.Test.YtahalmofaboejaaGreatPB
import Derived.Test.YtahalmofaboejaaGreatPA

set_option linter.unusedVariables false
set_option linter.unusedSimpArgs false

/- Contracts: values, rows. -/
section
namespace Go.Rt
open Go.Vm
def Vl.right (v : Vl) : Bool := if v.text then decide (v.n = 0) && decide (v.s.size ≤ 12) else decide (v.s = ⟨#[]⟩)
theorem value_Right_spec (v : Vl) : GSpec prog true n_value_Right [v.av] [] (vb v.right) [] := by
  refine gspec1 value_Right_is (by simp) (by decide) rfl ?_
  simp -dsimp [value_Right, Vl.right]
  grind
def TbOk (t : Tb) : Prop := 1 ≤ t.length ∧ t.length ≤ 4
noncomputable def rowErr (t : Tb) : Int := if ofP (TbOk t) = true then 0 else 1
@[simp] theorem rowErr_ne (t : Tb) : (rowErr t != 0) = !ofP (TbOk t) := by
  unfold rowErr; cases ofP (TbOk t) <;> rfl
@[simp] theorem rowErr_eq (t : Tb) : (rowErr t == 0) = ofP (TbOk t) := by
  unfold rowErr; cases ofP (TbOk t) <;> rfl
theorem rowErr_yes {t : Tb} (h : TbOk t) : rowErr t = 0 := by unfold rowErr; rw [if_pos (ofP_true.2 h)]
theorem rowErr_no {t : Tb} (h : ¬TbOk t) : rowErr t = 1 := by unfold rowErr; rw [if_neg (by simpa using h)]
theorem row_Check_spec (t : Tb) : GSpec prog true n_row_Check [tbAV t] [] (vi (rowErr t)) [] := by
  refine gspec1 row_Check_is (by simp) (by decide) rfl ?_
  by_cases h : TbOk t
  · have h' := h
    unfold TbOk at h'
    simp -dsimp [row_Check, tbAV, tbIV, rowErr_yes h]
    omega
  · have h' := h
    unfold TbOk at h'
    simp -dsimp [row_Check, tbAV, tbIV, rowErr_no h]
    omega
def FitsAt (t : Tb) (r : List Vl) (i : Nat) : Prop := ∀ (v : Vl) (c : Bool), r[i]? = some v → t[i]? = some c → v.text = c ∧ v.right = true
def Fits (t : Tb) (r : List Vl) : Prop := TbOk t ∧ r.length = t.length ∧ Upto r.length (FitsAt t r)
theorem fits_no {t : Tb} {r : List Vl} {i : Nat} {v : Vl} {c : Bool} (hv : r[i]? = some v) (hc : t[i]? = some c) (h : ¬(v.text = c ∧ v.right = true)) : ¬Fits t r :=
  fun hf => h (hf.2.2 i (List.getElem?_eq_some_iff.1 hv).1 v c hv hc)
theorem fits_at {t : Tb} {r : List Vl} {i : Nat} {v : Vl} {c : Bool} (hv : r[i]? = some v) (hc : t[i]? = some c) (h : v.text = c ∧ v.right = true) : FitsAt t r i := by
  intro v' c' h1 h2; rw [hv] at h1; rw [hc] at h2; cases h1; cases h2; exact h
theorem row_Fits_spec (t : Tb) (r : List Vl) : GSpec prog true n_row_Fits [tbAV t, .iv (rowIV r)] [] (vb (ofP (Fits t r))) [] := by
  refine gspec1 row_Fits_is (by simp) (by decide) rfl ?_
  simp -dsimp [row_Fits, tbAV]
  refine call_pure (row_Check_spec t) (by simp [tbAV]) rfl ?_
  simp -dsimp [tbIV, rowIV, -List.length_eq_zero_iff]
  refine ⟨fun h1 => ⟨fun h3 h => by have := h.2.1; omega, fun h3 => ?_⟩, fun h h' => h h'.1⟩
  refine loop_idx [] [6] r.length (fun i => ⟨[(20, vi i), (19, vi r.length), (18, .iv (.lst 3 (r.map Vl.cells))), (2, .ptr 2 0)], [(2, .box [.iv (.lst 1 (boolsC t))])]⟩)
    (fun i => Upto i (FitsAt t r)) ?_ ?_ ?_
  · simp -dsimp
  · simp -dsimp
  · intro i hi hq
    simp -dsimp [row_Fits_l9]
    refine ⟨fun hlt => ?_, fun hge => ?_⟩
    · obtain ⟨v, hv⟩ := some_at hlt
      obtain ⟨c, hc⟩ : ∃ c, t[i]? = some c := some_at (by omega)
      simp -dsimp [hv, hc]
      refine ⟨fun e => call_pure (value_Right_spec v) (by simp) rfl ?_, fun e => fits_no hv hc fun h => e h.1⟩
      simp -dsimp
      have h2 := h1.2
      exact ⟨fun e2 => fits_no hv hc (by simp [e2]), fun e2 => ⟨hlt, wrap_in (by omega), hq.succ (fits_at hv hc ⟨e, e2⟩)⟩⟩
    · exact ⟨h1, by omega, fun j hj => hq j (by omega)⟩
end Go.Rt
end

/- Contracts: how values are compared. -/
section
namespace Go.Rt
open Go.Vm
def icmp (a b : Int) : Int := if a < b then -1 else if b < a then 1 else 0
def scmp (a b : ByteArray) : Int := if strLt a b = true then -1 else if a = b then 0 else 1
def Vl.cmp (a b : Vl) : Int := if a.text = true then (if b.text = true then scmp a.s b.s else 1) else if b.text = true then -1 else icmp a.n b.n
theorem isNaN_s (a : ByteArray) : GSpec prog true n_cmp_isNaN_string [.iv (.v (.string a))] [] (vb false) [] := by
  refine gspec1 cmp_isNaN_string_is (by simp) (by decide) rfl ?_
  simp -dsimp [cmp_isNaN_string]
theorem isNaN_i (a : Int) : GSpec prog true n_cmp_isNaN_int64 [vi a] [] (vb false) [] := by
  refine gspec1 cmp_isNaN_int64_is (by simp) (by decide) rfl ?_
  simp -dsimp [cmp_isNaN_int64]
theorem strLt_irr (a : ByteArray) : strLt a a = false := by
  unfold strLt
  generalize a.toList = x
  induction x with
  | nil => rfl
  | cons c x ih => simp [Op.bytesLess, ih]
theorem cmpS (a b : ByteArray) : GSpec prog true n_cmp_Compare_string [.iv (.v (.string a)), .iv (.v (.string b))] [] (vi (scmp a b)) [] := by
  refine gspec1 cmp_Compare_string_is (by simp) (by decide) rfl ?_
  simp -dsimp [cmp_Compare_string]
  refine call_pure (isNaN_s a) (by simp) rfl ?_
  simp -dsimp
  refine call_pure (isNaN_s b) (by simp) rfl ?_
  simp -dsimp [scmp]
  grind
theorem cmpI (a b : Int) : GSpec prog true n_cmp_Compare_int64 [vi a, vi b] [] (vi (icmp a b)) [] := by
  refine gspec1 cmp_Compare_int64_is (by simp) (by decide) rfl ?_
  simp -dsimp [cmp_Compare_int64]
  refine call_pure (isNaN_i a) (by simp) rfl ?_
  simp -dsimp
  refine call_pure (isNaN_i b) (by simp) rfl ?_
  simp -dsimp [icmp]
  grind
theorem value_Compare_spec (a b : Vl) : GSpec prog true n_value_Compare [a.av, b.av] [] (vi (a.cmp b)) [] := by
  refine gspec1 value_Compare_is (by simp) (by decide) rfl ?_
  cases ha : a.text <;> cases hb : b.text <;> simp -dsimp [value_Compare, ha, hb, Vl.cmp]
  · exact call_pure (cmpI a.n b.n) (by simp) rfl (by simp)
  · exact call_pure (cmpS a.s b.s) (by simp) rfl (by simp)
theorem bl_pre : ∀ (p x y : List UInt8), Op.bytesLess (p ++ x) (p ++ y) = Op.bytesLess x y
  | [], x, y => rfl
  | c :: p, x, y => by simp [Op.bytesLess, bl_pre p x y]
theorem toList_data (a : ByteArray) : a.toList = a.data.toList := by simp [ByteArray.toList_eq]
def PreEq (a b : ByteArray) (i : Nat) : Prop := i ≤ a.size ∧ i ≤ b.size ∧ ∀ j, j < i → a[j]? = b[j]?
theorem get_data (a : ByteArray) (i : Nat) : a[i]? = a.data.toList[i]? := by
  simp only [Array.getElem?_toList]
  rfl
theorem PreEq.split {a b : ByteArray} {i : Nat} (h : PreEq a b i) : ∃ p, a.toList = p ++ a.data.toList.drop i ∧ b.toList = p ++ b.data.toList.drop i := by
  refine ⟨a.data.toList.take i, by rw [toList_data, List.take_append_drop], ?_⟩
  have : a.data.toList.take i = b.data.toList.take i := by
    apply List.ext_getElem?
    intro j
    simp only [List.getElem?_take]
    split
    · rename_i hj; rw [← get_data, ← get_data]; exact h.2.2 j hj
    · rfl
  rw [this, toList_data, List.take_append_drop]
theorem drop_get {l : List UInt8} {i : Nat} {c : UInt8} (h : l[i]? = some c) : l.drop i = c :: l.drop (i + 1) := by
  have hi := (List.getElem?_eq_some_iff.1 h).1
  rw [List.drop_eq_getElem_cons hi, (List.getElem?_eq_some_iff.1 h).2]
theorem PreEq.lt {a b : ByteArray} {i : Nat} (h : PreEq a b i) {c d : UInt8} (h1 : a[i]? = some c) (h2 : b[i]? = some d) (hcd : c < d) : scmp a b = -1 := by
  obtain ⟨p, e1, e2⟩ := h.split
  rw [get_data] at h1 h2
  have : strLt a b = true := by
    unfold strLt
    rw [e1, e2, bl_pre, drop_get h1, drop_get h2]
    simp -dsimp [Op.bytesLess, hcd]
  simp -dsimp [scmp, this]
theorem PreEq.gt {a b : ByteArray} {i : Nat} (h : PreEq a b i) {c d : UInt8} (h1 : a[i]? = some c) (h2 : b[i]? = some d) (hcd : d < c) : scmp a b = 1 := by
  obtain ⟨p, e1, e2⟩ := h.split
  have hne : a ≠ b := by
    rintro rfl
    rw [h1] at h2
    cases h2
    exact absurd hcd (by simp)
  rw [get_data] at h1 h2
  have : strLt a b = false := by
    unfold strLt
    rw [e1, e2, bl_pre, drop_get h1, drop_get h2]
    have : ¬ c < d := by
      have := UInt8.lt_iff_toNat_lt.1 hcd
      rw [UInt8.lt_iff_toNat_lt]; omega
    have h3 : ¬ c = d := by rintro rfl; exact absurd hcd (by simp)
    simp -dsimp [Op.bytesLess, this, h3]
  simp -dsimp [scmp, this, hne]
theorem size_data (a : ByteArray) : a.size = a.data.toList.length := by rw [Array.length_toList]; rfl
theorem PreEq.endA {a b : ByteArray} (h : PreEq a b a.size) (hl : a.size < b.size) : scmp a b = -1 := by
  obtain ⟨p, e1, e2⟩ := h.split
  have : strLt a b = true := by
    unfold strLt
    rw [e1, e2, bl_pre]
    rw [size_data] at hl ⊢
    simp only [List.drop_length]
    rw [size_data] at hl
    cases hd : b.data.toList.drop a.data.toList.length with
    | nil => have := congrArg List.length hd; simp at this; simp at hl; omega
    | cons x y => rfl
  simp -dsimp [scmp, this]
theorem PreEq.endB {a b : ByteArray} (h : PreEq a b b.size) (hl : b.size < a.size) : scmp a b = 1 := by
  obtain ⟨p, e1, e2⟩ := h.split
  have hne : a ≠ b := by rintro rfl; omega
  have : strLt a b = false := by
    unfold strLt
    rw [e1, e2, bl_pre]
    rw [size_data]
    simp only [List.drop_length]
    cases (a.data.toList.drop b.data.toList.length) <;> rfl
  simp -dsimp [scmp, this, hne]
theorem PreEq.endE {a b : ByteArray} (h : PreEq a b a.size) (hl : b.size = a.size) : scmp a b = 0 := by
  obtain ⟨p, e1, e2⟩ := h.split
  have : a = b := by
    have e : a.data.toList = b.data.toList := by
      rw [← toList_data, ← toList_data, e1, e2]
      congr 1
      rw [size_data]
      rw [size_data, size_data] at hl
      rw [List.drop_length, ← hl, List.drop_length]
    cases a; cases b
    simp only at e
    congr 1
    exact Array.toList_inj.1 e
  subst this
  simp -dsimp [scmp, strLt_irr]
theorem ref01_Compare_spec (a b : Vl) (hla : a.s.size < 2 ^ 63) : GSpec prog true n_rr01_Compare [a.av, b.av] [] (vi (a.cmp b)) [] := by
  refine gspec1 rr01_Compare_is (by simp) (by decide) rfl ?_
  cases ha : a.text <;> cases hb : b.text <;> simp -dsimp [rr01_Compare, ha, hb, Vl.cmp]
  · simp -dsimp [icmp]; grind
  · refine loop_idx [] [] (min a.s.size b.s.size) (fun i => ⟨[(5, vi i), (2, .ptr 2 0), (3, .ptr 3 0)], [(3, .box [.iv (cb true), .iv (ci b.n), .iv (.v (.string b.s))]), (2, .box [.iv (cb true), .iv (ci a.n), .iv (.v (.string a.s))])]⟩)
      (fun i => PreEq a.s b.s i) ?_ ?_ ?_
    · simp -dsimp
    · exact ⟨Nat.zero_le _, Nat.zero_le _, fun j hj => absurd hj (Nat.not_lt_zero _)⟩
    · intro i hi hq
      simp -dsimp [rr01_Compare_l18]
      have hE : ∀ h : a.s.size ≤ i ∨ b.s.size ≤ i, (a.s.size < b.s.size → -1 = scmp a.s b.s) ∧
            (b.s.size ≤ a.s.size → (b.s.size < a.s.size → 1 = scmp a.s b.s) ∧ (a.s.size ≤ b.s.size → 0 = scmp a.s b.s)) := by
        intro h
        have h1 := hq.1
        have h2 := hq.2.1
        refine ⟨fun g => ?_, fun g => ⟨fun g2 => ?_, fun g2 => ?_⟩⟩
        · have e : i = a.s.size := by omega
          subst e; exact hq.endA g |>.symm
        · have e : i = b.s.size := by omega
          subst e; exact hq.endB g2 |>.symm
        · have e : i = a.s.size := by omega
          subst e; exact (hq.endE (by omega)).symm
      refine ⟨fun h1 => ⟨fun h2 => ?_, fun h2 => hE (.inr h2)⟩, fun h => hE (.inl h)⟩
      obtain ⟨c, hc⟩ : ∃ c, a.s[i]? = some c := ⟨_, getElem?_pos a.s i h1⟩
      obtain ⟨d, hd⟩ : ∃ c, b.s[i]? = some c := ⟨_, getElem?_pos b.s i h2⟩
      simp -dsimp [hc, hd]
      refine ⟨fun g => (hq.lt hc hd (UInt8.lt_iff_toNat_lt.2 g)).symm, fun g => ⟨fun g2 => (hq.gt hc hd (UInt8.lt_iff_toNat_lt.2 g2)).symm, fun g2 => ⟨by omega, wrap_in (by omega), by omega, by omega, fun j hj => ?_⟩⟩⟩
      by_cases e : j = i
      · subst e; rw [hc, hd]; congr 1; exact UInt8.toNat_inj.1 (by omega)
      · exact hq.2.2 j (by omega)
end Go.Rt
end

/- Contracts: predicates. -/
section
namespace Go.Rt
open Go.Vm
def Pd.box (p : Pd) : Ob := .box [.iv (ci p.op), .iv (ci p.col), .iv (cb p.v.text), .iv (ci p.v.n), .iv (.v (.string p.v.s)), .iv (cb p.w.text), .iv (ci p.w.n), .iv (.v (.string p.w.s)), .iv (.lst 9 (p.l.map Pd.cells))]
theorem ref03_Size_spec {p : Pd} (h : p.Ok) : GSpec prog true n_rr03_Size [p.av] [] (vi (IntKind.i64.wrap p.size)) [] := by
  induction h with
  | mk p hl _ _ hq ih =>
  refine gspec1 rr03_Size_is (by simp) (by decide) rfl ?_
  simp -dsimp [rr03_Size, Pd.av_eq]
  refine loop_idx [] [] p.l.length (fun i => ⟨[(4, vi i), (3, vi (IntKind.i64.wrap (1 + Pd.sizes (p.l.take i)))), (1, .ptr 1 0)], [(1, p.box)]⟩)
      (fun _ => True) ?_ trivial ?_
  · simp -dsimp [Pd.box]; rfl
  · intro i hi _
    simp -dsimp [rr03_Size_l6, Pd.box]
    refine ⟨fun hlt => ?_, fun hge => ?_⟩
    · obtain ⟨q, hqi⟩ := some_at hlt
      simp -dsimp [hqi, Pd.cells_eq q]
      refine call_pure (ih q (List.mem_of_getElem? hqi)) (by simp [Pd.av_eq]) (by simp [Pd.av_eq]) ?_
      simp -dsimp
      refine ⟨hlt, wrap_in (by omega), ?_⟩
      rw [wrap_wrap_add, Pd.sizes_take hqi, Int.add_assoc]
    · rw [Pd.size_eq, List.take_of_length_le hge]
mutual
def Pd.fold {σ : Type} (F : Pd → σ → σ) : Pd → σ → σ
  | .mk o c v w l, st => Pd.foldL F l (F (.mk o c v w l) st)
def Pd.foldL {σ : Type} (F : Pd → σ → σ) : List Pd → σ → σ
  | [], st => st
  | p :: r, st => Pd.foldL F r (p.fold F st)
end
theorem Pd.fold_eq {σ : Type} (F : Pd → σ → σ) (p : Pd) (st : σ) : p.fold F st = Pd.foldL F p.l (F p st) := by cases p; rw [Pd.fold]; rfl
theorem Pd.foldL_nil {σ : Type} (F : Pd → σ → σ) (st : σ) : Pd.foldL F [] st = st := by rw [Pd.foldL]
theorem Pd.foldL_take {σ : Type} (F : Pd → σ → σ) : ∀ {l : List Pd} {i : Nat} {p : Pd} (st : σ), l[i]? = some p → Pd.foldL F (l.take (i + 1)) st = p.fold F (Pd.foldL F (l.take i) st)
  | [], i, p, st, h => by cases h
  | q :: r, 0, p, st, h => by
    simp only [List.getElem?_cons_zero, Option.some.injEq] at h; subst h
    simp -dsimp [Pd.foldL]
  | q :: r, i + 1, p, st, h => by
    simp only [List.getElem?_cons_succ] at h
    simp only [List.take_succ_cons, Pd.foldL]
    exact Pd.foldL_take F _ h
theorem pred_each_spec {σ : Type} (f : FuncId) (b : Bool) (F : Pd → σ → σ) (cs : σ → List IV) (hf : okFn prog f = true)
    (hdo : ∀ (p : Pd) (st : σ), GSpec prog false f (bif b then [.ptr 1000 0, p.av] else [p.av, .ptr 1000 0]) [(1000, .box ((cs st).map .iv))] (.tup []) [(1000, .box ((cs (F p st)).map .iv))]) {p : Pd} (h : p.Ok) :
    ∀ st : σ, GSpec prog false n_pred_each [p.av, .fn f (bif b then [.ptr 1000 0] else []) (bif b then [] else [.ptr 1000 0])] [(1000, .box ((cs st).map .iv))] (.tup []) [(1000, .box ((cs (p.fold F st)).map .iv))] := by
  induction h with
  | mk p hl _ _ hq ih =>
  intro st
  refine gspecM pred_each_is (by simp) (by decide) (by simp) rfl ?_
  have hgo : ∀ (i : Nat) (q : Pd), p.l[i]? = some q → IntKind.i64.wrap ((i : Int) + 1) = (i : Int) + 1 := fun i q h => wrap_in (by have := (List.getElem?_eq_some_iff.1 h).1; omega)
  cases b
  all_goals
    simp -dsimp [pred_each, Pd.av_eq, hf]
    refine call_mut (hdo p st) rfl (by simp) (by simp [Pd.av_eq]) (by simp [Pd.av_eq]) (by simp) (by simp) (by simp) (by simp) ?_
    simp -dsimp
  · refine loop_idx [2] [5] p.l.length (fun i => ⟨[(12, vi i), (11, vi p.l.length), (10, .iv (.lst 9 (p.l.map Pd.cells))), (1, .fn f [] [.ptr 1000 0])], [(1000, .box ((cs (Pd.foldL F (p.l.take i) (F p st))).map .iv))]⟩)
      (fun _ => True) ?_ trivial ?_
    · simp -dsimp [Pd.foldL_nil]
    · intro i hi _
      simp -dsimp [pred_each_l7]
      refine ⟨fun hlt => ?_, fun hge => ?_⟩
      · obtain ⟨q, hqi⟩ := some_at hlt
        simp -dsimp [hqi, Pd.cells_eq q]
        refine call_mut (ih q (List.mem_of_getElem? hqi) (Pd.foldL F (p.l.take i) (F p st))) rfl (by simp) (by simp [Pd.av_eq]) (by simp [Pd.av_eq]) (by simp) (by simp) (by simp) (by simp) ?_
        simp -dsimp [hlt, hgo i q hqi, Pd.foldL_take F _ hqi]
      · simp -dsimp [Pd.fold_eq, List.take_of_length_le hge]
  · refine loop_idx [2] [5] p.l.length (fun i => ⟨[(12, vi i), (11, vi p.l.length), (10, .iv (.lst 9 (p.l.map Pd.cells))), (1, .fn f [.ptr 1000 0] [])], [(1000, .box ((cs (Pd.foldL F (p.l.take i) (F p st))).map .iv))]⟩)
      (fun _ => True) ?_ trivial ?_
    · simp -dsimp [Pd.foldL_nil]
    · intro i hi _
      simp -dsimp [pred_each_l7]
      refine ⟨fun hlt => ?_, fun hge => ?_⟩
      · obtain ⟨q, hqi⟩ := some_at hlt
        simp -dsimp [hqi, Pd.cells_eq q]
        refine call_mut (ih q (List.mem_of_getElem? hqi) (Pd.foldL F (p.l.take i) (F p st))) rfl (by simp) (by simp [Pd.av_eq]) (by simp [Pd.av_eq]) (by simp) (by simp) (by simp) (by simp) ?_
        simp -dsimp [hlt, hgo i q hqi, Pd.foldL_take F _ hqi]
      · simp -dsimp [Pd.fold_eq, List.take_of_length_le hge]
theorem pred_Size_1_spec (p : Pd) (n : Int) : GSpec prog false n_pred_Size_1 [p.av, .ptr 1000 0] [(1000, .box [vi n])] (.tup []) [(1000, .box [vi (IntKind.i64.wrap (n + 1))])] := by
  refine gspecM pred_Size_1_is (by simp) (by decide) (by simp) rfl ?_
  simp -dsimp [pred_Size_1, Pd.av_eq]
def countF (_ : Pd) (n : Int) : Int := IntKind.i64.wrap (n + 1)
mutual
theorem count_fold : ∀ (p : Pd) (n : Int), p.fold countF (IntKind.i64.wrap n) = IntKind.i64.wrap (n + p.size)
  | .mk o c v w l, n => by
    rw [Pd.fold, countF, wrap_add1, count_foldL l, Pd.size, Int.add_assoc]
theorem count_foldL : ∀ (l : List Pd) (n : Int), Pd.foldL countF l (IntKind.i64.wrap n) = IntKind.i64.wrap (n + Pd.sizes l)
  | [], n => by rw [Pd.foldL, Pd.sizes, Int.add_zero]
  | p :: r, n => by rw [Pd.foldL, count_fold p, count_foldL r, Pd.sizes, Int.add_assoc]
end
theorem pred_Size_spec {p : Pd} (h : p.Ok) : GSpec prog true n_pred_Size [p.av] [] (vi (IntKind.i64.wrap p.size)) [] := by
  refine gspec1 pred_Size_is (by simp) (by decide) rfl ?_
  have he := pred_each_spec n_pred_Size_1 false countF (fun n : Int => [ci n]) (by kernel_rfl) (fun p n => pred_Size_1_spec p n) h 0
  rw [Pd.av_eq] at he
  have hr : GSpec prog false n_pred_each [p.av, .fn n_pred_Size_1 [] [.ptr 3 0]] [(3, .box [vi 0])] (.tup []) [(3, .box [vi (p.fold countF 0)])] := by
    rw [Pd.av_eq]; exact he.ren (Ren.swaps [(1000, 3)]) rfl
  have hc : p.fold countF 0 = IntKind.i64.wrap p.size := by
    have := count_fold p 0
    rwa [Int.zero_add, show IntKind.i64.wrap 0 = 0 from rfl] at this
  simp -dsimp [pred_Size, Pd.av_eq]
  refine call_mut hr rfl (by simp) (by simp [Pd.av_eq]) (by simp [Pd.av_eq]) (by simp) (by simp) (by simp) (by simp) ?_
  simp -dsimp [hc]
def ColOk (t : Tb) (i : Int) (v : Vl) : Prop := 0 ≤ i ∧ i < t.length ∧ t[i.toNat]? = some v.text ∧ v.right = true
theorem colOk_at {t : Tb} {k : Nat} {v : Vl} {c : Bool} (hc : t[k]? = some c) : ColOk t k v ↔ v.text = c ∧ v.right = true := by
  have hk := (List.getElem?_eq_some_iff.1 hc).1
  unfold ColOk
  rw [show (k : Int).toNat = k from rfl, hc]
  constructor
  · rintro ⟨_, _, h, h2⟩; cases h; exact ⟨rfl, h2⟩
  · rintro ⟨h, h2⟩; exact ⟨by omega, by omega, by rw [h], h2⟩
theorem pred_of_spec (t : Tb) (w : Bool) (i : Int) (v : Vl) : GSpec prog true n_pred_checker_of [.iv (.pt [tbIV t, cb w]), vi i, v.av] [] (vb (ofP (ColOk t i v))) [] := by
  refine gspec1 pred_checker_of_is (by simp) (by decide) rfl ?_
  simp -dsimp [pred_checker_of, tbIV]
  refine ⟨fun h1 => ⟨fun h2 => ⟨h1, ?_⟩, fun h2 h => by have := h.2.1; omega⟩, fun h1 h => by have := h.1; omega⟩
  obtain ⟨k, rfl⟩ := Int.eq_ofNat_of_zero_le h1
  obtain ⟨c, hc⟩ : ∃ c, t[k]? = some c := some_at (by omega)
  simp -dsimp [hc]
  refine ⟨fun h3 => call_pure (value_Right_spec v) (by simp) rfl ?_, fun h3 => ?_⟩
  · simp -dsimp [ofP_eq, colOk_at hc, h3]
  · simp -dsimp [colOk_at hc, h3]
def PartOk (t : Tb) (p : Pd) : Prop :=
  if p.op = 1 ∨ p.op = 2 then p.l.length = 0
  else if 3 ≤ p.op ∧ p.op ≤ 8 then p.l.length = 0 ∧ ColOk t p.col p.v
  else if p.op = 9 then p.l.length = 0 ∧ ColOk t p.col p.v ∧ ColOk t p.col p.w
  else if p.op = 10 then p.l.length = 1
  else if p.op = 11 ∨ p.op = 12 then 0 < p.l.length
  else False
theorem pred_part_spec (t : Tb) (p : Pd) (w : Bool) : GSpec prog false n_pred_checker_part [.ptr 1000 0, p.av] [(1000, .box [.iv (tbIV t), vb w])] (.tup []) [(1000, .box [.iv (tbIV t), vb (w || !ofP (PartOk t p))])] := by
  refine gspecM pred_checker_part_is (by simp) (by decide) (by simp) rfl ?_
  have hop : (p.op = 1 ∨ p.op = 2) ∨ (p.op = 3 ∨ p.op = 4 ∨ p.op = 5 ∨ p.op = 6 ∨ p.op = 7 ∨ p.op = 8) ∨ p.op = 9 ∨ p.op = 10 ∨ (p.op = 11 ∨ p.op = 12) ∨ (p.op < 1 ∨ 12 < p.op) := by omega
  have len0 : ((p.l.length : Int) == 0) = ofP (p.l.length = 0) := by rw [ofP_eq, beq_iff_eq]; omega
  have len1 : ((p.l.length : Int) == 1) = ofP (p.l.length = 1) := by rw [ofP_eq, beq_iff_eq]; omega
  have lenp : (decide (0 < (p.l.length : Int))) = ofP (0 < p.l.length) := by rw [ofP_eq, decide_eq_true_eq]; omega
  rcases hop with h | h | h | h | h | h
  · have e : PartOk t p ↔ p.l.length = 0 := by unfold PartOk; rw [if_pos h]
    rcases h with h | h <;> simp -dsimp [pred_checker_part, Pd.av_eq, h, len0, e] <;> cases w <;> simp
  · have e : PartOk t p ↔ p.l.length = 0 ∧ ColOk t p.col p.v := by
      unfold PartOk; rw [if_neg (by omega), if_pos (by omega)]
    rcases h with h | h | h | h | h | h
    all_goals
      simp -dsimp [pred_checker_part, Pd.av_eq, h, len0, e]
      refine ⟨fun h0 => ?_, fun h0 => ?_⟩
      · refine call_pure (pred_of_spec t w p.col p.v) (by simp) (by simp) ?_
        simp -dsimp [h0]
        cases w <;> simp
      · simp -dsimp [h0]
        try (cases w <;> simp)
  · have e : PartOk t p ↔ p.l.length = 0 ∧ ColOk t p.col p.v ∧ ColOk t p.col p.w := by
      unfold PartOk; rw [if_neg (by omega), if_neg (by omega), if_pos (by omega)]
    simp -dsimp [pred_checker_part, Pd.av_eq, h, len0, e]
    refine ⟨fun h0 => ?_, fun h0 => ?_⟩
    · refine call_pure (pred_of_spec t w p.col p.v) (by simp) (by simp) ?_
      simp -dsimp
      refine ⟨fun h1 => ?_, fun h1 => ?_⟩
      · refine call_pure (pred_of_spec t w p.col p.w) (by simp) (by simp) ?_
        simp -dsimp [h0, h1]
        cases w <;> simp
      · simp -dsimp [h0, h1]
        try (cases w <;> simp)
    · simp -dsimp [h0]
      try (cases w <;> simp)
  · have e : PartOk t p ↔ p.l.length = 1 := by
      unfold PartOk; rw [if_neg (by omega), if_neg (by omega), if_neg (by omega), if_pos h]
    simp -dsimp [pred_checker_part, Pd.av_eq, h, len1, e]
    cases w <;> simp
  · have e : PartOk t p ↔ 0 < p.l.length := by
      unfold PartOk; rw [if_neg (by omega), if_neg (by omega), if_neg (by omega), if_neg (by omega), if_pos h]
    rcases h with h | h <;> simp -dsimp [pred_checker_part, Pd.av_eq, h, lenp, e] <;> cases w <;> simp [ofP_eq]
  · have e : ¬PartOk t p := by
      unfold PartOk; rw [if_neg (by omega), if_neg (by omega), if_neg (by omega), if_neg (by omega), if_neg (by omega)]; exact id
    have ne : ∀ k : Int, 1 ≤ k → k ≤ 12 → (p.op == k) = false := fun k h1 h2 => by rw [beq_eq_false_iff_ne]; omega
    simp -dsimp [pred_checker_part, Pd.av_eq, e, ne]
mutual
def Pd.AllOk (t : Tb) : Pd → Prop
  | .mk o c v w l => PartOk t (.mk o c v w l) ∧ Pd.AllOkL t l
def Pd.AllOkL (t : Tb) : List Pd → Prop
  | [] => True
  | p :: r => p.AllOk t ∧ Pd.AllOkL t r
end
noncomputable def wrongF (t : Tb) (p : Pd) (w : Bool) : Bool := w || !ofP (PartOk t p)
mutual
theorem wrong_fold (t : Tb) : ∀ (p : Pd) (w : Bool), p.fold (wrongF t) w = (w || !ofP (p.AllOk t))
  | .mk o c v w l, b => by
    rw [Pd.fold, wrongF, wrong_foldL t l, Pd.AllOk, Bool.eq_iff_iff]
    simp only [Bool.or_eq_true, Bool.not_eq_true', ofP_false]
    grind
theorem wrong_foldL (t : Tb) : ∀ (l : List Pd) (w : Bool), Pd.foldL (wrongF t) l w = (w || !ofP (Pd.AllOkL t l))
  | [], b => by rw [Pd.foldL, Pd.AllOkL]; cases b <;> simp
  | p :: r, b => by
    rw [Pd.foldL, wrong_fold t p, wrong_foldL t r, Pd.AllOkL, Bool.eq_iff_iff]
    simp only [Bool.or_eq_true, Bool.not_eq_true', ofP_false]
    grind
end
def PdOk (t : Tb) (p : Pd) : Prop := TbOk t ∧ IntKind.i64.wrap p.size ≤ 15 ∧ p.AllOk t
noncomputable def predErr (t : Tb) (p : Pd) : Int := if ofP (TbOk t) = true then (if ofP (PdOk t p) = true then 0 else 30) else 1
@[simp] theorem predErr_ne (t : Tb) (p : Pd) : (predErr t p != 0) = !ofP (PdOk t p) := by
  unfold predErr
  by_cases h : TbOk t
  · rw [if_pos (ofP_true.2 h)]; cases ofP (PdOk t p) <;> rfl
  · rw [if_neg (by simpa using h)]
    have : ofP (PdOk t p) = false := ofP_false.2 fun g => h g.1
    rw [this]; rfl
theorem pred_Check_spec (t : Tb) {p : Pd} (h : p.Ok) : GSpec prog true n_pred_Check [tbAV t, p.av] [] (vi (predErr t p)) [] := by
  refine gspec1 pred_Check_is (by simp) (by decide) rfl ?_
  have he := pred_each_spec n_pred_checker_part true (wrongF t) (fun w : Bool => [tbIV t, cb w]) (by kernel_rfl) (fun p w => pred_part_spec t p w) h false
  rw [Pd.av_eq] at he
  have hr : GSpec prog false n_pred_each [p.av, .fn n_pred_checker_part [.ptr 15 0] []] [(15, .box [.iv (tbIV t), vb false])] (.tup []) [(15, .box [.iv (tbIV t), vb (p.fold (wrongF t) false)])] := by
    rw [Pd.av_eq]; exact he.ren (Ren.swaps [(1000, 15)]) rfl
  rw [wrong_fold, Bool.false_or] at hr
  simp -dsimp [pred_Check, Pd.av_eq, tbAV]
  refine call_pure (row_Check_spec t) (by simp [tbAV]) (by simp [tbAV]) ?_
  simp -dsimp
  refine ⟨fun h1 => ?_, fun h1 => ?_⟩
  · simp [predErr, rowErr, h1]
  · refine call_mut hr rfl (by simp) (by simp [Pd.av_eq]) (by simp [Pd.av_eq]) (by simp) (by simp) (by simp) (by simp) ?_
    simp -dsimp
    refine ⟨fun h2 => ?_, fun h2 => ?_⟩
    · refine call_pure (pred_Size_spec h) (by simp [Pd.av_eq]) (by simp [Pd.av_eq]) ?_
      simp -dsimp
      rw [predErr, if_pos (ofP_true.2 h1)]
      refine ⟨fun h3 => ?_, fun h3 => ?_⟩
      · rw [if_neg (by simp only [ofP_true]; intro g; have := g.2.1; omega)]
      · rw [if_pos (by simp only [ofP_true]; exact ⟨h1, h3, h2⟩)]
    · rw [predErr, if_pos (ofP_true.2 h1), if_neg (by simp only [ofP_true]; intro g; exact h2 g.2.2)]
end Go.Rt
end

/- Contracts: the document's history. -/
section
namespace Go.Rt
open Go.Vm
theorem Writes_spec {h : Hs} (hok : h.Ok) (a : Nat) (txn table : Int) (k : Vl) : GSpec prog true n_rr18_Writes [h.av, vi a, vi txn, vi table, k.av] [] (vi (wrote (h.events.take a) txn table k)) [] := by
  refine gspec1 rr18_Writes_is (by simp) (by decide) rfl ?_
  simp -dsimp [rr18_Writes, Hs.av]
  refine loop_idx [] [13] (min a h.events.length) (fun i => ⟨[(12, vi i), (11, vi (wrote (h.events.take i) txn table k)), (1, vi a), (2, vi txn), (3, vi table), (5, .ptr 5 0), (9, .ptr 9 0)],
      [(9, .box [.iv (cb k.text), .iv (ci k.n), .iv (.v (.string k.s))]), (5, .box [.iv (.lst 1 (tbsC h.tables)), .iv (.lst 22 (evsC h.events)), .iv (.lst 5 (insC h.order))])]⟩)
    (fun _ => True) ?_ trivial ?_
  · simp -dsimp [wrote]
  · intro i hi _
    have hev := hok.events
    simp -dsimp [rr18_Writes_l8]
    refine ⟨fun h1 => ⟨fun h2 => ?_, fun h2 => ?_⟩, fun h1 => ?_⟩
    · obtain ⟨e, he⟩ := some_at h2
      have hw := wrap_in (n := (i : Int) + 1) (by omega)
      have hw2 := wrap_in (n := (wrote (h.events.take i) txn table k : Int) + 1) (by have := wrote_le (h.events.take i) txn table k; rw [List.length_take] at this; omega)
      have hn := wrote_take he txn table k
      have hi' : i < min a h.events.length := by omega
      simp only [Ev.isW_iff] at hn
      simp -dsimp [he]
      rw [hw, hw2, hn]
      grind
    · rw [show h.events.take a = h.events.take i from by rw [List.take_of_length_le (by omega), List.take_of_length_le h2]]
    · rw [show i = a from by omega]
def Ev.ends (txn : Int) (e : Ev) : Prop := e.txn = txn ∧ (e.kind = 5 ∨ e.kind = 6)
instance (txn : Int) (e : Ev) : Decidable (e.ends txn) := by unfold Ev.ends; exact inferInstance
def ended : List Ev → Int → Int
  | [], _ => 0
  | e :: r, txn => if e.ends txn then e.kind else ended r txn
theorem ended_none : ∀ {es : List Ev} {txn : Int}, (∀ e, e ∈ es → ¬e.ends txn) → ended es txn = 0
  | [], _, _ => rfl
  | e :: r, txn, h => by rw [ended, if_neg (h e List.mem_cons_self)]; exact ended_none fun x hx => h x (List.mem_cons_of_mem _ hx)
theorem ended_at : ∀ {es : List Ev} {i : Nat} {e : Ev} {txn : Int}, (∀ j, j < i → ∀ x, es[j]? = some x → ¬x.ends txn) → es[i]? = some e → e.ends txn → ended es txn = e.kind
  | [], i, e, txn, _, h, _ => by cases h
  | x :: r, 0, e, txn, _, h, he => by simp only [List.getElem?_cons_zero, Option.some.injEq] at h; subst h; rw [ended, if_pos he]
  | x :: r, i + 1, e, txn, hn, h, he => by
    rw [ended, if_neg (hn 0 (by omega) x rfl)]
    exact ended_at (i := i) (fun j hj y hy => hn (j + 1) (by omega) y (by simpa using hy)) (by simpa using h) he
theorem ref18_Ended_spec {h : Hs} (hok : h.Ok) (txn : Int) : GSpec prog true n_rr18_Ended [h.av, vi txn] [] (vi (ended h.events txn)) [] := by
  refine gspec1 rr18_Ended_is (by simp) (by decide) rfl ?_
  simp -dsimp [rr18_Ended, Hs.av]
  refine loop_idx [] [6] h.events.length (fun i => ⟨[(5, vi i), (1, vi txn), (2, .ptr 2 0)], [(2, .box [.iv (.lst 1 (tbsC h.tables)), .iv (.lst 22 (evsC h.events)), .iv (.lst 5 (insC h.order))])]⟩)
    (fun i => Upto i fun j => ∀ e, h.events[j]? = some e → ¬e.ends txn) ?_ ?_ ?_
  · simp -dsimp
  · simp
  · intro i hi hq
    have hev := hok.events
    simp -dsimp [rr18_Ended_l7]
    refine ⟨fun h2 => ?_, fun h2 => ?_⟩
    · obtain ⟨e, he⟩ := some_at h2
      have hw := wrap_in (n := (i : Int) + 1) (by omega)
      have hS : (e.txn = txn ∧ (e.kind = 5 ∨ e.kind = 6)) → e.kind = ended h.events txn := fun hh => (ended_at (i := i) (fun j hj => hq j hj) he hh).symm
      have hN : ¬(e.txn = txn ∧ (e.kind = 5 ∨ e.kind = 6)) → Upto (i + 1) fun j => ∀ e, h.events[j]? = some e → ¬e.ends txn := fun hn => hq.succ fun x hx => by rw [he] at hx; cases hx; exact hn
      simp -dsimp [he]
      rw [hw]
      grind
    · exact (ended_none fun e he => by
        obtain ⟨j, hj⟩ := List.getElem?_of_mem he
        exact hq j (Nat.lt_of_lt_of_le (List.getElem?_eq_some_iff.1 hj).1 h2) e hj).symm
def KeyOk (h : Hs) (table : Int) (k : Vl) : Prop := 0 ≤ table ∧ ∃ t, h.tables[table.toNat]? = some t ∧ k.right = true ∧ t[0]? = some k.text
def Hs.TbsOk (h : Hs) : Prop := ∀ t, t ∈ h.tables → TbOk t
def VerOk (es : List Ev) (table : Int) (k : Vl) (v : Vs) : Prop := 1 ≤ v.n ∧ v.n ≤ wrote es v.txn table k
end Go.Rt
end

/- Contracts: the document's history, events. -/
section
namespace Go.Rt
open Go.Vm
def WriteOk (h : Hs) (es : List Ev) (e : Ev) : Prop := KeyOk h e.table e.key ∧ e.n = wrote es e.txn e.table e.key + 1 ∧ (e.row = [] ∨ ∃ t, h.tables[e.table.toNat]? = some t ∧ Fits t e.row ∧ e.row[0]? = some e.key)
def ReadOk (h : Hs) (es : List Ev) (e : Ev) : Prop := KeyOk h e.table e.key ∧
  if 0 < wrote es e.txn e.table e.key then e.frm = ⟨e.txn, wrote es e.txn e.table e.key⟩ else e.frm = ⟨0, 0⟩ ∨ VerOk es e.table e.key e.frm
def RefAt (h : Hs) (es : List Ev) (e : Ev) (i : Nat) : Prop := ∀ r, e.refs[i]? = some r → KeyOk h e.table r.key ∧ VerOk es e.table r.key r.frm ∧ (∀ q, 0 < i → e.refs[i - 1]? = some q → q.key.cmp r.key < 0)
def SeenAt (es : List Ev) (e : Ev) (x : Ev) : Prop := x.kind = 3 → x.txn = e.txn → x.table = e.table → ∃ r, r ∈ e.refs ∧ r.key = x.key ∧ r.frm = ⟨e.txn, wrote es e.txn e.table x.key⟩
def PredOk (h : Hs) (es : List Ev) (e : Ev) : Prop := (0 ≤ e.table ∧ ∃ t, h.tables[e.table.toNat]? = some t ∧ PdOk t e.pred) ∧ Upto e.refs.length (RefAt h es e) ∧ ∀ x, x ∈ es → SeenAt es e x
def There (l : List Rf) (k : Vl) (v : Vs) : Prop := ∃ r, r ∈ l ∧ r.key = k ∧ r.frm = v
@[simp] theorem there_nil {k : Vl} {v : Vs} : There [] k v ↔ False := by unfold There; simp
theorem there_next {l : List Rf} {q : Rf} {k : Vl} {v : Vs} : There (l ++ [q]) k v ↔ There l k v ∨ ((q.key.text = k.text ∧ q.key.n = k.n ∧ q.key.s = k.s) ∧ q.frm.txn = v.txn ∧ q.frm.n = v.n) := by
  unfold There
  rw [← Vl.eq_iff, ← Vs.eq_iff]
  constructor
  · rintro ⟨r, hr, g⟩
    rcases List.mem_append.1 hr with hr | hr
    · exact .inl ⟨r, hr, g⟩
    · simp only [List.mem_singleton] at hr; subst hr; exact .inr g
  · rintro (⟨r, hr, g⟩ | g)
    · exact ⟨r, List.mem_append_left _ hr, g⟩
    · exact ⟨q, by simp, g⟩
end Go.Rt
end

/- Contracts: the document's history, whether it is well formed. -/
section
namespace Go.Rt
open Go.Vm
def EventOk (h : Hs) (es : List Ev) (e : Ev) : Prop := FrameOk es e ∧ (e.kind = 2 → ReadOk h es e) ∧ (e.kind = 3 → WriteOk h es e) ∧ (e.kind = 4 → PredOk h es e)
theorem ref18_Committed_spec {h : Hs} (hok : h.Ok) (txn : Int) : GSpec prog true n_rr18_Committed [h.av, vi txn] [] (vb (decide (ended h.events txn = 5))) [] := by
  refine gspec1 rr18_Committed_is (by simp) (by decide) rfl ?_
  simp -dsimp [rr18_Committed, Hs.av]
  refine call_pure (ref18_Ended_spec hok txn) (by simp [Hs.av]) (by simp [Hs.av]) ?_
  simp -dsimp
  rfl
def Ins.isOf (table : Int) (k : Vl) (o : Ins) : Prop := o.table = table ∧ o.key = k
def InstalledOk (h : Hs) (e : Ev) : Prop := e.kind = 3 → ended h.events e.txn = 5 → ∃ o, o ∈ h.order ∧ o.isOf e.table e.key ∧ e.txn ∈ o.txns
def InstallOk (h : Hs) (a : Nat) (o : Ins) : Prop := (∀ x, x ∈ h.order.take a → ¬x.isOf o.table o.key) ∧
  (Upto o.txns.length fun i => ∀ t, o.txns[i]? = some t → ended h.events t = 5 ∧ wrote h.events t o.table o.key ≠ 0 ∧ t ∉ o.txns.take i) ∧ 0 < o.txns.length
def TablesOk (h : Hs) : Prop := (1 ≤ h.tables.length ∧ h.tables.length ≤ 3) ∧ h.TbsOk
def WellP (h : Hs) : Prop := TablesOk h ∧ (Upto h.events.length fun i => ∀ e, h.events[i]? = some e → EventOk h (h.events.take i) e ∧ InstalledOk h e) ∧ Upto h.order.length fun i => ∀ o, h.order[i]? = some o → InstallOk h i o
end Go.Rt
end

/- Contracts: is a history small? -/
section
namespace Go.Rt
open Go.Vm
mutual
def Pd.Flat (d : Int) : Pd → Prop
  | .mk o c v w l => d ≤ 6 ∧ l.length ≤ 6 ∧ Pd.FlatL (d + 1) l ∧ IntKind.i64.wrap (Pd.size (.mk o c v w l)) ≤ 30
def Pd.FlatL (d : Int) : List Pd → Prop
  | [] => True
  | p :: r => p.Flat d ∧ Pd.FlatL d r
end
theorem Pd.flat_eq (d : Int) (p : Pd) : p.Flat d ↔ d ≤ 6 ∧ p.l.length ≤ 6 ∧ Pd.FlatL (d + 1) p.l ∧ IntKind.i64.wrap p.size ≤ 30 := by cases p; rw [Pd.Flat]; rfl
theorem Pd.flatL_iff (d : Int) : ∀ l : List Pd, Pd.FlatL d l ↔ ∀ p, p ∈ l → p.Flat d
  | [] => by simp [Pd.FlatL]
  | p :: r => by simp [Pd.FlatL, Pd.flatL_iff d r]
theorem ref18_flat_spec {p : Pd} (h : p.Ok) : ∀ d : Int, 0 ≤ d → GSpec prog true n_rr18_flat [p.av, vi d] [] (vb (ofP (p.Flat d))) [] := by
  induction h with
  | mk p hl hv hw hq ih =>
  intro d hd
  refine gspec1 rr18_flat_is (by simp) (by decide) rfl ?_
  by_cases h1 : d ≤ 6
  · by_cases h2 : p.l.length ≤ 6
    · have n1 : ¬6 < d := by omega
      have n2 : ¬(6 : Int) < p.l.length := by omega
      simp -dsimp [rr18_flat, Pd.av_eq, n1, n2]
      refine loop_idx [] [] p.l.length (fun i => ⟨[(5, vi i), (1, vi d), (2, .ptr 2 0)], [(2, p.box)]⟩) (fun i => Upto i fun j => ∀ q, p.l[j]? = some q → q.Flat (d + 1)) ?_ ?_ ?_
      · simp -dsimp [Pd.box]
      · exact upto_zero
      · intro i hi hqq
        simp -dsimp [rr18_flat_l9, Pd.box]
        refine ⟨fun hlt => ?_, fun hge => ?_⟩
        · obtain ⟨q, hqi⟩ := some_at hlt
          have hw := wrap_in (n := (i : Int) + 1) (by omega)
          have hwd := wrap_in (n := d + 1) (by omega)
          simp -dsimp [hqi, Pd.cells_eq q, hwd]
          refine call_pure (ih q (List.mem_of_getElem? hqi) (d + 1) (by omega)) (by simp [Pd.av_eq]) (by simp [Pd.av_eq]) ?_
          simp -dsimp [hw]
          exact ⟨fun g g2 => g ((Pd.flatL_iff _ _).1 ((Pd.flat_eq d p).1 g2).2.2.1 q (List.mem_of_getElem? hqi)), fun g => ⟨hlt, hqq.succ fun q' hq' => by rw [hqi] at hq'; cases hq'; exact g⟩⟩
        · have hall : Pd.FlatL (d + 1) p.l := (Pd.flatL_iff _ _).2 fun q hqm => by
            obtain ⟨j, hj⟩ := List.getElem?_of_mem hqm
            exact hqq j (by have := (List.getElem?_eq_some_iff.1 hj).1; omega) q hj
          refine call_pure (ref03_Size_spec (.mk p hl hv hw hq)) (by simp [Pd.av_eq]) (by simp [Pd.av_eq]) ?_
          simp -dsimp [dec_ofP, Pd.flat_eq d p, h1, h2, hall]
    · have n1 : ¬6 < d := by omega
      have n2 : (6 : Int) < p.l.length := by omega
      simp -dsimp [rr18_flat, Pd.av_eq, n1, n2]
      exact fun g => h2 ((Pd.flat_eq d p).1 g).2.1
  · have n1 : 6 < d := by omega
    simp -dsimp [rr18_flat, Pd.av_eq, n1]
    exact fun g => h1 ((Pd.flat_eq d p).1 g).1
structure SmallEv (e : Ev) : Prop where
  refs : e.refs.length ≤ 12
  row : e.row.length ≤ 12
  flat : e.pred.Flat 0
structure SmallP (h : Hs) : Prop where
  tables : h.tables.length ≤ 6
  events : h.events.length ≤ 60
  order : h.order.length ≤ 30
  ev : Upto h.events.length fun i => ∀ e, h.events[i]? = some e → SmallEv e
  txns : Upto h.order.length fun i => ∀ o, h.order[i]? = some o → o.txns.length ≤ 20
theorem ref18_Small_spec {h : Hs} (hok : h.Ok) : GSpec prog true n_rr18_Small [h.av] [] (vb (ofP (SmallP h))) [] := by
  refine gspec1 rr18_Small_is (by simp) (by decide) rfl ?_
  by_cases h1 : h.tables.length ≤ 6
  · by_cases h2 : h.events.length ≤ 60
    · by_cases h3 : h.order.length ≤ 30
      · have n1 : ¬(6 : Int) < h.tables.length := by omega
        have n2 : ¬(60 : Int) < h.events.length := by omega
        have n3 : ¬(30 : Int) < h.order.length := by omega
        simp -dsimp [rr18_Small, Hs.av, n1, n2, n3]
        refine loop_idx [] [4] h.events.length (fun i => ⟨[(3, vi i), (1, .ptr 1 0)], [(1, .box [.iv (.lst 1 (tbsC h.tables)), .iv (.lst 22 (evsC h.events)), .iv (.lst 5 (insC h.order))])]⟩)
          (fun i => Upto i fun i => ∀ e, h.events[i]? = some e → SmallEv e) ?_ ?_ ?_
        · simp -dsimp
        · exact upto_zero
        · intro i hi hq
          simp -dsimp [rr18_Small_l9]
          refine ⟨fun hlt => ?_, fun hge => ?_⟩
          · obtain ⟨e, he⟩ := some_at hlt
            have hw := wrap_in (n := (i : Int) + 1) (by omega)
            have hno : ¬SmallEv e → ¬SmallP h := fun g g2 => g (g2.ev i hlt e he)
            have heok := hok.ev e (List.mem_of_getElem? he)
            by_cases e1 : e.refs.length ≤ 12
            · by_cases e2 : e.row.length ≤ 12
              · have m1 : ¬(12 : Int) < e.refs.length := by omega
                have m2 : ¬(12 : Int) < e.row.length := by omega
                simp -dsimp [he, m1, m2]
                refine call_pure (ref18_flat_spec heok.pred 0 (by omega)) (by simp [Pd.av]) (by simp [Pd.av]) ?_
                simp -dsimp [hw]
                exact ⟨fun g => hno fun g2 => g g2.flat, fun g => ⟨hlt, hq.succ fun e' he' => by rw [he] at he'; cases he'; exact ⟨e1, e2, g⟩⟩⟩
              · have m1 : ¬(12 : Int) < e.refs.length := by omega
                have m2 : (12 : Int) < e.row.length := by omega
                simp -dsimp [he, m1, m2]
                exact hno fun g => e2 g.row
            · have m1 : (12 : Int) < e.refs.length := by omega
              simp -dsimp [he, m1]
              exact hno fun g => e1 g.refs
          · refine loop_idx [] [] h.order.length (fun i => ⟨[(5, vi i), (1, .ptr 1 0)], [(1, .box [.iv (.lst 1 (tbsC h.tables)), .iv (.lst 22 (evsC h.events)), .iv (.lst 5 (insC h.order))])]⟩)
              (fun i => Upto i fun i => ∀ o, h.order[i]? = some o → o.txns.length ≤ 20) ?_ ?_ ?_
            · simp -dsimp
            · exact upto_zero
            · intro j hj hqj
              simp -dsimp [rr18_Small_l15]
              refine ⟨fun hjlt => ?_, fun hjge => ?_⟩
              · obtain ⟨o, ho⟩ := some_at hjlt
                have hw := wrap_in (n := (j : Int) + 1) (by omega)
                simp -dsimp [ho, Ins.cells_eq o, hw]
                refine ⟨fun g g2 => ?_, fun g => ⟨hjlt, hqj.succ fun o' ho' => by rw [ho] at ho'; cases ho'; omega⟩⟩
                have := g2.txns j hjlt o ho
                omega
              · exact ⟨h1, h2, h3, fun k hk => hq k (by omega), fun k hk => hqj k (by omega)⟩
      · have n1 : ¬(6 : Int) < h.tables.length := by omega
        have n2 : ¬(60 : Int) < h.events.length := by omega
        have n3 : (30 : Int) < h.order.length := by omega
        simp -dsimp [rr18_Small, Hs.av, n1, n2, n3]
        exact fun g => h3 g.order
    · have n1 : ¬(6 : Int) < h.tables.length := by omega
      have n2 : (60 : Int) < h.events.length := by omega
      simp -dsimp [rr18_Small, Hs.av, n1, n2]
      exact fun g => h2 g.events
  · have n1 : (6 : Int) < h.tables.length := by omega
    simp -dsimp [rr18_Small, Hs.av, n1]
    exact fun g => h1 g.tables
end Go.Rt
end

/- Contracts: copies; rows that are the same. -/
section
namespace Go.Rt
open Go.Vm
theorem Clone_ints {xs : List (List IV)} (hl : xs.length < 2 ^ 40) : GSpec prog false n_slices_Clone_int_int [.iv (.lst 1 xs)] [] (.iv (.lst 1 xs)) [] := by
  refine gspec1L [2, 5] slices_Clone_int_int_is (by simp) (by decide) ?_
  by_cases h : xs = []
  · subst h
    simp -dsimp [slices_Clone_int_int]
  · simp -dsimp [slices_Clone_int_int, h]
    omega
theorem Clone_values {xs : List (List IV)} (hl : xs.length < 2 ^ 40) : GSpec prog false n_slices_Clone_api_Row_api_Value [.iv (.lst 3 xs)] [] (.iv (.lst 3 xs)) [] := by
  refine gspec1L [2, 5] slices_Clone_api_Row_api_Value_is (by simp) (by decide) ?_
  by_cases h : xs = []
  · subst h
    simp -dsimp [slices_Clone_api_Row_api_Value]
  · simp -dsimp [slices_Clone_api_Row_api_Value, h]
    omega
theorem row_Clone_spec {xs : List (List IV)} (hl : xs.length < 2 ^ 40) : GSpec prog false n_row_Clone [.iv (.lst 3 xs)] [] (.iv (.lst 3 xs)) [] := by
  refine gspec1L [2] row_Clone_is (by simp) (by decide) ?_
  simp -dsimp [row_Clone]
  refine call_mut (Clone_values hl) rfl (by simp) (by simp) (by simp) (by simp) (by simp) (by simp) (by simp) ?_
  simp -dsimp
theorem ref02_Same_spec (a b : List Vl) (hl : a.length < 2 ^ 63) : GSpec prog true n_rr02_Same [.iv (.lst 3 (rowC a)), .iv (.lst 3 (rowC b))] [] (vb (decide (a = b))) [] := by
  refine gspec1 rr02_Same_is (by simp) (by decide) rfl ?_
  by_cases hlen : a.length = b.length
  · simp -dsimp [rr02_Same, hlen]
    refine loop_idx [] [] a.length (fun i => ⟨[(5, vi i), (0, .iv (.lst 3 (rowC a))), (1, .iv (.lst 3 (rowC b)))], []⟩) (fun i => a.take i = b.take i) ?_ rfl ?_
    · simp
    · intro i hi hQ
      by_cases hil : i < a.length
      · have hil2 : ¬a.length ≤ i := by omega
        obtain ⟨x, hx⟩ := some_at hil
        obtain ⟨y, hy⟩ : ∃ y, b[i]? = some y := some_at (by omega)
        have hw := wrap_in (n := (i : Int) + 1) (by omega)
        simp -dsimp [rr02_Same_l8, hil2, hx, hy, hw]
        refine fun _ => ⟨fun h hab => ?_, fun h1 h2 h3 => ⟨hil, ?_⟩⟩
        · subst hab
          rw [hx] at hy; cases hy
          rcases h with h | h | h <;> exact h rfl
        · have hxy : x = y := Vl.eq_iff.2 ⟨h1, h2, h3⟩
          rw [List.take_add_one, List.take_add_one, hQ, hx, hy, hxy]
      · have hie : i = a.length := by omega
        subst hie
        have hab : a = b := by rw [List.take_length, hlen, List.take_length] at hQ; exact hQ
        simp -dsimp [rr02_Same_l8, hab]
  · have hab : ¬a = b := fun h => hlen (by rw [h])
    have hlen2 : ¬(a.length : Int) = b.length := by omega
    simp -dsimp [rr02_Same, hlen, hlen2, hab]
end Go.Rt
end
