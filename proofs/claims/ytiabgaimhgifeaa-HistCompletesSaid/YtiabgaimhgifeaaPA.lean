/- Contracts of functions of the program, and what they lean on. Conditions: those of each theorem. -/
import Derived.Test.YtiabgaimhgifeaaMD
import Derived.Test.YtiabgaimhgifeaaProg

set_option linter.unusedVariables false
set_option linter.unusedSimpArgs false

/- The numbers of the functions. -/
section
namespace Go.Rt
@[reducible] noncomputable def prog : Program := Go.Proofs.Try.prog
@[reducible] def n_ratlinelaw18_HistChecks : FuncId := 3
@[reducible] def n_ratlinelaw18_HistShorter : FuncId := 4
@[reducible] def n_ratlinelaw18_HistOrders : FuncId := 5
@[reducible] def n_ratlinelaw18_HistBegins : FuncId := 6
@[reducible] def n_ratlinelaw18_HistAborts : FuncId := 7
@[reducible] def n_ratlinelaw18_HistCompletes : FuncId := 8
@[reducible] def n_ratlinelaw18_awake : FuncId := 9
@[reducible] def n_ratlineref18_Small : FuncId := 10
@[reducible] def n_ratlineref18_Well : FuncId := 11
@[reducible] def n_hist_Check : FuncId := 12
@[reducible] def n_hist_Ended : FuncId := 13
@[reducible] def n_ratlineref18_Committed : FuncId := 14
@[reducible] def n_ratlineref18_Same : FuncId := 15
@[reducible] def n_hist_Complete : FuncId := 16
@[reducible] def n_ratlineref18_Complete : FuncId := 17
@[reducible] def n_ratlineref18_Ended : FuncId := 18
@[reducible] def n_ratlineref18_flat : FuncId := 19
@[reducible] def n_ratlineref18_tables : FuncId := 20
@[reducible] def n_ratlineref18_event : FuncId := 21
@[reducible] def n_ratlineref18_installed : FuncId := 22
@[reducible] def n_ratlineref18_install : FuncId := 23
@[reducible] def n_hist_Check_1 : FuncId := 24
@[reducible] def n_hist_checker_frame : FuncId := 25
@[reducible] def n_hist_checker_read : FuncId := 26
@[reducible] def n_hist_checker_saw : FuncId := 27
@[reducible] def n_hist_checker_write : FuncId := 28
@[reducible] def n_hist_checker_order : FuncId := 29
@[reducible] def n_row_Check : FuncId := 30
@[reducible] def n_slices_IndexFunc_api_Event_api_Event : FuncId := 31
@[reducible] def n_hist_Ended_1 : FuncId := 32
@[reducible] def n_ratlineref18_Event : FuncId := 33
@[reducible] def n_slices_Clone_bool_bool : FuncId := 34
@[reducible] def n_slices_Clone_int_int : FuncId := 35
@[reducible] def n_row_Clone : FuncId := 36
@[reducible] def n_slices_Clone_api_Ref_api_Ref : FuncId := 37
@[reducible] def n_pred_Clone : FuncId := 38
@[reducible] def n_slices_Sorted_int : FuncId := 39
@[reducible] def n_maps_Keys_map_int_int_int_int : FuncId := 40
@[reducible] def n_ratlineref18_Txns : FuncId := 41
@[reducible] def n_ratlineref03_Size : FuncId := 42
@[reducible] def n_ratlineref02_May : FuncId := 43
@[reducible] def n_ratlineref18_frame : FuncId := 44
@[reducible] def n_ratlineref18_read : FuncId := 45
@[reducible] def n_ratlineref18_write : FuncId := 46
@[reducible] def n_ratlineref18_pred : FuncId := 47
@[reducible] def n_ratlineref18_Writes : FuncId := 48
@[reducible] def n_hist_checker_key : FuncId := 49
@[reducible] def n_hist_checker_version : FuncId := 50
@[reducible] def n_pred_Check : FuncId := 51
@[reducible] def n_value_Compare : FuncId := 52
@[reducible] def n_row_Fits : FuncId := 53
@[reducible] def n_ratlineref03_Same : FuncId := 54
@[reducible] def n_ratlineref02_Same : FuncId := 55
@[reducible] def n_slices_Clone_api_Row_api_Value : FuncId := 56
@[reducible] def n_slices_Clone_api_Pred_api_Pred : FuncId := 57
@[reducible] def n_slices_Collect_int : FuncId := 58
@[reducible] def n_slices_Sort_int_int : FuncId := 59
@[reducible] def n_maps_Keys_map_int_int_int_int_1 : FuncId := 60
@[reducible] def n_ratlineref18_key : FuncId := 61
@[reducible] def n_ratlineref18_version : FuncId := 62
@[reducible] def n_ratlineref02_Fits : FuncId := 63
@[reducible] def n_ratlineref03_May : FuncId := 64
@[reducible] def n_ratlineref01_Compare : FuncId := 65
@[reducible] def n_value_Right : FuncId := 66
@[reducible] def n_pred_checker_part : FuncId := 67
@[reducible] def n_pred_each : FuncId := 68
@[reducible] def n_pred_Size : FuncId := 69
@[reducible] def n_cmp_Compare_string : FuncId := 70
@[reducible] def n_cmp_Compare_int64 : FuncId := 71
@[reducible] def n_slices_AppendSeq_int_int : FuncId := 72
@[reducible] def n_slices_pdqsortOrdered_int : FuncId := 73
@[reducible] def n_math_bits_Len : FuncId := 74
@[reducible] def n_ratlineref01_Right : FuncId := 75
@[reducible] def n_ratlineref03_part : FuncId := 76
@[reducible] def n_pred_checker_of : FuncId := 77
@[reducible] def n_pred_Size_1 : FuncId := 78
@[reducible] def n_cmp_isNaN_string : FuncId := 79
@[reducible] def n_cmp_isNaN_int64 : FuncId := 80
@[reducible] def n_slices_insertionSortOrdered_int : FuncId := 81
@[reducible] def n_slices_heapSortOrdered_int : FuncId := 82
@[reducible] def n_slices_breakPatternsOrdered_int : FuncId := 83
@[reducible] def n_slices_choosePivotOrdered_int : FuncId := 84
@[reducible] def n_slices_reverseRangeOrdered_int : FuncId := 85
@[reducible] def n_slices_partialInsertionSortOrdered_int : FuncId := 86
@[reducible] def n_cmp_Less_int : FuncId := 87
@[reducible] def n_slices_partitionEqualOrdered_int : FuncId := 88
@[reducible] def n_slices_partitionOrdered_int : FuncId := 89
@[reducible] def n_math_bits_Len32 : FuncId := 90
@[reducible] def n_math_bits_Len64 : FuncId := 91
@[reducible] def n_ratlineref03_col : FuncId := 92
@[reducible] def n_slices_siftDownOrdered_int : FuncId := 93
@[reducible] def n_slices_nextPowerOfTwo : FuncId := 94
@[reducible] def n_slices_xorshift_Next : FuncId := 95
@[reducible] def n_slices_medianAdjacentOrdered_int : FuncId := 96
@[reducible] def n_slices_medianOrdered_int : FuncId := 97
@[reducible] def n_cmp_isNaN_int : FuncId := 98
@[reducible] def n_slices_order2Ordered_int : FuncId := 99
@[reducible] def n_api_Errno_Error : FuncId := 115
end Go.Rt
end

/- The program's data, and how the machine has them. No program in sight. -/
section
namespace Go.Rt
open Go.Vm

abbrev ci (i : Int) : IV := .v (.int .i64 i)
abbrev cb (b : Bool) : IV := .v (.bool b)
abbrev vi (i : Int) : AV := .iv (ci i)
abbrev vb (b : Bool) : AV := .iv (cb b)

/-- whether something holds -/
noncomputable def ofP (p : Prop) : Bool := @decide p (Classical.propDecidable p)
@[simp] theorem ofP_true {p : Prop} : ofP p = true ↔ p := by unfold ofP; exact @decide_eq_true_iff p (Classical.propDecidable p)
@[simp] theorem ofP_false {p : Prop} : ofP p = false ↔ ¬p := by unfold ofP; exact @decide_eq_false_iff_not p (Classical.propDecidable p)
theorem ofP_eq {p : Prop} {b : Bool} : b = ofP p ↔ (b = true ↔ p) := by
  rw [Bool.eq_iff_iff, ofP_true]
@[simp] theorem ofP_eq_true {p : Prop} : true = ofP p ↔ p := by rw [eq_comm, ofP_true]
@[simp] theorem ofP_eq_false {p : Prop} : false = ofP p ↔ ¬p := by rw [eq_comm, ofP_false]

/-- of all numbers below one -/
def Upto (n : Nat) (p : Nat → Prop) : Prop := ∀ j, j < n → p j
@[simp] theorem upto_zero {p : Nat → Prop} : Upto 0 p := fun _ h => absurd h (Nat.not_lt_zero _)
theorem Upto.succ {n : Nat} {p : Nat → Prop} (h : Upto n p) (hp : p n) : Upto (n + 1) p := fun j hj => by
  rcases Nat.lt_or_ge j n with h1 | h1
  · exact h j h1
  · have : j = n := by omega
    subst this; exact hp

theorem some_at {α : Type} {l : List α} {i : Nat} (h : i < l.length) : ∃ x, l[i]? = some x := ⟨_, List.getElem?_eq_getElem h⟩

theorem wrap_in {n : Int} (h : -(2 ^ 63) ≤ n ∧ n < 2 ^ 63) : IntKind.i64.wrap n = n := by rw [IntKind.wrap_i64]; omega
theorem cast_le {a b : Nat} : ((a : Int) ≤ (b : Int)) ↔ a ≤ b := by omega

/-- api.Value -/
@[ext] structure Vl where
  text : Bool
  n : Int
  s : ByteArray
@[simp] def Vl.cells (v : Vl) : List IV := [cb v.text, ci v.n, .v (.string v.s)]
def Vl.zero : Vl := ⟨false, 0, ⟨#[]⟩⟩
abbrev Vl.av (v : Vl) : AV := .agg (v.cells.map .iv)

@[simp] theorem Vl.eta (v : Vl) : Vl.mk v.text v.n v.s = v := rfl
@[simp] theorem Vl.mk_text (t : Bool) (n : Int) (s : ByteArray) : (Vl.mk t n s).text = t := rfl
@[simp] theorem Vl.mk_n (t : Bool) (n : Int) (s : ByteArray) : (Vl.mk t n s).n = n := rfl
@[simp] theorem Vl.mk_s (t : Bool) (n : Int) (s : ByteArray) : (Vl.mk t n s).s = s := rfl

abbrev Tb := List Bool
def boolsC (l : List Bool) : List (List IV) := l.map fun b => [cb b]
def tbIV (t : Tb) : IV := .lst 1 (boolsC t)

def tbAV (t : Tb) : AV := .agg [.iv (tbIV t)]

def intsC (l : List Int) : List (List IV) := l.map fun i => [ci i]
def intsIV (l : List Int) : IV := .lst 1 (intsC l)
def rowIV (r : List Vl) : IV := .lst 3 (r.map Vl.cells)

@[simp] theorem boolsC_len (l : List Bool) : (boolsC l).length = l.length := by simp [boolsC]
@[simp] theorem boolsC_get (l : List Bool) (i : Nat) : (boolsC l)[i]? = (l[i]?).map fun b => [cb b] := by simp [boolsC]
@[simp] theorem intsC_len (l : List Int) : (intsC l).length = l.length := by simp [intsC]
@[simp] theorem intsC_get (l : List Int) (i : Nat) : (intsC l)[i]? = (l[i]?).map fun b => [ci b] := by simp [intsC]


/-- api.Pred -/
inductive Pd where
  | mk (op col : Int) (v w : Vl) (l : List Pd)

def Pd.op : Pd → Int
  | .mk o _ _ _ _ => o
def Pd.col : Pd → Int
  | .mk _ c _ _ _ => c
def Pd.v : Pd → Vl
  | .mk _ _ v _ _ => v
def Pd.w : Pd → Vl
  | .mk _ _ _ w _ => w
def Pd.l : Pd → List Pd
  | .mk _ _ _ _ l => l

mutual
def Pd.cells : Pd → List IV
  | .mk o c v w l => [ci o, ci c, cb v.text, ci v.n, .v (.string v.s), cb w.text, ci w.n, .v (.string w.s), .lst 9 (Pd.cellsL l)]
def Pd.cellsL : List Pd → List (List IV)
  | [] => []
  | p :: r => p.cells :: Pd.cellsL r
end

theorem Pd.cellsL_map : ∀ l : List Pd, Pd.cellsL l = l.map Pd.cells
  | [] => by simp [Pd.cellsL]
  | p :: r => by simp [Pd.cellsL, Pd.cellsL_map r]
theorem Pd.cells_eq (p : Pd) : p.cells = [ci p.op, ci p.col, cb p.v.text, ci p.v.n, .v (.string p.v.s), cb p.w.text, ci p.w.n, .v (.string p.w.s), .lst 9 (p.l.map Pd.cells)] := by
  cases p with | mk o c v w l => rw [Pd.cells, Pd.cellsL_map]; rfl
def Pd.av (p : Pd) : AV := .agg (p.cells.map .iv)
theorem Pd.av_eq (p : Pd) : p.av = .agg [.iv (ci p.op), .iv (ci p.col), .iv (cb p.v.text), .iv (ci p.v.n), .iv (.v (.string p.v.s)), .iv (cb p.w.text), .iv (ci p.w.n), .iv (.v (.string p.w.s)), .iv (.lst 9 (p.l.map Pd.cells))] := by
  unfold Pd.av; rw [Pd.cells_eq]; rfl

/-- lists that can be counted -/
inductive Pd.Ok : Pd → Prop where
  | mk (p : Pd) (h : p.l.length < 2 ^ 63) (hv : p.v.s.size < 2 ^ 63) (hw : p.w.s.size < 2 ^ 63) (hl : ∀ q, q ∈ p.l → q.Ok) : p.Ok

mutual
def Pd.size : Pd → Int
  | .mk _ _ _ _ l => 1 + Pd.sizes l
def Pd.sizes : List Pd → Int
  | [] => 0
  | p :: r => p.size + Pd.sizes r
end
theorem Pd.size_eq (p : Pd) : p.size = 1 + Pd.sizes p.l := by cases p; rw [Pd.size]; rfl
@[simp] theorem Pd.sizes_nil : Pd.sizes [] = 0 := by rw [Pd.sizes]
theorem Pd.sizes_take {l : List Pd} {i : Nat} {p : Pd} (h : l[i]? = some p) : Pd.sizes (l.take (i + 1)) = Pd.sizes (l.take i) + p.size := by
  induction l generalizing i with
  | nil => cases h
  | cons q r ih =>
    cases i with
    | zero => simp only [List.getElem?_cons_zero, Option.some.injEq] at h; subst h; simp [Pd.sizes]
    | succ i =>
      simp only [List.getElem?_cons_succ] at h
      simp only [List.take_succ_cons, Pd.sizes, ih h]
      omega

theorem wrap_wrap_add (a b : Int) : IntKind.i64.wrap (IntKind.i64.wrap a + IntKind.i64.wrap b) = IntKind.i64.wrap (a + b) := by
  simp only [IntKind.wrap_i64]; omega
theorem wrap_add1 (a b : Int) : IntKind.i64.wrap (IntKind.i64.wrap a + b) = IntKind.i64.wrap (a + b) := by
  simp only [IntKind.wrap_i64]; omega

end Go.Rt
end

/- Histories as data. No program in sight. -/
section
namespace Go.Rt
open Go.Vm

instance : DecidableEq Vl := fun a b =>
  if h : a.text = b.text ∧ a.n = b.n ∧ a.s = b.s then .isTrue (by cases a; cases b; simp_all) else .isFalse (by rintro rfl; exact h ⟨rfl, rfl, rfl⟩)
theorem Vl.eq_iff {a b : Vl} : a = b ↔ a.text = b.text ∧ a.n = b.n ∧ a.s = b.s := by
  constructor
  · rintro rfl; exact ⟨rfl, rfl, rfl⟩
  · intro h; cases a; cases b; simp_all

/-- api.Version -/
structure Vs where
  txn : Int
  n : Int
  deriving DecidableEq
@[simp] def Vs.cells (v : Vs) : List IV := [ci v.txn, ci v.n]
abbrev Vs.av (v : Vs) : AV := .agg (v.cells.map .iv)
theorem Vs.eq_iff {a b : Vs} : a = b ↔ a.txn = b.txn ∧ a.n = b.n := by
  constructor
  · rintro rfl; exact ⟨rfl, rfl⟩
  · intro h; cases a; cases b; simp_all

/-- api.Ref -/
structure Rf where
  key : Vl
  frm : Vs
def Rf.cells (r : Rf) : List IV := [cb r.key.text, ci r.key.n, .v (.string r.key.s), ci r.frm.txn, ci r.frm.n]
theorem Rf.cells_eq (r : Rf) : r.cells = [cb r.key.text, ci r.key.n, .v (.string r.key.s), ci r.frm.txn, ci r.frm.n] := rfl

/-- api.Event -/
structure Ev where
  txn : Int
  kind : Int
  level : Int
  table : Int
  key : Vl
  frm : Vs
  n : Int
  row : List Vl
  pred : Pd
  refs : List Rf
  cur : Bool
def rowC (r : List Vl) : List (List IV) := r.map Vl.cells
def refsC (r : List Rf) : List (List IV) := r.map Rf.cells
@[simp] theorem rowC_len (r : List Vl) : (rowC r).length = r.length := by simp [rowC]
@[simp] theorem rowC_get (r : List Vl) (i : Nat) : (rowC r)[i]? = (r[i]?).map Vl.cells := by simp [rowC]
@[simp] theorem refsC_len (r : List Rf) : (refsC r).length = r.length := by simp [refsC]
@[simp] theorem refsC_get (r : List Rf) (i : Nat) : (refsC r)[i]? = (r[i]?).map Rf.cells := by simp [refsC]

def Ev.cells (e : Ev) : List IV := ci e.txn :: ci e.kind :: ci e.level :: ci e.table :: cb e.key.text :: ci e.key.n :: .v (.string e.key.s) :: ci e.frm.txn :: ci e.frm.n :: ci e.n :: .lst 3 (rowC e.row) :: (e.pred.cells ++ [.lst 5 (refsC e.refs), cb e.cur])
theorem Ev.cells_eq (e : Ev) : e.cells = [ci e.txn, ci e.kind, ci e.level, ci e.table, cb e.key.text, ci e.key.n, .v (.string e.key.s), ci e.frm.txn, ci e.frm.n, ci e.n, .lst 3 (rowC e.row),
    ci e.pred.op, ci e.pred.col, cb e.pred.v.text, ci e.pred.v.n, .v (.string e.pred.v.s), cb e.pred.w.text, ci e.pred.w.n, .v (.string e.pred.w.s), .lst 9 (e.pred.l.map Pd.cells), .lst 5 (refsC e.refs), cb e.cur] := by
  unfold Ev.cells; rw [Pd.cells_eq]; rfl
@[simp] theorem Ev.len (e : Ev) : e.cells.length = 22 := by rw [Ev.cells_eq]; rfl
theorem Ev.at (e : Ev) (i : Nat) : e.cells[i]? = ([ci e.txn, ci e.kind, ci e.level, ci e.table, cb e.key.text, ci e.key.n, .v (.string e.key.s), ci e.frm.txn, ci e.frm.n, ci e.n, .lst 3 (rowC e.row),
    ci e.pred.op, ci e.pred.col, cb e.pred.v.text, ci e.pred.v.n, .v (.string e.pred.v.s), cb e.pred.w.text, ci e.pred.w.n, .v (.string e.pred.w.s), .lst 9 (e.pred.l.map Pd.cells), .lst 5 (refsC e.refs), cb e.cur] : List IV)[i]? := by rw [Ev.cells_eq]
theorem get_of {l : List IV} {i : Nat} {x : IV} {h : i < l.length} (e : l[i]? = some x) : l[i] = x := (List.getElem?_eq_some_iff.1 e).2
section
variable (e : Ev)
@[simp] theorem Ev.g0 {h} : e.cells[0]'h = ci e.txn := get_of (by rw [Ev.at]; rfl)
@[simp] theorem Ev.g1 {h} : e.cells[1]'h = ci e.kind := get_of (by rw [Ev.at]; rfl)
@[simp] theorem Ev.g2 {h} : e.cells[2]'h = ci e.level := get_of (by rw [Ev.at]; rfl)
@[simp] theorem Ev.g3 {h} : e.cells[3]'h = ci e.table := get_of (by rw [Ev.at]; rfl)
@[simp] theorem Ev.g4 {h} : e.cells[4]'h = cb e.key.text := get_of (by rw [Ev.at]; rfl)
@[simp] theorem Ev.g5 {h} : e.cells[5]'h = ci e.key.n := get_of (by rw [Ev.at]; rfl)
@[simp] theorem Ev.g6 {h} : e.cells[6]'h = .v (.string e.key.s) := get_of (by rw [Ev.at]; rfl)
@[simp] theorem Ev.g7 {h} : e.cells[7]'h = ci e.frm.txn := get_of (by rw [Ev.at]; rfl)
@[simp] theorem Ev.g8 {h} : e.cells[8]'h = ci e.frm.n := get_of (by rw [Ev.at]; rfl)
@[simp] theorem Ev.g9 {h} : e.cells[9]'h = ci e.n := get_of (by rw [Ev.at]; rfl)
@[simp] theorem Ev.g10 {h} : e.cells[10]'h = .lst 3 (rowC e.row) := get_of (by rw [Ev.at]; rfl)
@[simp] theorem Ev.g20 {h} : e.cells[20]'h = .lst 5 (refsC e.refs) := get_of (by rw [Ev.at]; rfl)
@[simp] theorem Ev.g21 {h} : e.cells[21]'h = cb e.cur := get_of (by rw [Ev.at]; rfl)
@[simp] theorem Ev.q0 : e.cells[0]? = some (ci e.txn) := by rw [Ev.at]; rfl
@[simp] theorem Ev.q1 : e.cells[1]? = some (ci e.kind) := by rw [Ev.at]; rfl
@[simp] theorem Ev.q2 : e.cells[2]? = some (ci e.level) := by rw [Ev.at]; rfl
@[simp] theorem Ev.q3 : e.cells[3]? = some (ci e.table) := by rw [Ev.at]; rfl
@[simp] theorem Ev.q4 : e.cells[4]? = some (cb e.key.text) := by rw [Ev.at]; rfl
@[simp] theorem Ev.q5 : e.cells[5]? = some (ci e.key.n) := by rw [Ev.at]; rfl
@[simp] theorem Ev.q6 : e.cells[6]? = some (.v (.string e.key.s)) := by rw [Ev.at]; rfl
@[simp] theorem Ev.q7 : e.cells[7]? = some (ci e.frm.txn) := by rw [Ev.at]; rfl
@[simp] theorem Ev.q8 : e.cells[8]? = some (ci e.frm.n) := by rw [Ev.at]; rfl
@[simp] theorem Ev.q9 : e.cells[9]? = some (ci e.n) := by rw [Ev.at]; rfl
@[simp] theorem Ev.q10 : e.cells[10]? = some (.lst 3 (rowC e.row)) := by rw [Ev.at]; rfl
@[simp] theorem Ev.q20 : e.cells[20]? = some (.lst 5 (refsC e.refs)) := by rw [Ev.at]; rfl
@[simp] theorem Ev.q21 : e.cells[21]? = some (cb e.cur) := by rw [Ev.at]; rfl
@[simp] theorem Ev.key_at : List.take 3 (List.drop 4 (e.cells.map AV.iv)) = [.iv (cb e.key.text), .iv (ci e.key.n), .iv (.v (.string e.key.s))] := by rw [Ev.cells_eq]; rfl
@[simp] theorem Ev.frm_at : List.take 2 (List.drop 7 (e.cells.map AV.iv)) = [.iv (ci e.frm.txn), .iv (ci e.frm.n)] := by rw [Ev.cells_eq]; rfl
@[simp] theorem Ev.pred_at : List.take 9 (List.drop 11 (e.cells.map AV.iv)) = e.pred.cells.map AV.iv := by rw [Ev.cells_eq, Pd.cells_eq]; rfl
@[simp] theorem Ev.take_all : List.take 22 e.cells = e.cells := List.take_of_length_le (by simp)
@[simp] theorem Ev.take_alla : List.take 22 (e.cells.map AV.iv) = e.cells.map AV.iv := List.take_of_length_le (by simp)
end
def Ev.av (e : Ev) : AV := .agg (e.cells.map .iv)

/-- api.Install -/
structure Ins where
  table : Int
  key : Vl
  txns : List Int
def Ins.cells (o : Ins) : List IV := [ci o.table, cb o.key.text, ci o.key.n, .v (.string o.key.s), .lst 1 (intsC o.txns)]
theorem Ins.cells_eq (o : Ins) : o.cells = [ci o.table, cb o.key.text, ci o.key.n, .v (.string o.key.s), .lst 1 (intsC o.txns)] := rfl

/-- api.History -/
structure Hs where
  tables : List Tb
  events : List Ev
  order : List Ins
def tbsC (l : List Tb) : List (List IV) := l.map fun t => [tbIV t]
def evsC (l : List Ev) : List (List IV) := l.map Ev.cells
def insC (l : List Ins) : List (List IV) := l.map Ins.cells
@[simp] theorem tbsC_len (l : List Tb) : (tbsC l).length = l.length := by simp [tbsC]
@[simp] theorem tbsC_get (l : List Tb) (i : Nat) : (tbsC l)[i]? = (l[i]?).map fun t => [tbIV t] := by simp [tbsC]
@[simp] theorem evsC_len (l : List Ev) : (evsC l).length = l.length := by simp [evsC]
@[simp] theorem evsC_get (l : List Ev) (i : Nat) : (evsC l)[i]? = (l[i]?).map Ev.cells := by simp [evsC]
@[simp] theorem insC_len (l : List Ins) : (insC l).length = l.length := by simp [insC]
@[simp] theorem insC_get (l : List Ins) (i : Nat) : (insC l)[i]? = (l[i]?).map Ins.cells := by simp [insC]
def Hs.cells (h : Hs) : List IV := [.lst 1 (tbsC h.tables), .lst 22 (evsC h.events), .lst 5 (insC h.order)]
def Hs.av (h : Hs) : AV := .agg [.iv (.lst 1 (tbsC h.tables)), .iv (.lst 22 (evsC h.events)), .iv (.lst 5 (insC h.order))]

/-- what can be counted, and compared -/
structure Ev.Ok (e : Ev) : Prop where
  row : e.row.length < 2 ^ 63
  refs : e.refs.length < 2 ^ 63
  pred : e.pred.Ok
  key : e.key.s.size < 2 ^ 63
  rkey : ∀ r, r ∈ e.refs → r.key.s.size < 2 ^ 63
structure Hs.Ok (h : Hs) : Prop where
  tables : h.tables.length < 2 ^ 63
  events : h.events.length < 2 ^ 63
  order : h.order.length < 2 ^ 63
  ev : ∀ e, e ∈ h.events → e.Ok
  txns : ∀ o, o ∈ h.order → o.txns.length < 2 ^ 63
  tb : ∀ t, t ∈ h.tables → t.length < 2 ^ 63
  cols : ∀ o, o ∈ h.order → o.key.s.size < 2 ^ 63

/-- is an event a write of an object? -/
def Ev.isW (txn table : Int) (k : Vl) (e : Ev) : Bool := decide (e.kind = 3) && decide (e.txn = txn) && decide (e.table = table) && decide (e.key = k)
theorem Ev.isW_iff {e : Ev} {txn table : Int} {k : Vl} : e.isW txn table k = true ↔ e.kind = 3 ∧ e.txn = txn ∧ e.table = table ∧ e.key.text = k.text ∧ e.key.n = k.n ∧ e.key.s = k.s := by
  unfold Ev.isW
  simp only [Bool.and_eq_true, decide_eq_true_eq, Vl.eq_iff, and_assoc]
/-- how often a transaction wrote an object -/
def wrote (es : List Ev) (txn table : Int) (k : Vl) : Nat := (es.filter (Ev.isW txn table k)).length
theorem wrote_take {es : List Ev} {i : Nat} {e : Ev} (h : es[i]? = some e) (txn table : Int) (k : Vl) : wrote (es.take (i + 1)) txn table k = wrote (es.take i) txn table k + if e.isW txn table k = true then 1 else 0 := by
  have : es.take (i + 1) = es.take i ++ [e] := by rw [List.take_add_one, h]; rfl
  rw [this]
  unfold wrote
  rw [List.filter_append, List.length_append]
  congr 1
  cases hw : e.isW txn table k <;> simp [hw]
theorem wrote_le (es : List Ev) (txn table : Int) (k : Vl) : wrote es txn table k ≤ es.length := List.length_filter_le _ _


theorem ofP_inj {p q : Prop} : ofP p = ofP q ↔ (p ↔ q) := by rw [ofP_eq, ofP_true]
theorem dec_ofP {p q : Prop} [Decidable q] : decide q = ofP p ↔ (q ↔ p) := by rw [ofP_eq, decide_eq_true_eq]
theorem take_next {α : Type} {l : List α} {i : Nat} {x : α} (h : l[i]? = some x) : l.take (i + 1) = l.take i ++ [x] := by
  rw [List.take_add_one, h]; rfl

/-- has a transaction an event? -/
def Begun (es : List Ev) (txn : Int) : Prop := ∃ x, x ∈ es ∧ x.txn = txn
/-- has it none that ends it? -/
def NoEnd (es : List Ev) (txn : Int) : Prop := ∀ x, x ∈ es → x.txn = txn → x.kind ≠ 5 ∧ x.kind ≠ 6
@[simp] theorem begun_nil {txn : Int} : Begun [] txn ↔ False := by unfold Begun; simp
@[simp] theorem noEnd_nil {txn : Int} : NoEnd [] txn := fun _ h => by cases h
theorem begun_next {es : List Ev} {e : Ev} {txn : Int} : Begun (es ++ [e]) txn ↔ Begun es txn ∨ e.txn = txn := by
  unfold Begun
  constructor
  · rintro ⟨x, h, h2⟩
    rcases List.mem_append.1 h with h | h
    · exact .inl ⟨x, h, h2⟩
    · simp only [List.mem_singleton] at h; subst h; exact .inr h2
  · rintro (⟨x, h, h2⟩ | h)
    · exact ⟨x, List.mem_append_left _ h, h2⟩
    · exact ⟨e, by simp, h⟩
theorem noEnd_next {es : List Ev} {e : Ev} {txn : Int} : NoEnd (es ++ [e]) txn ↔ NoEnd es txn ∧ (e.txn = txn → e.kind ≠ 5 ∧ e.kind ≠ 6) := by
  unfold NoEnd
  constructor
  · intro h; exact ⟨fun x hx => h x (List.mem_append_left _ hx), h e (by simp)⟩
  · rintro ⟨h, h2⟩ x hx
    rcases List.mem_append.1 hx with hx | hx
    · exact h x hx
    · simp only [List.mem_singleton] at hx; subst hx; exact h2
/-- what is so of more events is so of fewer -/
theorem NoEnd.take {es : List Ev} {i a : Nat} {txn : Int} (h : NoEnd (es.take a) txn) (hi : i ≤ a) : NoEnd (es.take i) txn := fun x hx => h x ((List.take_subset_take_left es hi) hx)
/-- rule 2 -/
def FrameOk (es : List Ev) (e : Ev) : Prop := 1 ≤ e.txn ∧ 1 ≤ e.kind ∧ e.kind ≤ 6 ∧ NoEnd es e.txn ∧ (e.kind = 1 → ¬Begun es e.txn ∧ 1 ≤ e.level ∧ e.level ≤ 5) ∧ (e.kind ≠ 1 → Begun es e.txn)

end Go.Rt
end

/- What the checker of histories knows, as data. No program in sight. -/
section
namespace Go.Rt
open Go.Vm

abbrev skS : Sk := (false, [.i .i64], false)
abbrev skW : Sk := (true, [.i .i64, .i .i64, .b, .i .i64, .s], false)

/-- how a transaction stands: 0, or its last beginning or end -/
def stOf (es : List Ev) (txn : Int) : Int := es.foldl (fun s e => if e.txn = txn ∧ (e.kind = 1 ∨ e.kind = 5 ∨ e.kind = 6) then e.kind else s) 0
theorem stOf_next (es : List Ev) (e : Ev) (txn : Int) : stOf (es ++ [e]) txn = if e.txn = txn ∧ (e.kind = 1 ∨ e.kind = 5 ∨ e.kind = 6) then e.kind else stOf es txn := by
  unfold stOf; rw [List.foldl_append]; rfl

/-- the map of how transactions stand -/
def gS (es : List Ev) : List Value → Option (List IV)
  | [.int .i64 txn] => if stOf es txn = 0 then none else some [ci (stOf es txn)]
  | _ => none
/-- the map of how often what was written -/
def gW (es : List Ev) : List Value → Option (List IV)
  | [.int .i64 txn, .int .i64 table, .bool t, .int .i64 n, .string s] => if wrote es txn table ⟨t, n, s⟩ = 0 then none else some [ci (wrote es txn table ⟨t, n, s⟩)]
  | _ => none
/-- an object -/
def obC (o : Int × Vl) : List IV := [ci o.1, cb o.2.text, ci o.2.n, .v (.string o.2.s)]
/-- what a transaction wrote, in the order of the first writes -/
def spots (es : List Ev) (txn : Int) : List (Int × Vl) := (es.filter fun e => decide (e.kind = 3) && decide (e.txn = txn) && decide (e.n = 1)).map fun e => (e.table, e.key)
def gP (es : List Ev) : List Value → Option (List (List IV))
  | [.int .i64 txn] => if spots es txn = [] then none else some ((spots es txn).map obC)
  | _ => none
/-- the same, as what changes no more -/
def gPi (es : List Ev) (k : List Value) : Option (List IV) := (gP es k).map fun xs => [IV.lst 4 xs]

@[simp] theorem lk_gS (es : List Ev) (txn : Int) : lkR [.iv (.v (.int .i64 0))] false false (gS es [Value.int .i64 txn]) = vi (stOf es txn) := by
  simp only [gS]
  by_cases h : stOf es txn = 0
  · rw [if_pos h, h]; rfl
  · rw [if_neg h]; rfl
@[simp] theorem lk_gW (es : List Ev) (txn table : Int) (t : Bool) (n : Int) (s : ByteArray) :
    lkR [.iv (.v (.int .i64 0))] false false (gW es [Value.int .i64 txn, Value.int .i64 table, Value.bool t, Value.int .i64 n, Value.string s]) = vi (wrote es txn table ⟨t, n, s⟩) := by
  simp only [gW]
  by_cases h : wrote es txn table ⟨t, n, s⟩ = 0
  · rw [if_pos h, h]; rfl
  · rw [if_neg h]; rfl

/-- the last of a key's references -/
def lastRef (l : List Rf) (k : Vl) : Option Vs := l.foldl (fun s r => if r.key = k then some r.frm else s) none
theorem lastRef_next (l : List Rf) (r : Rf) (k : Vl) : lastRef (l ++ [r]) k = if r.key = k then some r.frm else lastRef l k := by
  unfold lastRef; rw [List.foldl_append]; rfl
abbrev skO : Sk := (true, [.i .i64, .b, .i .i64, .s], true)
/-- the map of references -/
def gR (tab : Int) (l : List Rf) : List Value → Option (List IV)
  | [.int .i64 table, .bool t, .int .i64 n, .string s] => if table = tab then (lastRef l ⟨t, n, s⟩).map Vs.cells else none
  | _ => none
@[simp] theorem lk_gR (tab : Int) (l : List Rf) (t : Bool) (n : Int) (s : ByteArray) :
    lkR [.iv (.v (.int .i64 0)), .iv (.v (.int .i64 0))] true false (gR tab l [Value.int .i64 tab, Value.bool t, Value.int .i64 n, Value.string s]) = .agg [vi ((lastRef l ⟨t, n, s⟩).getD ⟨0, 0⟩).txn, vi ((lastRef l ⟨t, n, s⟩).getD ⟨0, 0⟩).n] := by
  simp only [gR, if_pos trivial]
  cases lastRef l ⟨t, n, s⟩ <;> rfl
theorem gR_nil (tab : Int) : gR tab [] = fun _ => none := by
  funext q; unfold gR; split
  · split <;> rfl
  · rfl
theorem gset_gR (tab : Int) (l : List Rf) (r : Rf) : gset (gR tab l) [.int .i64 tab, .bool r.key.text, .int .i64 r.key.n, .string r.key.s] (some [ci r.frm.txn, ci r.frm.n]) = gR tab (l ++ [r]) := by
  funext q
  simp only [gset]
  split
  · rename_i e; subst e; simp [gR, lastRef_next]
  · rename_i hne
    unfold gR
    split
    · rename_i table t n s
      by_cases h1 : table = tab
      · subst h1
        rw [if_pos rfl, if_pos rfl, lastRef_next, if_neg]
        rintro h2
        exact hne (by rw [h2])
      · rw [if_neg h1, if_neg h1]
    · rfl

theorem spots_le (es : List Ev) (txn : Int) : (spots es txn).length ≤ es.length := by
  unfold spots; rw [List.length_map]; exact List.length_filter_le _ _
theorem gPi_def (es : List Ev) : (fun k => Option.map (fun xs => [IV.lst 4 xs]) (gP es k)) = gPi es := rfl
theorem gPi_nil {es : List Ev} {txn : Int} (h : spots es txn = []) : gPi es [.int .i64 txn] = none := by simp [gPi, gP, h]
theorem gPi_some {es : List Ev} {txn : Int} (h : spots es txn ≠ []) : gPi es [.int .i64 txn] = some [.lst 4 ((spots es txn).map obC)] := by simp [gPi, gP, h]

/-- the checker, looked at -/
def ckIV (h : Hs) (a es : List Ev) : IV := .pt [.lst 1 (tbsC h.tables), .lst 22 (evsC h.events), .lst 5 (insC h.order), .mp skS (gS a), .mp skW (gW es), .mp skS (gPi es)]

/-- the checker's objects -/
abbrev ckBox (h : Hs) : Ob := .box [.iv (.lst 1 (tbsC h.tables)), .iv (.lst 22 (evsC h.events)), .iv (.lst 5 (insC h.order)), .mpr 1001, .mpr 1002, .mpr 1003]
abbrev ckH (h : Hs) (a b c : List Ev) : Hp := [(1000, ckBox h), (1001, .map skS (gS a)), (1002, .map skW (gW b)), (1003, .mapo skS 4 (gP c) none)]

theorem gset_gS {es : List Ev} {e : Ev} (hk : e.kind = 1 ∨ e.kind = 5 ∨ e.kind = 6) : gset (gS es) [.int .i64 e.txn] (some [ci e.kind]) = gS (es ++ [e]) := by
  funext q
  simp only [gset]
  split
  · rename_i h; subst h
    have hs : stOf (es ++ [e]) e.txn = e.kind := by rw [stOf_next, if_pos ⟨rfl, hk⟩]
    simp only [gS, hs]
    rw [if_neg (by omega)]
  · rename_i hne
    unfold gS
    split
    · rename_i t
      have hs : stOf (es ++ [e]) t = stOf es t := by
        rw [stOf_next, if_neg]
        rintro ⟨rfl, _⟩; exact hne rfl
      rw [hs]
    · rfl
theorem gS_same {es : List Ev} {e : Ev} (hk : ¬(e.kind = 1 ∨ e.kind = 5 ∨ e.kind = 6)) : gS (es ++ [e]) = gS es := by
  funext q
  unfold gS
  split
  · rename_i t
    have hs : stOf (es ++ [e]) t = stOf es t := by rw [stOf_next, if_neg fun g => hk g.2]
    rw [hs]
  · rfl

theorem wrote_next (es : List Ev) (e : Ev) (txn table : Int) (k : Vl) : wrote (es ++ [e]) txn table k = wrote es txn table k + if e.isW txn table k = true then 1 else 0 := by
  unfold wrote
  rw [List.filter_append, List.length_append]
  congr 1
  cases hw : e.isW txn table k <;> simp [hw]
theorem gset_gW {es : List Ev} {e : Ev} (hk : e.kind = 3) : gset (gW es) [.int .i64 e.txn, .int .i64 e.table, .bool e.key.text, .int .i64 e.key.n, .string e.key.s] (some [ci ((wrote es e.txn e.table e.key : Int) + 1)]) = gW (es ++ [e]) := by
  funext q
  simp only [gset]
  split
  · rename_i h; subst h
    have hw : wrote (es ++ [e]) e.txn e.table ⟨e.key.text, e.key.n, e.key.s⟩ = wrote es e.txn e.table e.key + 1 := by
      rw [wrote_next, if_pos (Ev.isW_iff.2 ⟨hk, rfl, rfl, rfl, rfl, rfl⟩)]
    simp only [gW, hw]
    rw [if_neg (by omega)]
    simp
  · rename_i hne
    unfold gW
    split
    · rename_i txn table t n s
      have hw : wrote (es ++ [e]) txn table ⟨t, n, s⟩ = wrote es txn table ⟨t, n, s⟩ := by
        rw [wrote_next, if_neg, Nat.add_zero]
        rw [Ev.isW_iff]
        rintro ⟨_, rfl, rfl, h1, h2, h3⟩
        simp only at h1 h2 h3
        subst h1 h2 h3
        exact hne rfl
      rw [hw]
    · rfl
theorem gW_same {es : List Ev} {e : Ev} (hk : e.kind ≠ 3) : gW (es ++ [e]) = gW es := by
  funext q
  unfold gW
  split
  · rw [wrote_next, if_neg (fun g => hk (Ev.isW_iff.1 g).1), Nat.add_zero]
  · rfl
theorem spots_next (es : List Ev) (e : Ev) (txn : Int) : spots (es ++ [e]) txn = spots es txn ++ (if e.kind = 3 ∧ e.txn = txn ∧ e.n = 1 then [(e.table, e.key)] else []) := by
  unfold spots
  rw [List.filter_append, List.map_append]
  congr 1
  simp only [List.filter_cons, List.filter_nil, Bool.and_eq_true, decide_eq_true_eq, and_assoc]
  split <;> simp
theorem gset_gP {es : List Ev} {e : Ev} (hk : e.kind = 3) (hn : e.n = 1) : gset (gP es) [.int .i64 e.txn] (some ((spots es e.txn).map obC ++ [obC (e.table, e.key)])) = gP (es ++ [e]) := by
  funext q
  simp only [gset]
  split
  · rename_i h; subst h
    have hs : spots (es ++ [e]) e.txn = spots es e.txn ++ [(e.table, e.key)] := by rw [spots_next, if_pos ⟨hk, rfl, hn⟩]
    simp only [gP, hs]
    rw [if_neg (by simp)]
    simp
  · rename_i hne
    unfold gP
    split
    · rename_i t
      have hs : spots (es ++ [e]) t = spots es t := by
        rw [spots_next, if_neg, List.append_nil]
        rintro ⟨_, rfl, _⟩; exact hne rfl
      rw [hs]
    · rfl
theorem gP_same {es : List Ev} {e : Ev} (hk : ¬(e.kind = 3 ∧ e.n = 1)) : gP (es ++ [e]) = gP es := by
  funext q
  unfold gP
  split
  · rename_i t
    have hs : spots (es ++ [e]) t = spots es t := by rw [spots_next, if_neg (fun g => hk ⟨g.1, g.2.2⟩), List.append_nil]
    rw [hs]
  · rfl
theorem gP_nil {es : List Ev} {txn : Int} (h : spots es txn = []) : gP es [.int .i64 txn] = none := by simp [gP, h]
theorem gP_some {es : List Ev} {txn : Int} (h : spots es txn ≠ []) : gP es [.int .i64 txn] = some ((spots es txn).map obC) := by simp [gP, h]
@[simp] theorem gset_gset {β : Type} (g : List Value → Option β) (k : List Value) (a b : Option β) : gset (gset g k a) k b = gset g k b := by
  funext q; simp only [gset]; split <;> rfl
end Go.Rt
end

/- What the checker of orders knows, as data. No program in sight. -/
section
namespace Go.Rt
open Go.Vm

open Classical in
/-- what is left: of transactions and objects -/
noncomputable def gLeft (p : Int → Int × Vl → Prop) : List Value → Option (List IV)
  | [.int .i64 txn, .int .i64 table, .bool t, .int .i64 n, .string s] => if p txn (table, ⟨t, n, s⟩) then some [ci 1] else none
  | _ => none
theorem gLeft_none : gLeft (fun _ _ => False) = fun _ => none := by
  funext q; unfold gLeft; split
  · rw [if_neg]; exact fun h => h
  · rfl
theorem gLeft_congr {p p' : Int → Int × Vl → Prop} (h : ∀ t o, p t o ↔ p' t o) : gLeft p = gLeft p' := by
  have : p = p' := by funext t o; exact propext (h t o)
  rw [this]
theorem gLeft_set (p : Int → Int × Vl → Prop) (txn : Int) (o : Int × Vl) : gset (gLeft p) [.int .i64 txn, .int .i64 o.1, .bool o.2.text, .int .i64 o.2.n, .string o.2.s] (some [ci 1]) = gLeft (fun t x => p t x ∨ (t = txn ∧ x = o)) := by
  funext q
  simp only [gset]
  split
  · rename_i h; subst h
    simp only [gLeft]
    rw [if_pos]
    exact .inr ⟨rfl, rfl⟩
  · rename_i hne
    unfold gLeft
    split
    · rename_i t table b n s
      have hn : ¬(t = txn ∧ (table, (⟨b, n, s⟩ : Vl)) = o) := by rintro ⟨rfl, rfl⟩; exact hne rfl
      by_cases hp : p t (table, ⟨b, n, s⟩)
      · rw [if_pos hp, if_pos (.inl hp)]
      · rw [if_neg hp, if_neg fun g => g.elim hp hn]
    · rfl
theorem gLeft_del (p : Int → Int × Vl → Prop) (txn : Int) (o : Int × Vl) : gset (gLeft p) [.int .i64 txn, .int .i64 o.1, .bool o.2.text, .int .i64 o.2.n, .string o.2.s] none = gLeft (fun t x => p t x ∧ ¬(t = txn ∧ x = o)) := by
  funext q
  simp only [gset]
  split
  · rename_i h; subst h
    simp only [gLeft]
    rw [if_neg]
    exact fun g => g.2 ⟨rfl, rfl⟩
  · rename_i hne
    unfold gLeft
    split
    · rename_i t table b n s
      have hn : ¬(t = txn ∧ (table, (⟨b, n, s⟩ : Vl)) = o) := by rintro ⟨rfl, rfl⟩; exact hne rfl
      by_cases hp : p t (table, ⟨b, n, s⟩)
      · rw [if_pos hp, if_pos ⟨hp, hn⟩]
      · rw [if_neg hp, if_neg fun g => hp g.1]
    · rfl
open Classical in
theorem lk_gLeft (p : Int → Int × Vl → Prop) (txn table : Int) (t : Bool) (n : Int) (s : ByteArray) :
    lkR [.iv (.v (.int .i64 0))] false false (gLeft p [Value.int .i64 txn, Value.int .i64 table, Value.bool t, Value.int .i64 n, Value.string s]) = vi (if p txn (table, ⟨t, n, s⟩) then 1 else 0) := by
  simp only [gLeft]
  split <;> rfl
theorem gLeft_empty {p : Int → Int × Vl → Prop} : (∀ k, gLeft p k = none) ↔ ∀ t o, ¬p t o := by
  constructor
  · intro h t o hp
    have := h [.int .i64 t, .int .i64 o.1, .bool o.2.text, .int .i64 o.2.n, .string o.2.s]
    simp only [gLeft] at this
    rw [if_pos hp] at this
    cases this
  · intro h k
    unfold gLeft
    split
    · rw [if_neg (h _ _)]
    · rfl

/-- how many orders are of a key -/
def metN (l : List Ins) (table : Int) (k : Vl) : Nat := (l.filter fun o => decide (o.table = table) && decide (o.key = k)).length
theorem metN_next (l : List Ins) (o : Ins) (table : Int) (k : Vl) : metN (l ++ [o]) table k = metN l table k + if o.table = table ∧ o.key = k then 1 else 0 := by
  unfold metN
  rw [List.filter_append, List.length_append]
  congr 1
  simp only [List.filter_cons, List.filter_nil, Bool.and_eq_true, decide_eq_true_eq]
  split <;> rfl
theorem metN_zero {l : List Ins} {table : Int} {k : Vl} : metN l table k = 0 ↔ ∀ x, x ∈ l → ¬(x.table = table ∧ x.key = k) := by
  unfold metN
  rw [List.length_eq_zero_iff, List.filter_eq_nil_iff]
  simp
theorem metN_le (l : List Ins) (table : Int) (k : Vl) : metN l table k ≤ l.length := List.length_filter_le _ _
abbrev skM : Sk := (true, [.i .i64, .b, .i .i64, .s], false)
def gMet (l : List Ins) : List Value → Option (List IV)
  | [.int .i64 table, .bool t, .int .i64 n, .string s] => if metN l table ⟨t, n, s⟩ = 0 then none else some [ci (metN l table ⟨t, n, s⟩)]
  | _ => none
theorem gMet_nil : gMet [] = fun _ => none := by
  funext q; unfold gMet; split
  · rfl
  · rfl
@[simp] theorem lk_gMet (l : List Ins) (table : Int) (t : Bool) (n : Int) (s : ByteArray) :
    lkR [.iv (.v (.int .i64 0))] false false (gMet l [Value.int .i64 table, Value.bool t, Value.int .i64 n, Value.string s]) = vi (metN l table ⟨t, n, s⟩) := by
  simp only [gMet]
  by_cases h : metN l table ⟨t, n, s⟩ = 0
  · rw [if_pos h, h]; rfl
  · rw [if_neg h]; rfl
theorem gMet_set (l : List Ins) (o : Ins) : gset (gMet l) [.int .i64 o.table, .bool o.key.text, .int .i64 o.key.n, .string o.key.s] (some [ci ((metN l o.table o.key : Int) + 1)]) = gMet (l ++ [o]) := by
  funext q
  simp only [gset]
  split
  · rename_i h; subst h
    have hw : metN (l ++ [o]) o.table ⟨o.key.text, o.key.n, o.key.s⟩ = metN l o.table o.key + 1 := by
      rw [metN_next, if_pos ⟨rfl, rfl⟩]
    simp only [gMet, hw]
    rw [if_neg (by omega)]
    simp
  · rename_i hne
    unfold gMet
    split
    · rename_i table t n s
      have hw : metN (l ++ [o]) table ⟨t, n, s⟩ = metN l table ⟨t, n, s⟩ := by
        rw [metN_next, if_neg, Nat.add_zero]
        rintro ⟨rfl, h⟩
        rw [h] at hne
        exact hne rfl
      rw [hw]
    · rfl
theorem gPi_key {es : List Ev} {k : List Value} {c : List IV} (h : gPi es k = some c) : ∃ txn, k = [.int .i64 txn] ∧ spots es txn ≠ [] ∧ c = [.lst 4 ((spots es txn).map obC)] := by
  unfold gPi gP at h
  split at h
  · rename_i txn
    split at h
    · cases h
    · rename_i hne
      simp only [Option.map_some, Option.some.injEq] at h
      exact ⟨txn, rfl, hne, h.symm⟩
  · cases h

@[simp] theorem arg1_comp {s : St} {fr : Bool} {ids : List Nat} : s.arg1 fr ids ∘ AV.iv = AV.iv := funext fun _ => by simp
theorem rmk_mem {k q : List Value} {l : List (List Value)} : q ∈ rmk k l ↔ q ∈ l ∧ q ≠ k := by
  unfold rmk; rw [List.mem_filter]; simp
theorem rmk_lt {k : List Value} {l : List (List Value)} (h : k ∈ l) : (rmk k l).length < l.length := by
  unfold rmk
  refine List.length_filter_lt_length_iff_exists.2 ⟨k, h, ?_⟩
  simp
@[simp] theorem gset_at {β : Type} (g : List Value → Option β) (k : List Value) (c : Option β) : gset g k c k = c := by simp [gset]
/-- a loop over what is left of a map's keys -/
theorem loop_left {P : Program} {c : VCode} {s : St} {O : Outs} (D D' : List Nat) (S : List (List Value) → Option (List Value) → St) (Q : List (List Value) → Prop) (L : List (List Value)) (h0 : LeTo D s (S L none)) (q0 : Q L)
    (hs : ∀ left last, Q left → wpV P c (S left last) { O with n := fun s2 => ∃ k last', k ∈ left ∧ LeTo D' s2 (S (rmk k left) last') ∧ Q (rmk k left) }) : loopW P c s O := by
  refine loop_any (fun n s => ∃ left last, n = left.length ∧ s = S left last ∧ Q left) ⟨_, _, h0.le, L, none, rfl, rfl, q0⟩ ?_
  rintro k s' ⟨left, last, rfl, rfl, hq⟩
  refine wpV_mono c (O := { O with n := fun s2 => ∃ k last', k ∈ left ∧ LeTo D' s2 (S (rmk k left) last') ∧ Q (rmk k left) }) (fun s2 h => ?_) (fun _ _ h => h) (fun _ h => h) (fun _ _ h => h) (hs left last hq)
  obtain ⟨k, last', hk, hle, hq'⟩ := h
  exact ⟨_, _, rmk_lt hk, hle.le, _, _, rfl, rfl, hq'⟩

/-- rule 6, of an order, as the checker asks -/
def InsCk (h : Hs) (es : List Ev) (i : Nat) (o : Ins) : Prop := (∀ x, x ∈ h.order.take i → ¬(x.table = o.table ∧ x.key = o.key)) ∧ 0 < o.txns.length ∧
  Upto o.txns.length fun k => ∀ t, o.txns[k]? = some t → stOf es t = 5 ∧ (o.table, o.key) ∈ spots es t ∧ t ∉ o.txns.take k
def OrderOk (h : Hs) (es : List Ev) : Prop := (Upto h.order.length fun i => ∀ o, h.order[i]? = some o → InsCk h es i o) ∧
  ∀ t o, stOf es t = 5 → o ∈ spots es t → ∃ x, x ∈ h.order ∧ (x.table = o.1 ∧ x.key = o.2) ∧ t ∈ x.txns
end Go.Rt
end
