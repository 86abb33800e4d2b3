/- Contracts of functions of the program, and what they lean on. Conditions: those of each theorem. -/
import Derived.Test.YtahalmofaboejaaGreatMD
import Derived.Sort.Grow

set_option linter.unusedVariables false
set_option linter.unusedSimpArgs false

/- Short names for what is printed. -/
section
namespace Go.Vm
@[simp] abbrev oo (d : Nat) (r : Rhs) : VOp := ⟨some d, none, r⟩
@[simp] abbrev on (r : Rhs) : VOp := ⟨none, none, r⟩
@[simp] abbrev og (d j : Nat) (b : Bool) (r : Rhs) : VOp := ⟨some d, some (j, b), r⟩
@[simp] abbrev zi : AV := .iv (.v (.int .i64 0))
@[simp] abbrev zb : AV := .iv (.v (.bool false))
@[simp] abbrev zs : AV := .iv (.v (.string ⟨#[]⟩))
@[simp] abbrev ki (n : Int) : Value := .int .i64 n
@[simp] abbrev kb (b : Bool) : Value := .bool b
end Go.Vm
end

/- The program's data, and how the machine has them. No program in sight. -/
section
namespace Go.Rt
open Go.Vm
abbrev ci (i : Int) : IV := .v (.int .i64 i)
abbrev cb (b : Bool) : IV := .v (.bool b)
abbrev vi (i : Int) : AV := .iv (ci i)
abbrev vb (b : Bool) : AV := .iv (cb b)
noncomputable def ofP (p : Prop) : Bool := @decide p (Classical.propDecidable p)
@[simp] theorem ofP_true {p : Prop} : ofP p = true ↔ p := by unfold ofP; exact @decide_eq_true_iff p (Classical.propDecidable p)
@[simp] theorem ofP_false {p : Prop} : ofP p = false ↔ ¬p := by unfold ofP; exact @decide_eq_false_iff_not p (Classical.propDecidable p)
theorem ofP_eq {p : Prop} {b : Bool} : b = ofP p ↔ (b = true ↔ p) := by
  rw [Bool.eq_iff_iff, ofP_true]
@[simp] theorem ofP_eq_true {p : Prop} : true = ofP p ↔ p := by rw [eq_comm, ofP_true]
@[simp] theorem ofP_eq_false {p : Prop} : false = ofP p ↔ ¬p := by rw [eq_comm, ofP_false]
def Upto (n : Nat) (p : Nat → Prop) : Prop := ∀ j, j < n → p j
@[simp] theorem upto_zero {p : Nat → Prop} : Upto 0 p := fun _ h => absurd h (Nat.not_lt_zero _)
theorem Upto.succ {n : Nat} {p : Nat → Prop} (h : Upto n p) (hp : p n) : Upto (n + 1) p := fun j hj => by
  rcases Nat.lt_or_ge j n with h1 | h1
  · exact h j h1
  · have : j = n := by omega
    subst this; exact hp
theorem some_at {α : Type} {l : List α} {i : Nat} (h : i < l.length) : ∃ x, l[i]? = some x := ⟨_, List.getElem?_eq_getElem h⟩
theorem wrap_in {n : Int} (h : -(2 ^ 63) ≤ n ∧ n < 2 ^ 63) : IntKind.i64.wrap n = n := by rw [IntKind.wrap_i64]; omega
@[ext] structure Vl where
  text : Bool
  n : Int
  s : ByteArray
@[simp] def Vl.cells (v : Vl) : List IV := [cb v.text, ci v.n, .v (.string v.s)]
def Vl.zero : Vl := ⟨false, 0, ⟨#[]⟩⟩
abbrev Vl.av (v : Vl) : AV := .agg (v.cells.map .iv)
@[simp] theorem Vl.eta (v : Vl) : Vl.mk v.text v.n v.s = v := rfl
@[simp] theorem Vl.mk_text (t : Bool) (n : Int) (s : ByteArray) : (Vl.mk t n s).text = t := rfl
@[simp] theorem Vl.mk_n (t : Bool) (n : Int) (s : ByteArray) : (Vl.mk t n s).n = n := rfl
@[simp] theorem Vl.mk_s (t : Bool) (n : Int) (s : ByteArray) : (Vl.mk t n s).s = s := rfl
abbrev Tb := List Bool
def boolsC (l : List Bool) : List (List IV) := l.map fun b => [cb b]
def tbIV (t : Tb) : IV := .lst 1 (boolsC t)
def tbAV (t : Tb) : AV := .agg [.iv (tbIV t)]
def intsC (l : List Int) : List (List IV) := l.map fun i => [ci i]
def intsIV (l : List Int) : IV := .lst 1 (intsC l)
def rowIV (r : List Vl) : IV := .lst 3 (r.map Vl.cells)
@[simp] theorem boolsC_len (l : List Bool) : (boolsC l).length = l.length := by simp [boolsC]
@[simp] theorem boolsC_get (l : List Bool) (i : Nat) : (boolsC l)[i]? = (l[i]?).map fun b => [cb b] := by simp [boolsC]
@[simp] theorem intsC_len (l : List Int) : (intsC l).length = l.length := by simp [intsC]
@[simp] theorem intsC_get (l : List Int) (i : Nat) : (intsC l)[i]? = (l[i]?).map fun b => [ci b] := by simp [intsC]
inductive Pd where
  | mk (op col : Int) (v w : Vl) (l : List Pd)
def Pd.op : Pd → Int
  | .mk o _ _ _ _ => o
def Pd.col : Pd → Int
  | .mk _ c _ _ _ => c
def Pd.v : Pd → Vl
  | .mk _ _ v _ _ => v
def Pd.w : Pd → Vl
  | .mk _ _ _ w _ => w
def Pd.l : Pd → List Pd
  | .mk _ _ _ _ l => l
mutual
def Pd.cells : Pd → List IV
  | .mk o c v w l => [ci o, ci c, cb v.text, ci v.n, .v (.string v.s), cb w.text, ci w.n, .v (.string w.s), .lst 9 (Pd.cellsL l)]
def Pd.cellsL : List Pd → List (List IV)
  | [] => []
  | p :: r => p.cells :: Pd.cellsL r
end
theorem Pd.cellsL_map : ∀ l : List Pd, Pd.cellsL l = l.map Pd.cells
  | [] => by simp [Pd.cellsL]
  | p :: r => by simp [Pd.cellsL, Pd.cellsL_map r]
theorem Pd.cells_eq (p : Pd) : p.cells = [ci p.op, ci p.col, cb p.v.text, ci p.v.n, .v (.string p.v.s), cb p.w.text, ci p.w.n, .v (.string p.w.s), .lst 9 (p.l.map Pd.cells)] := by
  cases p with | mk o c v w l => rw [Pd.cells, Pd.cellsL_map]; rfl
def Pd.av (p : Pd) : AV := .agg (p.cells.map .iv)
theorem Pd.av_eq (p : Pd) : p.av = .agg [.iv (ci p.op), .iv (ci p.col), .iv (cb p.v.text), .iv (ci p.v.n), .iv (.v (.string p.v.s)), .iv (cb p.w.text), .iv (ci p.w.n), .iv (.v (.string p.w.s)), .iv (.lst 9 (p.l.map Pd.cells))] := by
  unfold Pd.av; rw [Pd.cells_eq]; rfl
inductive Pd.Ok : Pd → Prop where
  | mk (p : Pd) (h : p.l.length < 2 ^ 63) (hv : p.v.s.size < 2 ^ 63) (hw : p.w.s.size < 2 ^ 63) (hl : ∀ q, q ∈ p.l → q.Ok) : p.Ok
mutual
def Pd.size : Pd → Int
  | .mk _ _ _ _ l => 1 + Pd.sizes l
def Pd.sizes : List Pd → Int
  | [] => 0
  | p :: r => p.size + Pd.sizes r
end
theorem Pd.size_eq (p : Pd) : p.size = 1 + Pd.sizes p.l := by cases p; rw [Pd.size]; rfl
@[simp] theorem Pd.sizes_nil : Pd.sizes [] = 0 := by rw [Pd.sizes]
theorem Pd.sizes_take {l : List Pd} {i : Nat} {p : Pd} (h : l[i]? = some p) : Pd.sizes (l.take (i + 1)) = Pd.sizes (l.take i) + p.size := by
  induction l generalizing i with
  | nil => cases h
  | cons q r ih =>
    cases i with
    | zero => simp only [List.getElem?_cons_zero, Option.some.injEq] at h; subst h; simp [Pd.sizes]
    | succ i =>
      simp only [List.getElem?_cons_succ] at h
      simp only [List.take_succ_cons, Pd.sizes, ih h]
      omega
theorem wrap_wrap_add (a b : Int) : IntKind.i64.wrap (IntKind.i64.wrap a + IntKind.i64.wrap b) = IntKind.i64.wrap (a + b) := by
  simp only [IntKind.wrap_i64]; omega
theorem wrap_add1 (a b : Int) : IntKind.i64.wrap (IntKind.i64.wrap a + b) = IntKind.i64.wrap (a + b) := by
  simp only [IntKind.wrap_i64]; omega
end Go.Rt
end

/- Histories as data. No program in sight. -/
section
namespace Go.Rt
open Go.Vm
instance : DecidableEq Vl := fun a b =>
  if h : a.text = b.text ∧ a.n = b.n ∧ a.s = b.s then .isTrue (by cases a; cases b; simp_all) else .isFalse (by rintro rfl; exact h ⟨rfl, rfl, rfl⟩)
theorem Vl.eq_iff {a b : Vl} : a = b ↔ a.text = b.text ∧ a.n = b.n ∧ a.s = b.s := by
  constructor
  · rintro rfl; exact ⟨rfl, rfl, rfl⟩
  · intro h; cases a; cases b; simp_all
structure Vs where
  txn : Int
  n : Int
  deriving DecidableEq
@[simp] def Vs.cells (v : Vs) : List IV := [ci v.txn, ci v.n]
abbrev Vs.av (v : Vs) : AV := .agg (v.cells.map .iv)
theorem Vs.eq_iff {a b : Vs} : a = b ↔ a.txn = b.txn ∧ a.n = b.n := by
  constructor
  · rintro rfl; exact ⟨rfl, rfl⟩
  · intro h; cases a; cases b; simp_all
structure Rf where
  key : Vl
  frm : Vs
def Rf.cells (r : Rf) : List IV := [cb r.key.text, ci r.key.n, .v (.string r.key.s), ci r.frm.txn, ci r.frm.n]
theorem Rf.cells_eq (r : Rf) : r.cells = [cb r.key.text, ci r.key.n, .v (.string r.key.s), ci r.frm.txn, ci r.frm.n] := rfl
structure Ev where
  txn : Int
  kind : Int
  level : Int
  table : Int
  key : Vl
  frm : Vs
  n : Int
  row : List Vl
  pred : Pd
  refs : List Rf
  cur : Bool
def rowC (r : List Vl) : List (List IV) := r.map Vl.cells
def refsC (r : List Rf) : List (List IV) := r.map Rf.cells
@[simp] theorem rowC_len (r : List Vl) : (rowC r).length = r.length := by simp [rowC]
@[simp] theorem rowC_get (r : List Vl) (i : Nat) : (rowC r)[i]? = (r[i]?).map Vl.cells := by simp [rowC]
@[simp] theorem refsC_len (r : List Rf) : (refsC r).length = r.length := by simp [refsC]
@[simp] theorem refsC_get (r : List Rf) (i : Nat) : (refsC r)[i]? = (r[i]?).map Rf.cells := by simp [refsC]
def Ev.cells (e : Ev) : List IV := ci e.txn :: ci e.kind :: ci e.level :: ci e.table :: cb e.key.text :: ci e.key.n :: .v (.string e.key.s) :: ci e.frm.txn :: ci e.frm.n :: ci e.n :: .lst 3 (rowC e.row) :: (e.pred.cells ++ [.lst 5 (refsC e.refs), cb e.cur])
theorem Ev.cells_eq (e : Ev) : e.cells = [ci e.txn, ci e.kind, ci e.level, ci e.table, cb e.key.text, ci e.key.n, .v (.string e.key.s), ci e.frm.txn, ci e.frm.n, ci e.n, .lst 3 (rowC e.row),
    ci e.pred.op, ci e.pred.col, cb e.pred.v.text, ci e.pred.v.n, .v (.string e.pred.v.s), cb e.pred.w.text, ci e.pred.w.n, .v (.string e.pred.w.s), .lst 9 (e.pred.l.map Pd.cells), .lst 5 (refsC e.refs), cb e.cur] := by
  unfold Ev.cells; rw [Pd.cells_eq]; rfl
@[simp] theorem Ev.len (e : Ev) : e.cells.length = 22 := by rw [Ev.cells_eq]; rfl
theorem Ev.at (e : Ev) (i : Nat) : e.cells[i]? = ([ci e.txn, ci e.kind, ci e.level, ci e.table, cb e.key.text, ci e.key.n, .v (.string e.key.s), ci e.frm.txn, ci e.frm.n, ci e.n, .lst 3 (rowC e.row),
    ci e.pred.op, ci e.pred.col, cb e.pred.v.text, ci e.pred.v.n, .v (.string e.pred.v.s), cb e.pred.w.text, ci e.pred.w.n, .v (.string e.pred.w.s), .lst 9 (e.pred.l.map Pd.cells), .lst 5 (refsC e.refs), cb e.cur] : List IV)[i]? := by rw [Ev.cells_eq]
theorem get_of {l : List IV} {i : Nat} {x : IV} {h : i < l.length} (e : l[i]? = some x) : l[i] = x := (List.getElem?_eq_some_iff.1 e).2
section
variable (e : Ev)
@[simp] theorem Ev.g0 {h} : e.cells[0]'h = ci e.txn := get_of (by rw [Ev.at]; rfl)
@[simp] theorem Ev.g1 {h} : e.cells[1]'h = ci e.kind := get_of (by rw [Ev.at]; rfl)
@[simp] theorem Ev.g2 {h} : e.cells[2]'h = ci e.level := get_of (by rw [Ev.at]; rfl)
@[simp] theorem Ev.g3 {h} : e.cells[3]'h = ci e.table := get_of (by rw [Ev.at]; rfl)
@[simp] theorem Ev.g4 {h} : e.cells[4]'h = cb e.key.text := get_of (by rw [Ev.at]; rfl)
@[simp] theorem Ev.g5 {h} : e.cells[5]'h = ci e.key.n := get_of (by rw [Ev.at]; rfl)
@[simp] theorem Ev.g6 {h} : e.cells[6]'h = .v (.string e.key.s) := get_of (by rw [Ev.at]; rfl)
@[simp] theorem Ev.g7 {h} : e.cells[7]'h = ci e.frm.txn := get_of (by rw [Ev.at]; rfl)
@[simp] theorem Ev.g8 {h} : e.cells[8]'h = ci e.frm.n := get_of (by rw [Ev.at]; rfl)
@[simp] theorem Ev.g9 {h} : e.cells[9]'h = ci e.n := get_of (by rw [Ev.at]; rfl)
@[simp] theorem Ev.g10 {h} : e.cells[10]'h = .lst 3 (rowC e.row) := get_of (by rw [Ev.at]; rfl)
@[simp] theorem Ev.g20 {h} : e.cells[20]'h = .lst 5 (refsC e.refs) := get_of (by rw [Ev.at]; rfl)
@[simp] theorem Ev.g21 {h} : e.cells[21]'h = cb e.cur := get_of (by rw [Ev.at]; rfl)
@[simp] theorem Ev.q0 : e.cells[0]? = some (ci e.txn) := by rw [Ev.at]; rfl
@[simp] theorem Ev.q1 : e.cells[1]? = some (ci e.kind) := by rw [Ev.at]; rfl
@[simp] theorem Ev.q2 : e.cells[2]? = some (ci e.level) := by rw [Ev.at]; rfl
@[simp] theorem Ev.q3 : e.cells[3]? = some (ci e.table) := by rw [Ev.at]; rfl
@[simp] theorem Ev.q4 : e.cells[4]? = some (cb e.key.text) := by rw [Ev.at]; rfl
@[simp] theorem Ev.q5 : e.cells[5]? = some (ci e.key.n) := by rw [Ev.at]; rfl
@[simp] theorem Ev.q6 : e.cells[6]? = some (.v (.string e.key.s)) := by rw [Ev.at]; rfl
@[simp] theorem Ev.q7 : e.cells[7]? = some (ci e.frm.txn) := by rw [Ev.at]; rfl
@[simp] theorem Ev.q8 : e.cells[8]? = some (ci e.frm.n) := by rw [Ev.at]; rfl
@[simp] theorem Ev.q9 : e.cells[9]? = some (ci e.n) := by rw [Ev.at]; rfl
@[simp] theorem Ev.q10 : e.cells[10]? = some (.lst 3 (rowC e.row)) := by rw [Ev.at]; rfl
@[simp] theorem Ev.q20 : e.cells[20]? = some (.lst 5 (refsC e.refs)) := by rw [Ev.at]; rfl
@[simp] theorem Ev.q21 : e.cells[21]? = some (cb e.cur) := by rw [Ev.at]; rfl
@[simp] theorem Ev.key_at : List.take 3 (List.drop 4 (e.cells.map AV.iv)) = [.iv (cb e.key.text), .iv (ci e.key.n), .iv (.v (.string e.key.s))] := by rw [Ev.cells_eq]; rfl
@[simp] theorem Ev.frm_at : List.take 2 (List.drop 7 (e.cells.map AV.iv)) = [.iv (ci e.frm.txn), .iv (ci e.frm.n)] := by rw [Ev.cells_eq]; rfl
@[simp] theorem Ev.pred_at : List.take 9 (List.drop 11 (e.cells.map AV.iv)) = e.pred.cells.map AV.iv := by rw [Ev.cells_eq, Pd.cells_eq]; rfl
@[simp] theorem Ev.take_all : List.take 22 e.cells = e.cells := List.take_of_length_le (by simp)
@[simp] theorem Ev.take_alla : List.take 22 (e.cells.map AV.iv) = e.cells.map AV.iv := List.take_of_length_le (by simp)
end
def Ev.av (e : Ev) : AV := .agg (e.cells.map .iv)
structure Ins where
  table : Int
  key : Vl
  txns : List Int
def Ins.cells (o : Ins) : List IV := [ci o.table, cb o.key.text, ci o.key.n, .v (.string o.key.s), .lst 1 (intsC o.txns)]
theorem Ins.cells_eq (o : Ins) : o.cells = [ci o.table, cb o.key.text, ci o.key.n, .v (.string o.key.s), .lst 1 (intsC o.txns)] := rfl
structure Hs where
  tables : List Tb
  events : List Ev
  order : List Ins
def tbsC (l : List Tb) : List (List IV) := l.map fun t => [tbIV t]
def evsC (l : List Ev) : List (List IV) := l.map Ev.cells
def insC (l : List Ins) : List (List IV) := l.map Ins.cells
@[simp] theorem tbsC_len (l : List Tb) : (tbsC l).length = l.length := by simp [tbsC]
@[simp] theorem tbsC_get (l : List Tb) (i : Nat) : (tbsC l)[i]? = (l[i]?).map fun t => [tbIV t] := by simp [tbsC]
@[simp] theorem evsC_len (l : List Ev) : (evsC l).length = l.length := by simp [evsC]
@[simp] theorem evsC_get (l : List Ev) (i : Nat) : (evsC l)[i]? = (l[i]?).map Ev.cells := by simp [evsC]
@[simp] theorem insC_len (l : List Ins) : (insC l).length = l.length := by simp [insC]
@[simp] theorem insC_get (l : List Ins) (i : Nat) : (insC l)[i]? = (l[i]?).map Ins.cells := by simp [insC]
def Hs.cells (h : Hs) : List IV := [.lst 1 (tbsC h.tables), .lst 22 (evsC h.events), .lst 5 (insC h.order)]
def Hs.av (h : Hs) : AV := .agg [.iv (.lst 1 (tbsC h.tables)), .iv (.lst 22 (evsC h.events)), .iv (.lst 5 (insC h.order))]
structure Ev.Ok (e : Ev) : Prop where
  row : e.row.length < 2 ^ 63
  refs : e.refs.length < 2 ^ 63
  pred : e.pred.Ok
  key : e.key.s.size < 2 ^ 63
  rkey : ∀ r, r ∈ e.refs → r.key.s.size < 2 ^ 63
structure Hs.Ok (h : Hs) : Prop where
  tables : h.tables.length < 2 ^ 63
  events : h.events.length < 2 ^ 63
  order : h.order.length < 2 ^ 63
  ev : ∀ e, e ∈ h.events → e.Ok
  txns : ∀ o, o ∈ h.order → o.txns.length < 2 ^ 63
  tb : ∀ t, t ∈ h.tables → t.length < 2 ^ 63
  cols : ∀ o, o ∈ h.order → o.key.s.size < 2 ^ 63
def Ev.isW (txn table : Int) (k : Vl) (e : Ev) : Bool := decide (e.kind = 3) && decide (e.txn = txn) && decide (e.table = table) && decide (e.key = k)
theorem Ev.isW_iff {e : Ev} {txn table : Int} {k : Vl} : e.isW txn table k = true ↔ e.kind = 3 ∧ e.txn = txn ∧ e.table = table ∧ e.key.text = k.text ∧ e.key.n = k.n ∧ e.key.s = k.s := by
  unfold Ev.isW
  simp only [Bool.and_eq_true, decide_eq_true_eq, Vl.eq_iff, and_assoc]
def wrote (es : List Ev) (txn table : Int) (k : Vl) : Nat := (es.filter (Ev.isW txn table k)).length
theorem wrote_take {es : List Ev} {i : Nat} {e : Ev} (h : es[i]? = some e) (txn table : Int) (k : Vl) : wrote (es.take (i + 1)) txn table k = wrote (es.take i) txn table k + if e.isW txn table k = true then 1 else 0 := by
  have : es.take (i + 1) = es.take i ++ [e] := by rw [List.take_add_one, h]; rfl
  rw [this]
  unfold wrote
  rw [List.filter_append, List.length_append]
  congr 1
  cases hw : e.isW txn table k <;> simp [hw]
theorem wrote_le (es : List Ev) (txn table : Int) (k : Vl) : wrote es txn table k ≤ es.length := List.length_filter_le _ _
theorem ofP_inj {p q : Prop} : ofP p = ofP q ↔ (p ↔ q) := by rw [ofP_eq, ofP_true]
theorem dec_ofP {p q : Prop} [Decidable q] : decide q = ofP p ↔ (q ↔ p) := by rw [ofP_eq, decide_eq_true_eq]
theorem take_next {α : Type} {l : List α} {i : Nat} {x : α} (h : l[i]? = some x) : l.take (i + 1) = l.take i ++ [x] := by
  rw [List.take_add_one, h]; rfl
def Begun (es : List Ev) (txn : Int) : Prop := ∃ x, x ∈ es ∧ x.txn = txn
def NoEnd (es : List Ev) (txn : Int) : Prop := ∀ x, x ∈ es → x.txn = txn → x.kind ≠ 5 ∧ x.kind ≠ 6
@[simp] theorem begun_nil {txn : Int} : Begun [] txn ↔ False := by unfold Begun; simp
@[simp] theorem noEnd_nil {txn : Int} : NoEnd [] txn := fun _ h => by cases h
theorem begun_next {es : List Ev} {e : Ev} {txn : Int} : Begun (es ++ [e]) txn ↔ Begun es txn ∨ e.txn = txn := by
  unfold Begun
  constructor
  · rintro ⟨x, h, h2⟩
    rcases List.mem_append.1 h with h | h
    · exact .inl ⟨x, h, h2⟩
    · simp only [List.mem_singleton] at h; subst h; exact .inr h2
  · rintro (⟨x, h, h2⟩ | h)
    · exact ⟨x, List.mem_append_left _ h, h2⟩
    · exact ⟨e, by simp, h⟩
theorem noEnd_next {es : List Ev} {e : Ev} {txn : Int} : NoEnd (es ++ [e]) txn ↔ NoEnd es txn ∧ (e.txn = txn → e.kind ≠ 5 ∧ e.kind ≠ 6) := by
  unfold NoEnd
  constructor
  · intro h; exact ⟨fun x hx => h x (List.mem_append_left _ hx), h e (by simp)⟩
  · rintro ⟨h, h2⟩ x hx
    rcases List.mem_append.1 hx with hx | hx
    · exact h x hx
    · simp only [List.mem_singleton] at hx; subst hx; exact h2
theorem NoEnd.take {es : List Ev} {i a : Nat} {txn : Int} (h : NoEnd (es.take a) txn) (hi : i ≤ a) : NoEnd (es.take i) txn := fun x hx => h x ((List.take_subset_take_left es hi) hx)
def FrameOk (es : List Ev) (e : Ev) : Prop := 1 ≤ e.txn ∧ 1 ≤ e.kind ∧ e.kind ≤ 6 ∧ NoEnd es e.txn ∧ (e.kind = 1 → ¬Begun es e.txn ∧ 1 ≤ e.level ∧ e.level ≤ 5) ∧ (e.kind ≠ 1 → Begun es e.txn)
end Go.Rt
end

/- What the checker of histories knows, as data. No program in sight. -/
section
namespace Go.Rt
open Go.Vm
abbrev skS : Sk := (false, [.i .i64], false)
abbrev skW : Sk := (true, [.i .i64, .i .i64, .b, .i .i64, .s], false)
def stOf (es : List Ev) (txn : Int) : Int := es.foldl (fun s e => if e.txn = txn ∧ (e.kind = 1 ∨ e.kind = 5 ∨ e.kind = 6) then e.kind else s) 0
theorem stOf_next (es : List Ev) (e : Ev) (txn : Int) : stOf (es ++ [e]) txn = if e.txn = txn ∧ (e.kind = 1 ∨ e.kind = 5 ∨ e.kind = 6) then e.kind else stOf es txn := by
  unfold stOf; rw [List.foldl_append]; rfl
def gS (es : List Ev) : List Value → Option (List IV)
  | [.int .i64 txn] => if stOf es txn = 0 then none else some [ci (stOf es txn)]
  | _ => none
def gW (es : List Ev) : List Value → Option (List IV)
  | [.int .i64 txn, .int .i64 table, .bool t, .int .i64 n, .string s] => if wrote es txn table ⟨t, n, s⟩ = 0 then none else some [ci (wrote es txn table ⟨t, n, s⟩)]
  | _ => none
def obC (o : Int × Vl) : List IV := [ci o.1, cb o.2.text, ci o.2.n, .v (.string o.2.s)]
def spots (es : List Ev) (txn : Int) : List (Int × Vl) := (es.filter fun e => decide (e.kind = 3) && decide (e.txn = txn) && decide (e.n = 1)).map fun e => (e.table, e.key)
def gP (es : List Ev) : List Value → Option (List (List IV))
  | [.int .i64 txn] => if spots es txn = [] then none else some ((spots es txn).map obC)
  | _ => none
def gPi (es : List Ev) (k : List Value) : Option (List IV) := (gP es k).map fun xs => [IV.lst 4 xs]
@[simp] theorem lk_gS (es : List Ev) (txn : Int) : lkR [.iv (.v (.int .i64 0))] false false (gS es [Value.int .i64 txn]) = vi (stOf es txn) := by
  simp only [gS]
  by_cases h : stOf es txn = 0
  · rw [if_pos h, h]; rfl
  · rw [if_neg h]; rfl
@[simp] theorem lk_gW (es : List Ev) (txn table : Int) (t : Bool) (n : Int) (s : ByteArray) :
    lkR [.iv (.v (.int .i64 0))] false false (gW es [Value.int .i64 txn, Value.int .i64 table, Value.bool t, Value.int .i64 n, Value.string s]) = vi (wrote es txn table ⟨t, n, s⟩) := by
  simp only [gW]
  by_cases h : wrote es txn table ⟨t, n, s⟩ = 0
  · rw [if_pos h, h]; rfl
  · rw [if_neg h]; rfl
def lastRef (l : List Rf) (k : Vl) : Option Vs := l.foldl (fun s r => if r.key = k then some r.frm else s) none
theorem lastRef_next (l : List Rf) (r : Rf) (k : Vl) : lastRef (l ++ [r]) k = if r.key = k then some r.frm else lastRef l k := by
  unfold lastRef; rw [List.foldl_append]; rfl
abbrev skO : Sk := (true, [.i .i64, .b, .i .i64, .s], true)
def gR (tab : Int) (l : List Rf) : List Value → Option (List IV)
  | [.int .i64 table, .bool t, .int .i64 n, .string s] => if table = tab then (lastRef l ⟨t, n, s⟩).map Vs.cells else none
  | _ => none
@[simp] theorem lk_gR (tab : Int) (l : List Rf) (t : Bool) (n : Int) (s : ByteArray) :
    lkR [.iv (.v (.int .i64 0)), .iv (.v (.int .i64 0))] true false (gR tab l [Value.int .i64 tab, Value.bool t, Value.int .i64 n, Value.string s]) = .agg [vi ((lastRef l ⟨t, n, s⟩).getD ⟨0, 0⟩).txn, vi ((lastRef l ⟨t, n, s⟩).getD ⟨0, 0⟩).n] := by
  simp only [gR, if_pos trivial]
  cases lastRef l ⟨t, n, s⟩ <;> rfl
theorem gR_nil (tab : Int) : gR tab [] = fun _ => none := by
  funext q; unfold gR; split
  · split <;> rfl
  · rfl
theorem gset_gR (tab : Int) (l : List Rf) (r : Rf) : gset (gR tab l) [.int .i64 tab, .bool r.key.text, .int .i64 r.key.n, .string r.key.s] (some [ci r.frm.txn, ci r.frm.n]) = gR tab (l ++ [r]) := by
  funext q
  simp only [gset]
  split
  · rename_i e; subst e; simp [gR, lastRef_next]
  · rename_i hne
    unfold gR
    split
    · rename_i table t n s
      by_cases h1 : table = tab
      · subst h1
        rw [if_pos rfl, if_pos rfl, lastRef_next, if_neg]
        rintro h2
        exact hne (by rw [h2])
      · rw [if_neg h1, if_neg h1]
    · rfl
theorem spots_le (es : List Ev) (txn : Int) : (spots es txn).length ≤ es.length := by
  unfold spots; rw [List.length_map]; exact List.length_filter_le _ _
theorem gPi_nil {es : List Ev} {txn : Int} (h : spots es txn = []) : gPi es [.int .i64 txn] = none := by simp [gPi, gP, h]
theorem gPi_some {es : List Ev} {txn : Int} (h : spots es txn ≠ []) : gPi es [.int .i64 txn] = some [.lst 4 ((spots es txn).map obC)] := by simp [gPi, gP, h]
def ckIV (h : Hs) (a es : List Ev) : IV := .pt [.lst 1 (tbsC h.tables), .lst 22 (evsC h.events), .lst 5 (insC h.order), .mp skS (gS a), .mp skW (gW es), .mp skS (gPi es)]
abbrev ckBox (h : Hs) : Ob := .box [.iv (.lst 1 (tbsC h.tables)), .iv (.lst 22 (evsC h.events)), .iv (.lst 5 (insC h.order)), .mpr 1001, .mpr 1002, .mpr 1003]
abbrev ckH (h : Hs) (a b c : List Ev) : Hp := [(1000, ckBox h), (1001, .map skS (gS a)), (1002, .map skW (gW b)), (1003, .mapo skS 4 (gP c) none)]
theorem gset_gS {es : List Ev} {e : Ev} (hk : e.kind = 1 ∨ e.kind = 5 ∨ e.kind = 6) : gset (gS es) [.int .i64 e.txn] (some [ci e.kind]) = gS (es ++ [e]) := by
  funext q
  simp only [gset]
  split
  · rename_i h; subst h
    have hs : stOf (es ++ [e]) e.txn = e.kind := by rw [stOf_next, if_pos ⟨rfl, hk⟩]
    simp only [gS, hs]
    rw [if_neg (by omega)]
  · rename_i hne
    unfold gS
    split
    · rename_i t
      have hs : stOf (es ++ [e]) t = stOf es t := by
        rw [stOf_next, if_neg]
        rintro ⟨rfl, _⟩; exact hne rfl
      rw [hs]
    · rfl
theorem gS_same {es : List Ev} {e : Ev} (hk : ¬(e.kind = 1 ∨ e.kind = 5 ∨ e.kind = 6)) : gS (es ++ [e]) = gS es := by
  funext q
  unfold gS
  split
  · rename_i t
    have hs : stOf (es ++ [e]) t = stOf es t := by rw [stOf_next, if_neg fun g => hk g.2]
    rw [hs]
  · rfl
theorem wrote_next (es : List Ev) (e : Ev) (txn table : Int) (k : Vl) : wrote (es ++ [e]) txn table k = wrote es txn table k + if e.isW txn table k = true then 1 else 0 := by
  unfold wrote
  rw [List.filter_append, List.length_append]
  congr 1
  cases hw : e.isW txn table k <;> simp [hw]
theorem gset_gW {es : List Ev} {e : Ev} (hk : e.kind = 3) : gset (gW es) [.int .i64 e.txn, .int .i64 e.table, .bool e.key.text, .int .i64 e.key.n, .string e.key.s] (some [ci ((wrote es e.txn e.table e.key : Int) + 1)]) = gW (es ++ [e]) := by
  funext q
  simp only [gset]
  split
  · rename_i h; subst h
    have hw : wrote (es ++ [e]) e.txn e.table ⟨e.key.text, e.key.n, e.key.s⟩ = wrote es e.txn e.table e.key + 1 := by
      rw [wrote_next, if_pos (Ev.isW_iff.2 ⟨hk, rfl, rfl, rfl, rfl, rfl⟩)]
    simp only [gW, hw]
    rw [if_neg (by omega)]
    simp
  · rename_i hne
    unfold gW
    split
    · rename_i txn table t n s
      have hw : wrote (es ++ [e]) txn table ⟨t, n, s⟩ = wrote es txn table ⟨t, n, s⟩ := by
        rw [wrote_next, if_neg, Nat.add_zero]
        rw [Ev.isW_iff]
        rintro ⟨_, rfl, rfl, h1, h2, h3⟩
        simp only at h1 h2 h3
        subst h1 h2 h3
        exact hne rfl
      rw [hw]
    · rfl
theorem gW_same {es : List Ev} {e : Ev} (hk : e.kind ≠ 3) : gW (es ++ [e]) = gW es := by
  funext q
  unfold gW
  split
  · rw [wrote_next, if_neg (fun g => hk (Ev.isW_iff.1 g).1), Nat.add_zero]
  · rfl
theorem spots_next (es : List Ev) (e : Ev) (txn : Int) : spots (es ++ [e]) txn = spots es txn ++ (if e.kind = 3 ∧ e.txn = txn ∧ e.n = 1 then [(e.table, e.key)] else []) := by
  unfold spots
  rw [List.filter_append, List.map_append]
  congr 1
  simp only [List.filter_cons, List.filter_nil, Bool.and_eq_true, decide_eq_true_eq, and_assoc]
  split <;> simp
theorem gset_gP {es : List Ev} {e : Ev} (hk : e.kind = 3) (hn : e.n = 1) : gset (gP es) [.int .i64 e.txn] (some ((spots es e.txn).map obC ++ [obC (e.table, e.key)])) = gP (es ++ [e]) := by
  funext q
  simp only [gset]
  split
  · rename_i h; subst h
    have hs : spots (es ++ [e]) e.txn = spots es e.txn ++ [(e.table, e.key)] := by rw [spots_next, if_pos ⟨hk, rfl, hn⟩]
    simp only [gP, hs]
    rw [if_neg (by simp)]
    simp
  · rename_i hne
    unfold gP
    split
    · rename_i t
      have hs : spots (es ++ [e]) t = spots es t := by
        rw [spots_next, if_neg, List.append_nil]
        rintro ⟨_, rfl, _⟩; exact hne rfl
      rw [hs]
    · rfl
theorem gP_same {es : List Ev} {e : Ev} (hk : ¬(e.kind = 3 ∧ e.n = 1)) : gP (es ++ [e]) = gP es := by
  funext q
  unfold gP
  split
  · rename_i t
    have hs : spots (es ++ [e]) t = spots es t := by rw [spots_next, if_neg (fun g => hk ⟨g.1, g.2.2⟩), List.append_nil]
    rw [hs]
  · rfl
theorem gP_nil {es : List Ev} {txn : Int} (h : spots es txn = []) : gP es [.int .i64 txn] = none := by simp [gP, h]
theorem gP_some {es : List Ev} {txn : Int} (h : spots es txn ≠ []) : gP es [.int .i64 txn] = some ((spots es txn).map obC) := by simp [gP, h]
@[simp] theorem gset_gset {β : Type} (g : List Value → Option β) (k : List Value) (a b : Option β) : gset (gset g k a) k b = gset g k b := by
  funext q; simp only [gset]; split <;> rfl
end Go.Rt
end

/- What the checker of orders knows, as data. No program in sight. -/
section
namespace Go.Rt
open Go.Vm
open Classical in
noncomputable def gLeft (p : Int → Int × Vl → Prop) : List Value → Option (List IV)
  | [.int .i64 txn, .int .i64 table, .bool t, .int .i64 n, .string s] => if p txn (table, ⟨t, n, s⟩) then some [ci 1] else none
  | _ => none
theorem gLeft_none : gLeft (fun _ _ => False) = fun _ => none := by
  funext q; unfold gLeft; split
  · rw [if_neg]; exact fun h => h
  · rfl
theorem gLeft_congr {p p' : Int → Int × Vl → Prop} (h : ∀ t o, p t o ↔ p' t o) : gLeft p = gLeft p' := by
  have : p = p' := by funext t o; exact propext (h t o)
  rw [this]
theorem gLeft_set (p : Int → Int × Vl → Prop) (txn : Int) (o : Int × Vl) : gset (gLeft p) [.int .i64 txn, .int .i64 o.1, .bool o.2.text, .int .i64 o.2.n, .string o.2.s] (some [ci 1]) = gLeft (fun t x => p t x ∨ (t = txn ∧ x = o)) := by
  funext q
  simp only [gset]
  split
  · rename_i h; subst h
    simp only [gLeft]
    rw [if_pos]
    exact .inr ⟨rfl, rfl⟩
  · rename_i hne
    unfold gLeft
    split
    · rename_i t table b n s
      have hn : ¬(t = txn ∧ (table, (⟨b, n, s⟩ : Vl)) = o) := by rintro ⟨rfl, rfl⟩; exact hne rfl
      by_cases hp : p t (table, ⟨b, n, s⟩)
      · rw [if_pos hp, if_pos (.inl hp)]
      · rw [if_neg hp, if_neg fun g => g.elim hp hn]
    · rfl
theorem gLeft_del (p : Int → Int × Vl → Prop) (txn : Int) (o : Int × Vl) : gset (gLeft p) [.int .i64 txn, .int .i64 o.1, .bool o.2.text, .int .i64 o.2.n, .string o.2.s] none = gLeft (fun t x => p t x ∧ ¬(t = txn ∧ x = o)) := by
  funext q
  simp only [gset]
  split
  · rename_i h; subst h
    simp only [gLeft]
    rw [if_neg]
    exact fun g => g.2 ⟨rfl, rfl⟩
  · rename_i hne
    unfold gLeft
    split
    · rename_i t table b n s
      have hn : ¬(t = txn ∧ (table, (⟨b, n, s⟩ : Vl)) = o) := by rintro ⟨rfl, rfl⟩; exact hne rfl
      by_cases hp : p t (table, ⟨b, n, s⟩)
      · rw [if_pos hp, if_pos ⟨hp, hn⟩]
      · rw [if_neg hp, if_neg fun g => hp g.1]
    · rfl
open Classical in
theorem lk_gLeft (p : Int → Int × Vl → Prop) (txn table : Int) (t : Bool) (n : Int) (s : ByteArray) :
    lkR [.iv (.v (.int .i64 0))] false false (gLeft p [Value.int .i64 txn, Value.int .i64 table, Value.bool t, Value.int .i64 n, Value.string s]) = vi (if p txn (table, ⟨t, n, s⟩) then 1 else 0) := by
  simp only [gLeft]
  split <;> rfl
theorem gLeft_empty {p : Int → Int × Vl → Prop} : (∀ k, gLeft p k = none) ↔ ∀ t o, ¬p t o := by
  constructor
  · intro h t o hp
    have := h [.int .i64 t, .int .i64 o.1, .bool o.2.text, .int .i64 o.2.n, .string o.2.s]
    simp only [gLeft] at this
    rw [if_pos hp] at this
    cases this
  · intro h k
    unfold gLeft
    split
    · rw [if_neg (h _ _)]
    · rfl
def metN (l : List Ins) (table : Int) (k : Vl) : Nat := (l.filter fun o => decide (o.table = table) && decide (o.key = k)).length
theorem metN_next (l : List Ins) (o : Ins) (table : Int) (k : Vl) : metN (l ++ [o]) table k = metN l table k + if o.table = table ∧ o.key = k then 1 else 0 := by
  unfold metN
  rw [List.filter_append, List.length_append]
  congr 1
  simp only [List.filter_cons, List.filter_nil, Bool.and_eq_true, decide_eq_true_eq]
  split <;> rfl
theorem metN_zero {l : List Ins} {table : Int} {k : Vl} : metN l table k = 0 ↔ ∀ x, x ∈ l → ¬(x.table = table ∧ x.key = k) := by
  unfold metN
  rw [List.length_eq_zero_iff, List.filter_eq_nil_iff]
  simp
theorem metN_le (l : List Ins) (table : Int) (k : Vl) : metN l table k ≤ l.length := List.length_filter_le _ _
abbrev skM : Sk := (true, [.i .i64, .b, .i .i64, .s], false)
def gMet (l : List Ins) : List Value → Option (List IV)
  | [.int .i64 table, .bool t, .int .i64 n, .string s] => if metN l table ⟨t, n, s⟩ = 0 then none else some [ci (metN l table ⟨t, n, s⟩)]
  | _ => none
theorem gMet_nil : gMet [] = fun _ => none := by
  funext q; unfold gMet; split
  · rfl
  · rfl
@[simp] theorem lk_gMet (l : List Ins) (table : Int) (t : Bool) (n : Int) (s : ByteArray) :
    lkR [.iv (.v (.int .i64 0))] false false (gMet l [Value.int .i64 table, Value.bool t, Value.int .i64 n, Value.string s]) = vi (metN l table ⟨t, n, s⟩) := by
  simp only [gMet]
  by_cases h : metN l table ⟨t, n, s⟩ = 0
  · rw [if_pos h, h]; rfl
  · rw [if_neg h]; rfl
theorem gMet_set (l : List Ins) (o : Ins) : gset (gMet l) [.int .i64 o.table, .bool o.key.text, .int .i64 o.key.n, .string o.key.s] (some [ci ((metN l o.table o.key : Int) + 1)]) = gMet (l ++ [o]) := by
  funext q
  simp only [gset]
  split
  · rename_i h; subst h
    have hw : metN (l ++ [o]) o.table ⟨o.key.text, o.key.n, o.key.s⟩ = metN l o.table o.key + 1 := by
      rw [metN_next, if_pos ⟨rfl, rfl⟩]
    simp only [gMet, hw]
    rw [if_neg (by omega)]
    simp
  · rename_i hne
    unfold gMet
    split
    · rename_i table t n s
      have hw : metN (l ++ [o]) table ⟨t, n, s⟩ = metN l table ⟨t, n, s⟩ := by
        rw [metN_next, if_neg, Nat.add_zero]
        rintro ⟨rfl, h⟩
        rw [h] at hne
        exact hne rfl
      rw [hw]
    · rfl
theorem gPi_key {es : List Ev} {k : List Value} {c : List IV} (h : gPi es k = some c) : ∃ txn, k = [.int .i64 txn] ∧ spots es txn ≠ [] ∧ c = [.lst 4 ((spots es txn).map obC)] := by
  unfold gPi gP at h
  split at h
  · rename_i txn
    split at h
    · cases h
    · rename_i hne
      simp only [Option.map_some, Option.some.injEq] at h
      exact ⟨txn, rfl, hne, h.symm⟩
  · cases h
@[simp] theorem arg1_comp {s : St} {fr : Bool} {ids : List Nat} : s.arg1 fr ids ∘ AV.iv = AV.iv := funext fun _ => by simp
theorem rmk_mem {k q : List Value} {l : List (List Value)} : q ∈ rmk k l ↔ q ∈ l ∧ q ≠ k := by
  unfold rmk; rw [List.mem_filter]; simp
theorem rmk_lt {k : List Value} {l : List (List Value)} (h : k ∈ l) : (rmk k l).length < l.length := by
  unfold rmk
  refine List.length_filter_lt_length_iff_exists.2 ⟨k, h, ?_⟩
  simp
@[simp] theorem gset_at {β : Type} (g : List Value → Option β) (k : List Value) (c : Option β) : gset g k c k = c := by simp [gset]
theorem loop_left {P : Program} {c : VCode} {s : St} {O : Outs} (D D' : List Nat) (S : List (List Value) → Option (List Value) → St) (Q : List (List Value) → Prop) (L : List (List Value)) (h0 : LeTo D s (S L none)) (q0 : Q L)
    (hs : ∀ left last, Q left → wpV P c (S left last) { O with n := fun s2 => ∃ k last', k ∈ left ∧ LeTo D' s2 (S (rmk k left) last') ∧ Q (rmk k left) }) : loopW P c s O := by
  refine loop_any (fun n s => ∃ left last, n = left.length ∧ s = S left last ∧ Q left) ⟨_, _, h0.le, L, none, rfl, rfl, q0⟩ ?_
  rintro k s' ⟨left, last, rfl, rfl, hq⟩
  refine wpV_mono c (O := { O with n := fun s2 => ∃ k last', k ∈ left ∧ LeTo D' s2 (S (rmk k left) last') ∧ Q (rmk k left) }) (fun s2 h => ?_) (fun _ _ h => h) (fun _ h => h) (fun _ _ h => h) (hs left last hq)
  obtain ⟨k, last', hk, hle, hq'⟩ := h
  exact ⟨_, _, rmk_lt hk, hle.le, _, _, rfl, rfl, hq'⟩
def InsCk (h : Hs) (es : List Ev) (i : Nat) (o : Ins) : Prop := (∀ x, x ∈ h.order.take i → ¬(x.table = o.table ∧ x.key = o.key)) ∧ 0 < o.txns.length ∧
  Upto o.txns.length fun k => ∀ t, o.txns[k]? = some t → stOf es t = 5 ∧ (o.table, o.key) ∈ spots es t ∧ t ∉ o.txns.take k
def OrderOk (h : Hs) (es : List Ev) : Prop := (Upto h.order.length fun i => ∀ o, h.order[i]? = some o → InsCk h es i o) ∧
  ∀ t o, stOf es t = 5 → o ∈ spots es t → ∃ x, x ∈ h.order ∧ (x.table = o.1 ∧ x.key = o.2) ∧ t ∈ x.txns
end Go.Rt
end

/- A slice that is nil is one of any make. -/
section
namespace Go.Vm
@[simp] theorem ev_nilc {s : St} : s.ev (.const (.slice none 0 0)) = .nil 0 := rfl
def nilLe : List AV → List AV → Prop
  | [], [] => True
  | x :: r, y :: q => (x = y ∨ ∃ a b, x = .nil a ∧ y = .nil b) ∧ nilLe r q
  | _, _ => False
@[simp] theorem nilLe_nil : nilLe [] [] ↔ True := ⟨fun h => h, fun h => h⟩
@[simp] theorem nilLe_cons {x y : AV} {r q : List AV} : nilLe (x :: r) (y :: q) ↔ (x = y ∨ ∃ a b, x = .nil a ∧ y = .nil b) ∧ nilLe r q := ⟨fun h => h, fun h => h⟩
theorem loop_le {P : Program} {c : VCode} {s s' : St} {O : Outs} (h : Le s s') (k : loopW P c s' O) : loopW P c s O := by
  obtain ⟨I, ⟨k, s2, h2, h3⟩, h4⟩ := k
  exact ⟨I, ⟨k, s2, h.trans h2, h3⟩, h4⟩
end Go.Vm
end

/- An empty row is an empty row, however wide. -/
section
namespace Go.Vm
theorem call_le {P : Program} {d : Nat} {f : FuncId} {pre post : List CapV} {ops : List Operand} {y : Option Operand} {s s' : St} {K : St → AV → Prop} (h : Le s s')
    (k : callW P d f pre ops post y s' K) : callW P d f pre ops post y s K := by
  obtain ⟨s2, h2, h3⟩ := k
  exact ⟨s2, h.trans h2, h3⟩
end Go.Vm
end

/- Functions that hand back a list of their own. -/
section
namespace Go.Vm
theorem drop_keys {s : St} {id k : Nat} (h : k ∈ (s.drop id).hp.map (·.1)) : k ∈ s.hp.map (·.1) := by
  obtain ⟨o, ho⟩ := look_of_mem' h
  cases hs : look s.hp k with
  | none => rw [look_drop_none hs] at ho; cases ho
  | some o' => exact look_key hs
theorem drops_keys (D : List Nat) : ∀ {s : St} {k : Nat}, k ∈ (s.drops D).hp.map (·.1) → k ∈ s.hp.map (·.1) := by
  induction D with
  | nil => intro s k h; exact h
  | cons i D ih => intro s k h; exact drop_keys (ih h)
def EndD (D : List Nat) (t : Nat) (x : IV) (s : St) : Prop := D.all (· < 1000) = true ∧ (s.drops D).get t = .iv x ∧ smallH s.hp = true
attribute [simp] EndD
theorem gspec1L {P : Program} {f : FuncId} {args : List AV} {x : IV} {n t : Nat} {c : VCode} (D : List Nat) (hf : fnV P f = some (n, c, [.tmp t]))
    (hargs : args.length ≤ n) (hn : n ≤ 999) (h : wpV P c ⟨argFr 0 args, []⟩ ⟨EndD D t x, fun _ _ => False, EndD D t x, fun _ _ => False⟩) : GSpec P false f args [] (.iv x) [] :=
  gspec_of_vc hf hargs rfl rfl (outs_mono (wpV_sound hn _ _ _ h) fun s h => by
    have hk : ((s.drops D).hp.map (·.1)).all (· < 1000) = true := by
      rw [List.all_eq_true]
      intro k hk
      exact List.all_eq_true.1 (smallH_all h.2.2) k (drops_keys D hk)
    refine ⟨(s.drops D).drops ((s.drops D).hp.map (·.1)), [.iv x], (le_drops D h.1 s).trans (le_drops _ hk _), ?_, rfl, fun id => ?_, fun h => by cases h⟩
    · simp [resV, get_drops_iv _ h.2.1]
    · refine look_drops_none _ ?_
      cases hl : look (s.drops D).hp id with
      | none => exact .inr rfl
      | some o => exact .inl (List.contains_iff_mem.1 (look_mem hl)))
def EndN (j sz t : Nat) (xs : List (List IV)) (s : St) : Prop := s.get t = .sl j sz 0 xs.length ∧ look s.hp j = some (.list sz xs) ∧ smallH s.hp = true
attribute [simp] EndN
theorem GSpec.fresh {P : Program} {f : FuncId} {args : List AV} {j sz n : Nat} {xs : List (List IV)} (h : GSpec P true f args [] (.sl j sz 0 n) [(j, .list sz xs)]) (d : Nat)
    (hs : args.all AV.shal = true) (ha : ∀ ρ : Nat → Nat, args.map (AV.ren ρ) = args) : GSpec P true f args [] (.sl d sz 0 n) [(d, .list sz xs)] := by
  have := h.ren (Ren.swap j d) (by simp [hs, AV.shal, AV.shal2, AV.shal1, Ob.shal])
  rw [ha] at this
  have e : (Ren.swap j d).to j = d := by simp [Ren.swap, swapN]
  simpa [Hp.ren, AV.ren, AV.ren2, AV.ren1, Ob.ren, e] using this
end Go.Vm
end

/- Functions that hand back a list of their own whose elements may lean on what came in. -/
section
namespace Go.Vm
def EndC (D : List Nat) (t j : Nat) (cs : List IV) (s : St) : Prop := D.all (· < 1000) = true ∧ (s.drops D).get t = .ptr j 0 ∧ look (s.drops D).hp j = some (.box (cs.map .iv)) ∧ smallH s.hp = true
attribute [simp] EndC
end Go.Vm
end

/- Functions that are ranged over, loops over such, and results that are left open: how their contracts are reckoned. -/
section
namespace Go.Vm
attribute [simp] argsOk
end Go.Vm
end

/- Calls that hand back new things; ends with lists that may be nil. -/
section
namespace Go.Vm
theorem call_newH {P : Program} {d : Nat} {f : FuncId} {ops : List Operand} {s s1 : St} {K : St → AV → Prop} {args : List AV} {res : AV} {H' : Hp} (h : GSpec P false f args [] res H')
    (hs1 : (s.frz ((s.args [] ops []).filter fun x => !x.inns [])).drop d = s1)
    (ha : ((s1.args [] ops []).map (s1.arg false [])) = args) (hr : args.all (AV.inns []) = true) (hn : keysB H' (H'.map (·.1)) = true) (hf : H'.all (fun p => decide (p.1 < 1000) && (look s1.hp p.1).isNone) = true)
    (hk : K (s1.join H') res) : callW P d f [] ops [] none s K := by
  refine callK_of ⟨s, Le.refl s, false, [], res, H', s1, hs1.symm, trivial, { spec := ?_, refs := ?_, sub := fun _ _ h => ?_, own := fun _ _ h => ?_, keep := fun _ _ h => ?_, new := fun id o h1 _ => ?_ }, hk⟩
  · rw [List.map_nil]; rw [ha]; exact h
  · rw [List.map_nil]; rw [ha]; exact hr
  · cases h
  · cases h
  · cases h
  · have := List.all_eq_true.1 hf _ (look_some_mem h1)
    simp only [Bool.and_eq_true, decide_eq_true_eq, Option.isNone_iff_eq_none] at this
    exact ⟨this.2, this.1⟩
theorem le_ivc {s : St} {t : Nat} {y : IV} (h : (s.get t).ivc = some y) : Le s (s.set t (.iv y)) := by
  rintro E n a w ⟨ψ, hs⟩
  refine ⟨ψ, { hs with frame := fun u => ?_ }⟩
  rw [St.get_set]
  split
  · rename_i e; subst e
    exact .iv _ _ (riv_ivc (hs.frame t) h (fun _ _ h => h))
  · exact hs.frame u
def EndV (D : List Nat) (t : Nat) (x : IV) (s : St) : Prop := D.all (· < 1000) = true ∧ ((s.drops D).get t).ivc = some x ∧ smallH s.hp = true
theorem gspec1V {P : Program} {f : FuncId} {args : List AV} {x : IV} {n t : Nat} {c : VCode} (hf : fnV P f = some (n, c, [.tmp t]))
    (hargs : args.length ≤ n) (hn : n ≤ 999) (h : wpV P c ⟨argFr 0 args, []⟩ ⟨fun s => ∃ D, EndV D t x s, fun _ _ => False, fun s => ∃ D, EndV D t x s, fun _ _ => False⟩) : GSpec P false f args [] (.iv x) [] :=
  gspec_of_vc hf hargs rfl rfl (outs_mono (wpV_sound hn _ _ _ h) fun s h => by
    obtain ⟨D, h1, h2, h3⟩ := h
    have hk : (((s.drops D).set t (.iv x)).hp.map (·.1)).all (· < 1000) = true := by
      show ((s.drops D).hp.map (·.1)).all (· < 1000) = true
      rw [List.all_eq_true]
      intro k hk
      exact List.all_eq_true.1 (smallH_all h3) k (drops_keys D hk)
    refine ⟨((s.drops D).set t (.iv x)).drops (((s.drops D).set t (.iv x)).hp.map (·.1)), [.iv x], ((le_drops D h1 s).trans (le_ivc h2)).trans (le_drops _ hk _), ?_, rfl, fun id => ?_, fun h => by cases h⟩
    · simp [resV, get_drops_iv _ (show ((s.drops D).set t (.iv x)).get t = .iv x by rw [St.get_set, if_pos rfl])]
    · refine look_drops_none _ ?_
      cases hl : Vm.look ((s.drops D).set t (.iv x)).hp id with
      | none => exact .inr rfl
      | some o => exact .inl (List.contains_iff_mem.1 (look_mem hl)))
def EndV2 (D : List Nat) (t u : Nat) (x y : IV) (s : St) : Prop := D.all (· < 1000) = true ∧ ((s.drops D).get t).ivc = some x ∧ (s.drops D).get u = .iv y ∧ smallH s.hp = true
theorem gspec2V {P : Program} {f : FuncId} {args : List AV} {x y : IV} {n t u : Nat} {c : VCode} (htu : t ≠ u) (hf : fnV P f = some (n, c, [.tmp t, .tmp u]))
    (hargs : args.length ≤ n) (hn : n ≤ 999) (h : wpV P c ⟨argFr 0 args, []⟩ ⟨fun s => ∃ D, EndV2 D t u x y s, fun _ _ => False, fun s => ∃ D, EndV2 D t u x y s, fun _ _ => False⟩) : GSpec P false f args [] (.tup [.iv x, .iv y]) [] :=
  gspec_of_vc hf hargs rfl rfl (outs_mono (wpV_sound hn _ _ _ h) fun s h => by
    obtain ⟨D, h1, h2, h4, h3⟩ := h
    have hk : (((s.drops D).set t (.iv x)).hp.map (·.1)).all (· < 1000) = true := by
      show ((s.drops D).hp.map (·.1)).all (· < 1000) = true
      rw [List.all_eq_true]
      intro k hk
      exact List.all_eq_true.1 (smallH_all h3) k (drops_keys D hk)
    refine ⟨((s.drops D).set t (.iv x)).drops (((s.drops D).set t (.iv x)).hp.map (·.1)), [.iv x, .iv y], ((le_drops D h1 s).trans (le_ivc h2)).trans (le_drops _ hk _), ?_, rfl, fun id => ?_, fun h => by cases h⟩
    · simp [resV, get_drops_iv _ (show ((s.drops D).set t (.iv x)).get t = .iv x by rw [St.get_set, if_pos rfl]), get_drops_iv _ (show ((s.drops D).set t (.iv x)).get u = .iv y by rw [St.get_set, if_neg (by first | exact htu | exact Ne.symm htu)]; exact h4)]
    · refine look_drops_none _ ?_
      cases hl : Vm.look ((s.drops D).set t (.iv x)).hp id with
      | none => exact .inr rfl
      | some o => exact .inl (List.contains_iff_mem.1 (look_mem hl)))
end Go.Vm
end

/- Rows that are built from nil; loops entered by whatever step. -/
section
namespace Go.Vm
@[simp] theorem ev_pn {s : St} : s.ev (.const (.pointer none)) = .iv (.v (.pointer none)) := rfl
theorem le_own {s : St} {j i sz id : Nat} {cs : List AV} (h : look s.hp j = some (.box cs)) (hi : cs[i]? = some (.nil sz)) (hno : look s.hp id = none) (hid : id < 1000) :
    Le s ((s.add id (.list sz [])).add j (.box (cs.set i (.sl id sz 0 0)))) := by
  rintro E n a w ⟨ψ, hs⟩
  have h1 := hs.new (o := .list sz []) (p := none) (w' := w) hid hno (Ext.refl w) (fun b k e => by cases e) ⟨fun _ h => (by cases h), .inl ⟨by simp [upd], rfl⟩⟩
  have hj : j ≠ id := by rintro rfl; rw [hno] at h; cases h
  have hl : look (s.add id (.list sz [])).hp j = some (.box cs) := by rw [look_add, if_neg (Ne.symm hj)]; exact h
  obtain ⟨b, c, e, g1, g2, g3, g4⟩ := h1.obs j _ hl
  have hψ : upd ψ id none id = none := by simp [upd]
  refine ⟨_, h1.chg (o' := .box (cs.set i (.sl id sz 0 0))) hl (Ob.le_none rfl) rfl (fun h => by cases h) g1 (fun _ _ => rfl) rfl ⟨rfl, rfl, rfl⟩ fun hm _ => ⟨b, c, e, g1, g2, by simpa using g3, fun k x hx => ?_⟩⟩
  rw [List.getElem?_set] at hx
  split at hx
  · rename_i e1
    subst e1
    split at hx
    · simp only [Option.some.injEq] at hx
      subst hx
      have := g4 i _ hi
      generalize c.getD i undef = v at this
      cases this
      exact .sl0 id sz (.list sz []) 0 (by rw [look_add, if_neg hj, look_add, if_pos rfl]) rfl hψ
    · cases hx
  · exact hm x _ (g4 k x hx)
theorem loop_idxL {P : Program} {c : VCode} {s : St} {O : Outs} (D' : List Nat) (n : Nat) (S : Nat → St) (Q : Nat → Prop) (h0 : Le s (S 0)) (q0 : Q 0)
    (hs : ∀ i, i ≤ n → Q i → wpV P c (S i) { O with n := fun s2 => i < n ∧ LeTo D' s2 (S (i + 1)) ∧ Q (i + 1) }) : loopW P c s O := by
  refine ⟨fun k s => ∃ i, i ≤ n ∧ k = n - i ∧ s = S i ∧ Q i, ⟨_, _, h0, 0, Nat.zero_le _, rfl, rfl, q0⟩, ?_⟩
  rintro k s' ⟨i, hi, rfl, rfl, hq⟩
  refine wpV_mono c (O := { O with n := fun s2 => i < n ∧ LeTo D' s2 (S (i + 1)) ∧ Q (i + 1) }) (fun s2 h => ?_) (fun _ _ h => h) (fun _ h => h) (fun _ _ h => h) (hs i hi hq)
  obtain ⟨hlt, hle, hq'⟩ := h
  exact ⟨_, _, by omega, hle.le, i + 1, hlt, rfl, rfl, hq'⟩
end Go.Vm
end

/- From the library's contract for a sort of numbers to a contract of the machine. -/
section
namespace Go.Vm
open Go.Sort (Holds putRow grow putCells mapBlock)
def numsC (l : List Int) : List (List IV) := l.map fun i => [.v (.int .i64 i)]
def sortI (l : List Int) : List Int := l.mergeSort fun x y => decide (x ≤ y)
theorem nums_at {l : List Int} {i j : Nat} {c : IV} (h : at2 (numsC l) i j = some c) : j = 0 ∧ ∃ n, l[i]? = some n ∧ c = .v (.int .i64 n) := by
  unfold at2 numsC at h
  rw [List.getElem?_map] at h
  cases hl : l[i]? with
  | none => rw [hl] at h; simp at h
  | some n =>
    rw [hl] at h
    simp only [Option.map_some, Option.bind_some] at h
    cases j with
    | zero => simp at h; exact ⟨rfl, n, rfl, h.symm⟩
    | succ j => simp at h
theorem nums_at0 {l : List Int} {i : Nat} {n : Int} (h : l[i]? = some n) : at2 (numsC l) i 0 = some (.v (.int .i64 n)) := by
  unfold at2 numsC; rw [List.getElem?_map, h]; rfl
theorem riv_int {A : Nat → Prop} {w : World} {n : Int} {v : Value} (h : RIV A w (.v (.int .i64 n)) v) : v = .int .i64 n := by cases h; rfl
theorem gspec_rowF {P : Program} {f : FuncId} (F : List Int → List Int) (hF : ∀ l, (F l).length = l.length) (hF0 : F [] = [])
    (hs : ∀ (blk off cap : Nat) (zs : List Int) (w : World), Holds (Value.int .i64) w blk off zs.toArray → blk < w.heap.size → zs.length < 4611686018427387904 →
      Calls P f #[.slice (some ⟨blk, off, none⟩) zs.length cap] w fun e w' => e = .returned (.tuple #[]) ∧ ∃ n os, w' = grow (putRow (Value.int .i64) (Go.Sort.ahead w n) blk off (F zs).toArray) os)
    (hn : ∀ (p : Option Addr) (cap : Nat) (w : World), Calls P f #[.slice p 0 cap] w fun e w' => e = .returned (.tuple #[]) ∧ w' = w)
    (xs : List Int) (hl : xs.length < 2 ^ 62) : GSpec P false f [.sl 1000 1 0 xs.length] [(1000, .list 1 (numsC xs))] (.tup []) [(1000, .list 1 (numsC (F xs)))] := by
  have hlen : (F xs).length = xs.length := hF xs
  have look1 : ∀ {o : Ob} {id : Nat} {q : Ob}, look [(1000, o)] id = some q → id = 1000 ∧ q = o := by
    intro o id q h
    simp only [look] at h
    split at h
    · exact ⟨by omega, by cases h; rfl⟩
    · cases h
  refine ⟨⟨fun id o h => by obtain ⟨_, rfl⟩ := look1 h; rfl, fun id o h => by obtain ⟨_, rfl⟩ := look1 h; rfl⟩, ?_⟩
  intro A ψ w vs hA hob hinj hsubs hheld hvl hrav
  have ho := hob 1000 (.list 1 (numsC xs)) rfl
  have hr := hrav 0 _ rfl
  obtain ⟨v, rfl⟩ : ∃ v, vs = [v] := by
    match vs, hvl with
    | [v], _ => exact ⟨v, rfl⟩
  simp only [List.getD_eq_getElem?_getD, List.getElem?_cons_zero, Option.getD_some] at hr
  have key : ∀ (w' : World), w.heap.size ≤ w'.heap.size → Same w w' → (∀ b, b < w.heap.size → ¬Held ψ [(1000, .list 1 (numsC xs))] b → w'.heap[b]? = w.heap[b]?) →
      ROb (fun b => ((false = false ∧ A b) ∨ w.heap.size ≤ b) ∧ ¬Held ψ [(1000, .list 1 (numsC (F xs)))] b) ψ [(1000, .list 1 (numsC (F xs)))] w' 1000 (.list 1 (numsC (F xs))) →
      ∃ v ψ', (Ending.returned (.tuple #[]) : Ending) = .returned v ∧
      (∀ b, b < w.heap.size → ¬Held ψ [(1000, .list 1 (numsC xs))] b → w'.heap[b]? = w.heap[b]?) ∧ w.heap.size ≤ w'.heap.size ∧ Same w w' ∧
      (∀ id o, look [(1000, Ob.list 1 (numsC xs))] id = some o → ψ'.main id = ψ id) ∧
      (∀ id o b, look [(1000, Ob.list 1 (numsC (F xs)))] id = some o → Owns ψ' id b → (∃ o0, look [(1000, Ob.list 1 (numsC xs))] id = some o0 ∧ Owns ψ id b) ∨ w.heap.size ≤ b) ∧
      (∀ id id' o o' b, look [(1000, Ob.list 1 (numsC (F xs)))] id = some o → look [(1000, Ob.list 1 (numsC (F xs)))] id' = some o' → Owns ψ' id b → Owns ψ' id' b → id = id') ∧ Subs ψ' [(1000, .list 1 (numsC (F xs)))] w' ∧
      (∀ id o, look [(1000, Ob.list 1 (numsC (F xs)))] id = some o → ROb (fun b => ((false = false ∧ A b) ∨ w.heap.size ≤ b) ∧ ¬Held ψ' [(1000, .list 1 (numsC (F xs)))] b) ψ' [(1000, .list 1 (numsC (F xs)))] w' id o) ∧
      RAV (fun b => ((false = false ∧ A b) ∨ w.heap.size ≤ b) ∧ ¬Held ψ' [(1000, .list 1 (numsC (F xs)))] b) ψ' [(1000, .list 1 (numsC (F xs)))] w' (.tup []) v := by
    intro w' h1 h2 h3 h4
    refine ⟨.tuple #[], ψ, rfl, h3, h1, h2, fun _ _ _ => rfl, fun id o b h hb => .inl ?_, fun id id' o o' b h h' _ _ => ?_, fun id o b h hb => ?_, fun id o h => ?_, .tup [] #[] rfl (fun i c h => by simp at h)⟩
    · obtain ⟨rfl, rfl⟩ := look1 h; exact ⟨.list 1 (numsC xs), rfl, hb⟩
    · obtain ⟨rfl, _⟩ := look1 h; obtain ⟨rfl, _⟩ := look1 h'; rfl
    · obtain ⟨rfl, rfl⟩ := look1 h
      have := (hsubs 1000 (.list 1 (numsC xs)) b rfl hb).1
      cases this
    · obtain ⟨rfl, rfl⟩ := look1 h; exact h4
  obtain ⟨hw1, ho⟩ := ho
  by_cases hx : xs = []
  · subst hx
    have hv : ∃ p cap, v = .slice p 0 cap := by
      cases hr with
      | sl0 => exact ⟨_, _, rfl⟩
      | sl => exact ⟨_, _, rfl⟩
    obtain ⟨p, cap, rfl⟩ := hv
    refine (hn p cap w).mono ?_
    rintro e w' ⟨rfl, rfl⟩
    refine key w' (Nat.le_refl _) ⟨rfl, rfl, rfl⟩ (fun _ _ _ => rfl) ?_
    have hso : F [] = [] := hF0
    rw [hso]
    refine ⟨hw1, ?_⟩
    rcases ho with ⟨g1, g2⟩ | ⟨b, k, c, e, g1, g2, g3, g4, g5⟩
    · exact .inl ⟨g1, g2⟩
    · exact .inr ⟨b, k, c, e, g1, g2, g3, g4, fun i j x h => by simp [at2, numsC] at h⟩
  · have hpos := List.length_pos_iff.2 hx
    rcases ho with ⟨_, g2⟩ | ⟨b, k, c, e, g1, g2, g3, g4, g5⟩
    · exact absurd (by simpa [numsC] using g2) hx
    · obtain ⟨cap, rfl⟩ : ∃ cap, v = .slice (some ⟨b, k.1, none⟩) xs.length cap := by
        generalize hlx : xs.length = n at hr hpos
        cases hr with
        | sl0 => omega
        | sl id sz lo len b' k' cap a o n' ho' he hxx hb ha hlc hk hm =>
          rw [g1] at hb; cases hb
          have := ha (by omega)
          rw [Nat.zero_mul, Nat.add_zero] at this
          subst this
          exact ⟨cap, rfl⟩
      have hbl : b < w.heap.size := heap_lt g2
      have hB : Held ψ [(1000, .list 1 (numsC xs))] b := ⟨1000, .list 1 (numsC xs), rfl, .inl ⟨k, g1⟩⟩
      have hcell : ∀ i n, xs[i]? = some n → c[k.1 + i]? = some (.int .i64 n) := by
        intro i n hi
        have h5 := riv_int (g5 i 0 _ (nums_at0 hi))
        have hil := (List.getElem?_eq_some_iff.1 hi).1
        have hcs : k.1 + i < c.size := by simp only [numsC, List.length_map] at g4; omega
        rw [Nat.mul_one, Nat.add_zero] at h5
        rw [Array.getD_eq_getD_getElem?, Array.getElem?_eq_getElem hcs] at h5
        rw [Array.getElem?_eq_getElem hcs]
        exact congrArg some h5
      have hH : Holds (Value.int .i64) w b k.1 xs.toArray := by
        intro j hj
        simp only [List.size_toArray] at hj
        have hj2 := List.getElem?_eq_getElem hj
        constructor
        · simp only [World.cell?, g2]
          rw [hcell j _ hj2]
          simp [hj]
        · simp only [World.frozen?, g2]
          simp
      refine (hs b k.1 cap xs w hH hbl (by omega)).mono ?_
      rintro ex w' ⟨rfl, n, os, rfl⟩
      have hsz : (putRow (Value.int .i64) (Go.Sort.ahead w n) b k.1 (F xs).toArray).heap.size = w.heap.size := by simp [putRow, mapBlock, Go.Sort.ahead]
      have hother : ∀ i, i ≠ b → i < w.heap.size → (grow (putRow (Value.int .i64) (Go.Sort.ahead w n) b k.1 (F xs).toArray) os).heap[i]? = w.heap[i]? := by
        intro i hi hlt
        rw [Go.Sort.heap_grow_old _ _ (by rw [hsz]; exact hlt)]
        simp only [putRow, mapBlock, Go.Sort.ahead, Array.getElem?_modify]
        rw [if_neg (Ne.symm hi)]
      have hmine : (grow (putRow (Value.int .i64) (Go.Sort.ahead w n) b k.1 (F xs).toArray) os).heap[b]? = some (.cells (putCells (Value.int .i64) k.1 (F xs).toArray c) e (0, 0)) := by
        rw [Go.Sort.heap_grow_old _ _ (by rw [hsz]; exact hbl)]
        simp only [putRow, mapBlock, Go.Sort.ahead, Array.getElem?_modify, if_true]
        rw [g2]; rfl
      refine key _ (by rw [Go.Sort.size_grow, hsz]; omega) ⟨rfl, rfl, rfl⟩ (fun i hi hh => hother i (fun e => hh (e ▸ hB)) hi) ?_
      refine ⟨fun x hxm => ?_, .inr ⟨b, k, _, e, g1, hmine, ?_, ?_, fun i j x h => ?_⟩⟩
      · simp only [numsC, List.mem_map] at hxm
        obtain ⟨_, _, rfl⟩ := hxm; rfl
      · simp only [putCells, Array.size_mapIdx]; exact g3
      · simp only [numsC, List.length_map] at g4 ⊢; omega
      · obtain ⟨rfl, m, hm, rfl⟩ := nums_at h
        have hil := (List.getElem?_eq_some_iff.1 hm).1
        rw [hlen] at hil
        simp only [numsC, List.length_map] at g4
        have hlt : k.1 + (i * 1 + 0) < (putCells (Value.int .i64) k.1 (F xs).toArray c).size := by simp only [putCells, Array.size_mapIdx]; omega
        have : (putCells (Value.int .i64) k.1 (F xs).toArray c).getD (k.1 + (i * 1 + 0)) undef = .int .i64 m := by
          rw [Array.getD_eq_getD_getElem?, Array.getElem?_eq_getElem hlt, Option.getD_some]
          simp only [putCells, Array.getElem_mapIdx, List.size_toArray, hlen]
          rw [if_pos (by omega)]
          have e1 : k.1 + (i * 1 + 0) - k.1 = i := by omega
          rw [e1]
          have := hm
          simp [List.getElem!_eq_getElem?_getD, this]
        rw [this]
        exact .v _ rfl
end Go.Vm
end

/- The first place of a kind in a row. No program in sight. -/
section
namespace Go.Rt
open Go.Vm
def ixP {α : Type} (p : α → Bool) (l : List α) : Int := match l.findIdx? p with
  | some i => i
  | none => -1
theorem ixP_at {α : Type} {p : α → Bool} {l : List α} {i : Nat} {e : α} (he : l[i]? = some e) (h : p e = true) (hn : Upto i fun j => ∀ x, l[j]? = some x → p x = false) : ixP p l = i := by
  have : l.findIdx? p = some i := by
    rw [List.findIdx?_eq_some_iff_getElem]
    have hl := (List.getElem?_eq_some_iff.1 he).1
    have hg := (List.getElem?_eq_some_iff.1 he).2
    refine ⟨hl, by rw [hg]; exact h, fun j hj => ?_⟩
    have := hn j hj l[j] (List.getElem?_eq_getElem (by omega))
    simpa using this
  unfold ixP; rw [this]
theorem ixP_none {α : Type} {p : α → Bool} {l : List α} (hn : ∀ x, x ∈ l → p x = false) : ixP p l = -1 := by
  have : l.findIdx? p = none := by
    rw [List.findIdx?_eq_none_iff]
    exact hn
  unfold ixP; rw [this]
theorem upto_all {α : Type} {l : List α} {i : Nat} {p : α → Prop} (hi : l.length ≤ i) (h : Upto i fun j => ∀ x, l[j]? = some x → p x) : ∀ x, x ∈ l → p x := by
  intro x hx
  obtain ⟨j, hj⟩ := List.getElem?_of_mem hx
  exact h j (by have := (List.getElem?_eq_some_iff.1 hj).1; omega) x hj
theorem ixP_cases {α : Type} (p : α → Bool) (l : List α) : (∃ (i : Nat) (x : α), l[i]? = some x ∧ p x = true ∧ ixP p l = i ∧ ∀ j y, j < i → l[j]? = some y → p y = false) ∨ ((∀ x, x ∈ l → p x = false) ∧ ixP p l = -1) := by
  unfold ixP
  cases h : l.findIdx? p with
  | none =>
    rw [List.findIdx?_eq_none_iff] at h
    exact .inr ⟨h, rfl⟩
  | some i =>
    rw [List.findIdx?_eq_some_iff_getElem] at h
    obtain ⟨hl, h1, h2⟩ := h
    refine .inl ⟨i, l[i], List.getElem?_eq_getElem hl, h1, rfl, fun j y hj hy => ?_⟩
    have := h2 j hj
    have hy2 := (List.getElem?_eq_some_iff.1 hy).2
    rw [hy2] at this
    simpa using this
theorem ixP_nonneg {α : Type} (p : α → Bool) (l : List α) : 0 ≤ ixP p l ↔ ∃ x, x ∈ l ∧ p x = true := by
  rcases ixP_cases p l with ⟨i, x, h1, h2, h3, _⟩ | ⟨h1, h2⟩
  · rw [h3]; exact ⟨fun _ => ⟨x, List.mem_of_getElem? h1, h2⟩, fun _ => by omega⟩
  · rw [h2]
    refine ⟨fun h => by omega, ?_⟩
    rintro ⟨x, hx, hp⟩
    rw [h1 x hx] at hp; cases hp
def place (l : List Int) (x : Int) : Int := ixP (fun y => decide (x = y)) l
end Go.Rt
end
