/- Contracts of functions of the program, and what they lean on. Conditions: those of each theorem. -/
import Derived.Test.YtoiegcefpofheaaMD
import Derived.Test.YtoiegcefpofheaaProg
import Derived.Sort.Grow

set_option linter.unusedVariables false
set_option linter.unusedSimpArgs false

/- The numbers of the functions. -/
section
namespace Go.Rt
@[reducible] noncomputable def prog : Program := Go.Proofs.Try.prog
@[reducible] def n_ratlinelaw12_WaitsCycles : FuncId := 3
@[reducible] def n_ratlinelaw12_WaitsStuck : FuncId := 4
@[reducible] def n_ratlinelaw12_WaitsVictims : FuncId := 5
@[reducible] def n_ratlinelaw12_WaitsGoes : FuncId := 6
@[reducible] def n_ratlinelaw12_WaitsEnds : FuncId := 7
@[reducible] def n_ratlinelaw12_WaitsFree : FuncId := 8
@[reducible] def n_ratlinelaw12_awake : FuncId := 9
@[reducible] def n_ratlinelaw12_small : FuncId := 10
@[reducible] def n_ratlineref10_Ints : FuncId := 11
@[reducible] def n_waits_Cycle : FuncId := 12
@[reducible] def n_ratlineref12_Cycle : FuncId := 13
@[reducible] def n_waits_Stuck : FuncId := 14
@[reducible] def n_ratlineref12_Stuck : FuncId := 15
@[reducible] def n_waits_Victim : FuncId := 16
@[reducible] def n_ratlineref12_Victim : FuncId := 17
@[reducible] def n_ratlinelaw12_in : FuncId := 18
@[reducible] def n_slices_Clone_int_int : FuncId := 19
@[reducible] def n_slices_Sort_int_int : FuncId := 20
@[reducible] def n_slices_BinarySearch_int_int : FuncId := 21
@[reducible] def n_slices_Reverse_int_int : FuncId := 22
@[reducible] def n_ratlineref12_way : FuncId := 23
@[reducible] def n_ratlineref12_in : FuncId := 24
@[reducible] def n_waits_Victim_1 : FuncId := 25
@[reducible] def n_slices_pdqsortOrdered_int : FuncId := 26
@[reducible] def n_math_bits_Len : FuncId := 27
@[reducible] def n_cmp_Less_int : FuncId := 28
@[reducible] def n_slices_isNaN_int : FuncId := 29
@[reducible] def n_slices_insertionSortOrdered_int : FuncId := 30
@[reducible] def n_slices_heapSortOrdered_int : FuncId := 31
@[reducible] def n_slices_breakPatternsOrdered_int : FuncId := 32
@[reducible] def n_slices_choosePivotOrdered_int : FuncId := 33
@[reducible] def n_slices_reverseRangeOrdered_int : FuncId := 34
@[reducible] def n_slices_partialInsertionSortOrdered_int : FuncId := 35
@[reducible] def n_slices_partitionEqualOrdered_int : FuncId := 36
@[reducible] def n_slices_partitionOrdered_int : FuncId := 37
@[reducible] def n_math_bits_Len32 : FuncId := 38
@[reducible] def n_math_bits_Len64 : FuncId := 39
@[reducible] def n_cmp_isNaN_int : FuncId := 40
@[reducible] def n_slices_siftDownOrdered_int : FuncId := 41
@[reducible] def n_slices_nextPowerOfTwo : FuncId := 42
@[reducible] def n_slices_xorshift_Next : FuncId := 43
@[reducible] def n_slices_medianAdjacentOrdered_int : FuncId := 44
@[reducible] def n_slices_medianOrdered_int : FuncId := 45
@[reducible] def n_slices_order2Ordered_int : FuncId := 46
end Go.Rt
end

/- The program's data, and how the machine has them. No program in sight. -/
section
namespace Go.Rt
open Go.Vm

abbrev ci (i : Int) : IV := .v (.int .i64 i)
abbrev cb (b : Bool) : IV := .v (.bool b)
abbrev vi (i : Int) : AV := .iv (ci i)
abbrev vb (b : Bool) : AV := .iv (cb b)

/-- whether something holds -/
noncomputable def ofP (p : Prop) : Bool := @decide p (Classical.propDecidable p)
@[simp] theorem ofP_true {p : Prop} : ofP p = true ↔ p := by unfold ofP; exact @decide_eq_true_iff p (Classical.propDecidable p)
@[simp] theorem ofP_false {p : Prop} : ofP p = false ↔ ¬p := by unfold ofP; exact @decide_eq_false_iff_not p (Classical.propDecidable p)
theorem ofP_eq {p : Prop} {b : Bool} : b = ofP p ↔ (b = true ↔ p) := by
  rw [Bool.eq_iff_iff, ofP_true]
@[simp] theorem ofP_eq_true {p : Prop} : true = ofP p ↔ p := by rw [eq_comm, ofP_true]
@[simp] theorem ofP_eq_false {p : Prop} : false = ofP p ↔ ¬p := by rw [eq_comm, ofP_false]

/-- of all numbers below one -/
def Upto (n : Nat) (p : Nat → Prop) : Prop := ∀ j, j < n → p j
@[simp] theorem upto_zero {p : Nat → Prop} : Upto 0 p := fun _ h => absurd h (Nat.not_lt_zero _)
theorem Upto.succ {n : Nat} {p : Nat → Prop} (h : Upto n p) (hp : p n) : Upto (n + 1) p := fun j hj => by
  rcases Nat.lt_or_ge j n with h1 | h1
  · exact h j h1
  · have : j = n := by omega
    subst this; exact hp

theorem some_at {α : Type} {l : List α} {i : Nat} (h : i < l.length) : ∃ x, l[i]? = some x := ⟨_, List.getElem?_eq_getElem h⟩

theorem wrap_in {n : Int} (h : -(2 ^ 63) ≤ n ∧ n < 2 ^ 63) : IntKind.i64.wrap n = n := by rw [IntKind.wrap_i64]; omega
theorem cast_le {a b : Nat} : ((a : Int) ≤ (b : Int)) ↔ a ≤ b := by omega

/-- api.Value -/
@[ext] structure Vl where
  text : Bool
  n : Int
  s : ByteArray
@[simp] def Vl.cells (v : Vl) : List IV := [cb v.text, ci v.n, .v (.string v.s)]
def Vl.zero : Vl := ⟨false, 0, ⟨#[]⟩⟩
abbrev Vl.av (v : Vl) : AV := .agg (v.cells.map .iv)

@[simp] theorem Vl.eta (v : Vl) : Vl.mk v.text v.n v.s = v := rfl
@[simp] theorem Vl.mk_text (t : Bool) (n : Int) (s : ByteArray) : (Vl.mk t n s).text = t := rfl
@[simp] theorem Vl.mk_n (t : Bool) (n : Int) (s : ByteArray) : (Vl.mk t n s).n = n := rfl
@[simp] theorem Vl.mk_s (t : Bool) (n : Int) (s : ByteArray) : (Vl.mk t n s).s = s := rfl

abbrev Tb := List Bool
def boolsC (l : List Bool) : List (List IV) := l.map fun b => [cb b]
def tbIV (t : Tb) : IV := .lst 1 (boolsC t)

def tbAV (t : Tb) : AV := .agg [.iv (tbIV t)]

def intsC (l : List Int) : List (List IV) := l.map fun i => [ci i]
def intsIV (l : List Int) : IV := .lst 1 (intsC l)
def rowIV (r : List Vl) : IV := .lst 3 (r.map Vl.cells)

@[simp] theorem boolsC_len (l : List Bool) : (boolsC l).length = l.length := by simp [boolsC]
@[simp] theorem boolsC_get (l : List Bool) (i : Nat) : (boolsC l)[i]? = (l[i]?).map fun b => [cb b] := by simp [boolsC]
@[simp] theorem intsC_len (l : List Int) : (intsC l).length = l.length := by simp [intsC]
@[simp] theorem intsC_get (l : List Int) (i : Nat) : (intsC l)[i]? = (l[i]?).map fun b => [ci b] := by simp [intsC]


/-- api.Pred -/
inductive Pd where
  | mk (op col : Int) (v w : Vl) (l : List Pd)

def Pd.op : Pd → Int
  | .mk o _ _ _ _ => o
def Pd.col : Pd → Int
  | .mk _ c _ _ _ => c
def Pd.v : Pd → Vl
  | .mk _ _ v _ _ => v
def Pd.w : Pd → Vl
  | .mk _ _ _ w _ => w
def Pd.l : Pd → List Pd
  | .mk _ _ _ _ l => l

mutual
def Pd.cells : Pd → List IV
  | .mk o c v w l => [ci o, ci c, cb v.text, ci v.n, .v (.string v.s), cb w.text, ci w.n, .v (.string w.s), .lst 9 (Pd.cellsL l)]
def Pd.cellsL : List Pd → List (List IV)
  | [] => []
  | p :: r => p.cells :: Pd.cellsL r
end

theorem Pd.cellsL_map : ∀ l : List Pd, Pd.cellsL l = l.map Pd.cells
  | [] => by simp [Pd.cellsL]
  | p :: r => by simp [Pd.cellsL, Pd.cellsL_map r]
theorem Pd.cells_eq (p : Pd) : p.cells = [ci p.op, ci p.col, cb p.v.text, ci p.v.n, .v (.string p.v.s), cb p.w.text, ci p.w.n, .v (.string p.w.s), .lst 9 (p.l.map Pd.cells)] := by
  cases p with | mk o c v w l => rw [Pd.cells, Pd.cellsL_map]; rfl
def Pd.av (p : Pd) : AV := .agg (p.cells.map .iv)
theorem Pd.av_eq (p : Pd) : p.av = .agg [.iv (ci p.op), .iv (ci p.col), .iv (cb p.v.text), .iv (ci p.v.n), .iv (.v (.string p.v.s)), .iv (cb p.w.text), .iv (ci p.w.n), .iv (.v (.string p.w.s)), .iv (.lst 9 (p.l.map Pd.cells))] := by
  unfold Pd.av; rw [Pd.cells_eq]; rfl

/-- lists that can be counted -/
inductive Pd.Ok : Pd → Prop where
  | mk (p : Pd) (h : p.l.length < 2 ^ 63) (hv : p.v.s.size < 2 ^ 63) (hw : p.w.s.size < 2 ^ 63) (hl : ∀ q, q ∈ p.l → q.Ok) : p.Ok

mutual
def Pd.size : Pd → Int
  | .mk _ _ _ _ l => 1 + Pd.sizes l
def Pd.sizes : List Pd → Int
  | [] => 0
  | p :: r => p.size + Pd.sizes r
end
theorem Pd.size_eq (p : Pd) : p.size = 1 + Pd.sizes p.l := by cases p; rw [Pd.size]; rfl
@[simp] theorem Pd.sizes_nil : Pd.sizes [] = 0 := by rw [Pd.sizes]
theorem Pd.sizes_take {l : List Pd} {i : Nat} {p : Pd} (h : l[i]? = some p) : Pd.sizes (l.take (i + 1)) = Pd.sizes (l.take i) + p.size := by
  induction l generalizing i with
  | nil => cases h
  | cons q r ih =>
    cases i with
    | zero => simp only [List.getElem?_cons_zero, Option.some.injEq] at h; subst h; simp [Pd.sizes]
    | succ i =>
      simp only [List.getElem?_cons_succ] at h
      simp only [List.take_succ_cons, Pd.sizes, ih h]
      omega

theorem wrap_wrap_add (a b : Int) : IntKind.i64.wrap (IntKind.i64.wrap a + IntKind.i64.wrap b) = IntKind.i64.wrap (a + b) := by
  simp only [IntKind.wrap_i64]; omega
theorem wrap_add1 (a b : Int) : IntKind.i64.wrap (IntKind.i64.wrap a + b) = IntKind.i64.wrap (a + b) := by
  simp only [IntKind.wrap_i64]; omega

end Go.Rt
end

/- A slice that is nil is one of any make. -/
section
namespace Go.Vm

@[simp] theorem ev_nilc {s : St} : s.ev (.const (.slice none 0 0)) = .nil 0 := rfl

def nilLe : List AV → List AV → Prop
  | [], [] => True
  | x :: r, y :: q => (x = y ∨ ∃ a b, x = .nil a ∧ y = .nil b) ∧ nilLe r q
  | _, _ => False
@[simp] theorem nilLe_nil : nilLe [] [] ↔ True := ⟨fun h => h, fun h => h⟩
@[simp] theorem nilLe_cons {x y : AV} {r q : List AV} : nilLe (x :: r) (y :: q) ↔ (x = y ∨ ∃ a b, x = .nil a ∧ y = .nil b) ∧ nilLe r q := ⟨fun h => h, fun h => h⟩
theorem nilLe_at : ∀ {cs ds : List AV}, nilLe cs ds → ds.length = cs.length ∧ ∀ (i : Nat) y, ds[i]? = some y → cs[i]? = some y ∨ ∃ a b, cs[i]? = some (.nil a) ∧ y = .nil b
  | [], [], _ => ⟨rfl, fun i y h => by simp at h⟩
  | x :: r, y :: q, h => by
    obtain ⟨g1, g2⟩ := nilLe_at h.2
    refine ⟨by simp [g1], fun i z hz => ?_⟩
    cases i with
    | zero =>
      simp only [List.getElem?_cons_zero, Option.some.injEq] at hz ⊢
      subst hz
      exact h.1
    | succ i => simpa using g2 i z (by simpa using hz)
  | [], _ :: _, h => h.elim
  | _ :: _, [], h => h.elim

theorem le_nils (s : St) {id : Nat} {cs ds : List AV} (ho : look s.hp id = some (.box cs)) (h : nilLe cs ds) : Le s (s.add id (.box ds)) := by
  obtain ⟨h1, h2⟩ := nilLe_at h
  rintro E n a w ⟨ψ, hs⟩
  obtain ⟨b, c, e, q1, q2, q3, q4⟩ := hs.obs id _ ho
  refine ⟨ψ, hs.chg (o' := .box ds) (k := (0, c.size)) ho (Ob.le_none rfl) rfl (by simp [Ob.multi]) q1 (fun _ _ => rfl) rfl ⟨rfl, rfl, rfl⟩
    (fun hm _ => ⟨b, c, e, q1, q2, by rw [q3, h1], fun i x hx => ?_⟩)⟩
  rcases h2 i x hx with g | ⟨a', b', g, rfl⟩
  · exact hm _ _ (q4 i x g)
  · have := hm _ _ (q4 i _ g)
    generalize c.getD i undef = v at this
    cases this
    exact .nil b'

theorem loop_le {P : Program} {c : VCode} {s s' : St} {O : Outs} (h : Le s s') (k : loopW P c s' O) : loopW P c s O := by
  obtain ⟨I, ⟨k, s2, h2, h3⟩, h4⟩ := k
  exact ⟨I, ⟨k, s2, h.trans h2, h3⟩, h4⟩
end Go.Vm
end

/- An empty row is an empty row, however wide. -/
section
namespace Go.Vm

theorem call_le {P : Program} {d : Nat} {f : FuncId} {pre post : List CapV} {ops : List Operand} {y : Option Operand} {s s' : St} {K : St → AV → Prop} (h : Le s s')
    (k : callW P d f pre ops post y s' K) : callW P d f pre ops post y s K := by
  obtain ⟨s2, h2, h3⟩ := k
  exact ⟨s2, h.trans h2, h3⟩

theorem le_list {s : St} {id sz : Nat} {xs xs' : List (List IV)} (ho : look s.hp id = some (.list sz xs)) (hne : xs ≠ []) (hl : xs'.length = xs.length) (hs : ∀ x ∈ xs', x.length = sz)
    (hr : ∀ i j c', at2 xs' i j = some c' → ∃ c, at2 xs i j = some c ∧ ∀ A w v, RIV A w c v → RIV A w c' v) : Le s (s.add id (.list sz xs')) := by
  rintro E n a w ⟨ψ, h⟩
  obtain ⟨h0, ⟨h1, h2⟩ | ⟨b, k, c, e, h1, h2, h3, h4, h5⟩⟩ := h.obs id _ ho
  · exact absurd h2 hne
  refine ⟨ψ, h.chg (o' := .list sz xs') (k := k) ho (Ob.le_of rfl rfl (by omega)) rfl (by simp [Ob.multi]) h1 (fun _ _ => rfl) rfl ⟨rfl, rfl, rfl⟩
    (fun _ tr => ⟨hs, .inr ⟨b, k, c, e, h1, h2, h3, by rw [hl]; exact h4, fun i j x hx => ?_⟩⟩)⟩
  obtain ⟨c0, q1, q2⟩ := hr i j x hx
  exact tr _ _ (q2 _ _ _ (h5 i j c0 q1))

theorem riv_empty {A : Nat → Prop} {w : World} {z z' : Nat} {v : Value} (h : RIV A w (.lst z []) v) : RIV A w (.lst z' []) v := by
  generalize hx : IV.lst z [] = x at h
  cases h <;> try cases hx
  · exact .lnil _
  · exact .lst z' [] 0 0 _ _ (fun _ _ => undef) (by simp) (by simp) (by simp) (by simp [at2]) (by simp [at2])
end Go.Vm
end

/- Functions that hand back a list of their own. -/
section
namespace Go.Vm

theorem drop_keys {s : St} {id k : Nat} (h : k ∈ (s.drop id).hp.map (·.1)) : k ∈ s.hp.map (·.1) := by
  obtain ⟨o, ho⟩ := look_of_mem' h
  cases hs : look s.hp k with
  | none => rw [look_drop_none hs] at ho; cases ho
  | some o' => exact look_key hs
theorem drops_keys (D : List Nat) : ∀ {s : St} {k : Nat}, k ∈ (s.drops D).hp.map (·.1) → k ∈ s.hp.map (·.1) := by
  induction D with
  | nil => intro s k h; exact h
  | cons i D ih => intro s k h; exact drop_keys (ih h)

/-- a function's end with one plain value, some of its own things forgotten ahead -/
def EndD (D : List Nat) (t : Nat) (x : IV) (s : St) : Prop := D.all (· < 1000) = true ∧ (s.drops D).get t = .iv x ∧ smallH s.hp = true
attribute [simp] EndD
theorem gspec1D {P : Program} {f : FuncId} {args : List AV} {x : IV} {n t : Nat} {c : VCode} (D : List Nat) (hf : fnV P f = some (n, c, [.tmp t]))
    (hargs : args.length ≤ n) (hn : n ≤ 999) (hx : x.flat = true) (h : wpV P c ⟨argFr 0 args, []⟩ ⟨EndD D t x, fun _ _ => False, EndD D t x, fun _ _ => False⟩) : GSpec P true f args [] (.iv x) [] :=
  gspec_of_vc hf hargs rfl rfl (outs_mono (wpV_sound hn _ _ _ h) fun s h => by
    have hk : ((s.drops D).hp.map (·.1)).all (· < 1000) = true := by
      rw [List.all_eq_true]
      intro k hk
      exact List.all_eq_true.1 (smallH_all h.2.2) k (drops_keys D hk)
    obtain ⟨s', l, g1, g2⟩ := ends_iv h.2.1 hx hk
    exact ⟨s', l, (le_drops D h.1 s).trans g1, g2⟩)

/-- a function's end with one plain value that may lean on what came in -/
theorem gspec1L {P : Program} {f : FuncId} {args : List AV} {x : IV} {n t : Nat} {c : VCode} (D : List Nat) (hf : fnV P f = some (n, c, [.tmp t]))
    (hargs : args.length ≤ n) (hn : n ≤ 999) (h : wpV P c ⟨argFr 0 args, []⟩ ⟨EndD D t x, fun _ _ => False, EndD D t x, fun _ _ => False⟩) : GSpec P false f args [] (.iv x) [] :=
  gspec_of_vc hf hargs rfl rfl (outs_mono (wpV_sound hn _ _ _ h) fun s h => by
    have hk : ((s.drops D).hp.map (·.1)).all (· < 1000) = true := by
      rw [List.all_eq_true]
      intro k hk
      exact List.all_eq_true.1 (smallH_all h.2.2) k (drops_keys D hk)
    refine ⟨(s.drops D).drops ((s.drops D).hp.map (·.1)), [.iv x], (le_drops D h.1 s).trans (le_drops _ hk _), ?_, rfl, fun id => ?_, fun h => by cases h⟩
    · simp [resV, get_drops_iv _ h.2.1]
    · refine look_drops_none _ ?_
      cases hl : look (s.drops D).hp id with
      | none => exact .inr rfl
      | some o => exact .inl (List.contains_iff_mem.1 (look_mem hl)))

/-- what is a list stays one while others go -/
theorem get_drop_sl {s : St} {t id j sz lo len : Nat} (hj : id ≠ j) (h : s.get t = .sl j sz lo len) : (s.drop id).get t = .sl j sz lo len := by
  unfold St.drop
  split
  · exact h
  · simp only [St.get, St.mapc] at h ⊢
    rw [look_map (AV.mapc _)]
    cases hl : look s.fr t with
    | none => rw [hl] at h; cases h
    | some y =>
      rw [hl] at h
      simp only [Option.getD_some] at h
      subst h
      simp only [Option.map_some, Option.getD_some, AV.mapc, AV.fc]
      rw [if_neg (Ne.symm hj)]
      simp only [AV.kc]
      rw [if_neg (by simpa using Ne.symm hj)]
theorem look_drop_list {s : St} {id j sz : Nat} {xs : List (List IV)} (hj : id ≠ j) (h : look s.hp j = some (.list sz xs)) : look (s.drop id).hp j = some (.list sz xs) := by
  unfold St.drop
  split
  · exact h
  · simp only [look_filter, look_mapc, h, Option.map_some]
    rw [if_neg (Ne.symm hj)]
    rfl
theorem drops_list (D : List Nat) : ∀ {s : St} {t j sz len : Nat} {xs : List (List IV)}, j ∉ D → s.get t = .sl j sz 0 len → look s.hp j = some (.list sz xs) → (s.drops D).get t = .sl j sz 0 len ∧ look (s.drops D).hp j = some (.list sz xs) := by
  induction D with
  | nil => intro s t j sz len xs _ h1 h2; exact ⟨h1, h2⟩
  | cons i D ih =>
    intro s t j sz len xs hj h1 h2
    have hij : i ≠ j := fun e => hj (by simp [e])
    exact ih (fun h => hj (List.mem_cons_of_mem _ h)) (get_drop_sl hij h1) (look_drop_list hij h2)

def EndN (j sz t : Nat) (xs : List (List IV)) (s : St) : Prop := s.get t = .sl j sz 0 xs.length ∧ look s.hp j = some (.list sz xs) ∧ smallH s.hp = true
attribute [simp] EndN
/-- a function's end with a list of its own -/
theorem gspecN {P : Program} {f : FuncId} {args : List AV} {n t : Nat} {c : VCode} (j sz : Nat) (xs : List (List IV)) (hf : fnV P f = some (n, c, [.tmp t]))
    (hargs : args.length ≤ n) (hn : n ≤ 999) (hx : ∀ x ∈ xs, ∀ y ∈ x, y.flat = true) (h : wpV P c ⟨argFr 0 args, []⟩ ⟨EndN j sz t xs, fun _ _ => False, EndN j sz t xs, fun _ _ => False⟩) :
    GSpec P true f args [] (.sl j sz 0 xs.length) [(j, .list sz xs)] :=
  gspec_of_vc hf hargs rfl rfl (outs_mono (wpV_sound hn _ _ _ h) fun s h => by
    obtain ⟨h1, h2, h3⟩ := h
    let D := (s.hp.map (·.1)).filter (· ≠ j)
    have hD : D.all (· < 1000) = true := by
      rw [List.all_eq_true]
      intro k hk
      exact List.all_eq_true.1 (smallH_all h3) k (List.mem_filter.1 hk).1
    have hj : j ∉ D := fun hk => by have := (List.mem_filter.1 hk).2; simp at this
    obtain ⟨g1, g2⟩ := drops_list D hj h1 h2
    refine ⟨s.drops D, [.sl j sz 0 xs.length], le_drops D hD s, by simp [resV, g1], rfl, fun id => ?_, fun _ => ⟨rfl, fun id o ho => ?_⟩⟩
    · simp only [look]
      by_cases e : j = id
      · subst e; rw [if_pos rfl]; exact g2
      · rw [if_neg e]
        refine look_drops_none _ ?_
        cases hl : look s.hp id with
        | none => exact .inr rfl
        | some o => exact .inl (List.mem_filter.2 ⟨look_key hl, by simpa using Ne.symm e⟩)
    · simp only [look] at ho
      split at ho
      · cases ho; exact hx
      · cases ho)

/-- under any name -/
theorem GSpec.fresh {P : Program} {f : FuncId} {args : List AV} {j sz n : Nat} {xs : List (List IV)} (h : GSpec P true f args [] (.sl j sz 0 n) [(j, .list sz xs)]) (d : Nat)
    (hs : args.all AV.shal = true) (ha : ∀ ρ : Nat → Nat, args.map (AV.ren ρ) = args) : GSpec P true f args [] (.sl d sz 0 n) [(d, .list sz xs)] := by
  have := h.ren (Ren.swap j d) (by simp [hs, AV.shal, AV.shal2, AV.shal1, Ob.shal])
  rw [ha] at this
  have e : (Ren.swap j d).to j = d := by simp [Ren.swap, swapN]
  simpa [Hp.ren, AV.ren, AV.ren2, AV.ren1, Ob.ren, e] using this

/-- a call that hands back a new list -/
theorem call_new {P : Program} {d : Nat} {f : FuncId} {ops : List Operand} {s : St} {K : St → AV → Prop} {args : List AV} {sz n : Nat} {xs : List (List IV)} (h : GSpec P true f args [] (.sl d sz 0 n) [(d, .list sz xs)]) (hd : d < 1000)
    (ha : (((s.drop d).args [] ops []).map ((s.drop d).arg true [])) = args) (hr : args.all (AV.inns []) = true) (hk : K ((s.drop d).join [(d, .list sz xs)]) (.sl d sz 0 n)) : callW P d f [] ops [] none s K := by
  refine ⟨s, Le.refl s, true, [], .sl d sz 0 n, [(d, .list sz xs)], s.drop d, rfl, trivial, { spec := ?_, refs := ?_, sub := fun _ _ h => ?_, own := fun _ _ h => ?_, keep := fun _ _ h => ?_, new := fun id o h1 _ => ?_ }, hk⟩
  · rw [List.map_nil, ha]; exact h
  · rw [List.map_nil, ha]; exact hr
  · cases h
  · cases h
  · cases h
  · simp only [look] at h1
    split at h1
    · rename_i e; subst e; exact ⟨look_drop s d, hd⟩
    · cases h1
end Go.Vm
end

/- From the library's contract for a sort of numbers to a contract of the machine. -/
section
namespace Go.Vm
open Go.Sort (Holds putRow grow putCells mapBlock)

def numsC (l : List Int) : List (List IV) := l.map fun i => [.v (.int .i64 i)]
def sortI (l : List Int) : List Int := l.mergeSort fun x y => decide (x ≤ y)

theorem nums_at {l : List Int} {i j : Nat} {c : IV} (h : at2 (numsC l) i j = some c) : j = 0 ∧ ∃ n, l[i]? = some n ∧ c = .v (.int .i64 n) := by
  unfold at2 numsC at h
  rw [List.getElem?_map] at h
  cases hl : l[i]? with
  | none => rw [hl] at h; simp at h
  | some n =>
    rw [hl] at h
    simp only [Option.map_some, Option.bind_some] at h
    cases j with
    | zero => simp at h; exact ⟨rfl, n, rfl, h.symm⟩
    | succ j => simp at h
theorem nums_at0 {l : List Int} {i : Nat} {n : Int} (h : l[i]? = some n) : at2 (numsC l) i 0 = some (.v (.int .i64 n)) := by
  unfold at2 numsC; rw [List.getElem?_map, h]; rfl
theorem riv_int {A : Nat → Prop} {w : World} {n : Int} {v : Value} (h : RIV A w (.v (.int .i64 n)) v) : v = .int .i64 n := by cases h; rfl

theorem gspec_rowF {P : Program} {f : FuncId} (F : List Int → List Int) (hF : ∀ l, (F l).length = l.length) (hF0 : F [] = [])
    (hs : ∀ (blk off cap : Nat) (zs : List Int) (w : World), Holds (Value.int .i64) w blk off zs.toArray → blk < w.heap.size → zs.length < 4611686018427387904 →
      Calls P f #[.slice (some ⟨blk, off, none⟩) zs.length cap] w fun e w' => e = .returned (.tuple #[]) ∧ ∃ n os, w' = grow (putRow (Value.int .i64) (Go.Sort.ahead w n) blk off (F zs).toArray) os)
    (hn : ∀ (p : Option Addr) (cap : Nat) (w : World), Calls P f #[.slice p 0 cap] w fun e w' => e = .returned (.tuple #[]) ∧ w' = w)
    (xs : List Int) (hl : xs.length < 2 ^ 62) : GSpec P false f [.sl 1000 1 0 xs.length] [(1000, .list 1 (numsC xs))] (.tup []) [(1000, .list 1 (numsC (F xs)))] := by
  have hlen : (F xs).length = xs.length := hF xs
  have look1 : ∀ {o : Ob} {id : Nat} {q : Ob}, look [(1000, o)] id = some q → id = 1000 ∧ q = o := by
    intro o id q h
    simp only [look] at h
    split at h
    · exact ⟨by omega, by cases h; rfl⟩
    · cases h
  refine ⟨⟨fun id o h => by obtain ⟨_, rfl⟩ := look1 h; rfl, fun id o h => by obtain ⟨_, rfl⟩ := look1 h; rfl⟩, ?_⟩
  intro A ψ w vs hA hob hinj hsubs hheld hvl hrav
  have ho := hob 1000 (.list 1 (numsC xs)) rfl
  have hr := hrav 0 _ rfl
  obtain ⟨v, rfl⟩ : ∃ v, vs = [v] := by
    match vs, hvl with
    | [v], _ => exact ⟨v, rfl⟩
  simp only [List.getD_eq_getElem?_getD, List.getElem?_cons_zero, Option.getD_some] at hr
  have key : ∀ (w' : World), w.heap.size ≤ w'.heap.size → Same w w' → (∀ b, b < w.heap.size → ¬Held ψ [(1000, .list 1 (numsC xs))] b → w'.heap[b]? = w.heap[b]?) →
      ROb (fun b => ((false = false ∧ A b) ∨ w.heap.size ≤ b) ∧ ¬Held ψ [(1000, .list 1 (numsC (F xs)))] b) ψ [(1000, .list 1 (numsC (F xs)))] w' 1000 (.list 1 (numsC (F xs))) →
      ∃ v ψ', (Ending.returned (.tuple #[]) : Ending) = .returned v ∧
      (∀ b, b < w.heap.size → ¬Held ψ [(1000, .list 1 (numsC xs))] b → w'.heap[b]? = w.heap[b]?) ∧ w.heap.size ≤ w'.heap.size ∧ Same w w' ∧
      (∀ id o, look [(1000, Ob.list 1 (numsC xs))] id = some o → ψ'.main id = ψ id) ∧
      (∀ id o b, look [(1000, Ob.list 1 (numsC (F xs)))] id = some o → Owns ψ' id b → (∃ o0, look [(1000, Ob.list 1 (numsC xs))] id = some o0 ∧ Owns ψ id b) ∨ w.heap.size ≤ b) ∧
      (∀ id id' o o' b, look [(1000, Ob.list 1 (numsC (F xs)))] id = some o → look [(1000, Ob.list 1 (numsC (F xs)))] id' = some o' → Owns ψ' id b → Owns ψ' id' b → id = id') ∧ Subs ψ' [(1000, .list 1 (numsC (F xs)))] w' ∧
      (∀ id o, look [(1000, Ob.list 1 (numsC (F xs)))] id = some o → ROb (fun b => ((false = false ∧ A b) ∨ w.heap.size ≤ b) ∧ ¬Held ψ' [(1000, .list 1 (numsC (F xs)))] b) ψ' [(1000, .list 1 (numsC (F xs)))] w' id o) ∧
      RAV (fun b => ((false = false ∧ A b) ∨ w.heap.size ≤ b) ∧ ¬Held ψ' [(1000, .list 1 (numsC (F xs)))] b) ψ' [(1000, .list 1 (numsC (F xs)))] w' (.tup []) v := by
    intro w' h1 h2 h3 h4
    refine ⟨.tuple #[], ψ, rfl, h3, h1, h2, fun _ _ _ => rfl, fun id o b h hb => .inl ?_, fun id id' o o' b h h' _ _ => ?_, fun id o b h hb => ?_, fun id o h => ?_, .tup [] #[] rfl (fun i c h => by simp at h)⟩
    · obtain ⟨rfl, rfl⟩ := look1 h; exact ⟨.list 1 (numsC xs), rfl, hb⟩
    · obtain ⟨rfl, _⟩ := look1 h; obtain ⟨rfl, _⟩ := look1 h'; rfl
    · obtain ⟨rfl, rfl⟩ := look1 h
      have := (hsubs 1000 (.list 1 (numsC xs)) b rfl hb).1
      cases this
    · obtain ⟨rfl, rfl⟩ := look1 h; exact h4
  obtain ⟨hw1, ho⟩ := ho
  by_cases hx : xs = []
  · subst hx
    have hv : ∃ p cap, v = .slice p 0 cap := by
      cases hr with
      | sl0 => exact ⟨_, _, rfl⟩
      | sl => exact ⟨_, _, rfl⟩
    obtain ⟨p, cap, rfl⟩ := hv
    refine (hn p cap w).mono ?_
    rintro e w' ⟨rfl, rfl⟩
    refine key w' (Nat.le_refl _) ⟨rfl, rfl, rfl⟩ (fun _ _ _ => rfl) ?_
    have hso : F [] = [] := hF0
    rw [hso]
    refine ⟨hw1, ?_⟩
    rcases ho with ⟨g1, g2⟩ | ⟨b, k, c, e, g1, g2, g3, g4, g5⟩
    · exact .inl ⟨g1, g2⟩
    · exact .inr ⟨b, k, c, e, g1, g2, g3, g4, fun i j x h => by simp [at2, numsC] at h⟩
  · have hpos := List.length_pos_iff.2 hx
    rcases ho with ⟨_, g2⟩ | ⟨b, k, c, e, g1, g2, g3, g4, g5⟩
    · exact absurd (by simpa [numsC] using g2) hx
    · obtain ⟨cap, rfl⟩ : ∃ cap, v = .slice (some ⟨b, k.1, none⟩) xs.length cap := by
        generalize hlx : xs.length = n at hr hpos
        cases hr with
        | sl0 => omega
        | sl id sz lo len b' k' cap a o n' ho' he hxx hb ha hlc hk hm =>
          rw [g1] at hb; cases hb
          have := ha (by omega)
          rw [Nat.zero_mul, Nat.add_zero] at this
          subst this
          exact ⟨cap, rfl⟩
      have hbl : b < w.heap.size := heap_lt g2
      have hB : Held ψ [(1000, .list 1 (numsC xs))] b := ⟨1000, .list 1 (numsC xs), rfl, .inl ⟨k, g1⟩⟩
      have hcell : ∀ i n, xs[i]? = some n → c[k.1 + i]? = some (.int .i64 n) := by
        intro i n hi
        have h5 := riv_int (g5 i 0 _ (nums_at0 hi))
        have hil := (List.getElem?_eq_some_iff.1 hi).1
        have hcs : k.1 + i < c.size := by simp only [numsC, List.length_map] at g4; omega
        rw [Nat.mul_one, Nat.add_zero] at h5
        rw [Array.getD_eq_getD_getElem?, Array.getElem?_eq_getElem hcs] at h5
        rw [Array.getElem?_eq_getElem hcs]
        exact congrArg some h5
      have hH : Holds (Value.int .i64) w b k.1 xs.toArray := by
        intro j hj
        simp only [List.size_toArray] at hj
        have hj2 := List.getElem?_eq_getElem hj
        constructor
        · simp only [World.cell?, g2]
          rw [hcell j _ hj2]
          simp [hj]
        · simp only [World.frozen?, g2]
          simp
      refine (hs b k.1 cap xs w hH hbl (by omega)).mono ?_
      rintro ex w' ⟨rfl, n, os, rfl⟩
      have hsz : (putRow (Value.int .i64) (Go.Sort.ahead w n) b k.1 (F xs).toArray).heap.size = w.heap.size := by simp [putRow, mapBlock, Go.Sort.ahead]
      have hother : ∀ i, i ≠ b → i < w.heap.size → (grow (putRow (Value.int .i64) (Go.Sort.ahead w n) b k.1 (F xs).toArray) os).heap[i]? = w.heap[i]? := by
        intro i hi hlt
        rw [Go.Sort.heap_grow_old _ _ (by rw [hsz]; exact hlt)]
        simp only [putRow, mapBlock, Go.Sort.ahead, Array.getElem?_modify]
        rw [if_neg (Ne.symm hi)]
      have hmine : (grow (putRow (Value.int .i64) (Go.Sort.ahead w n) b k.1 (F xs).toArray) os).heap[b]? = some (.cells (putCells (Value.int .i64) k.1 (F xs).toArray c) e (0, 0)) := by
        rw [Go.Sort.heap_grow_old _ _ (by rw [hsz]; exact hbl)]
        simp only [putRow, mapBlock, Go.Sort.ahead, Array.getElem?_modify, if_true]
        rw [g2]; rfl
      refine key _ (by rw [Go.Sort.size_grow, hsz]; omega) ⟨rfl, rfl, rfl⟩ (fun i hi hh => hother i (fun e => hh (e ▸ hB)) hi) ?_
      refine ⟨fun x hxm => ?_, .inr ⟨b, k, _, e, g1, hmine, ?_, ?_, fun i j x h => ?_⟩⟩
      · simp only [numsC, List.mem_map] at hxm
        obtain ⟨_, _, rfl⟩ := hxm; rfl
      · simp only [putCells, Array.size_mapIdx]; exact g3
      · simp only [numsC, List.length_map] at g4 ⊢; omega
      · obtain ⟨rfl, m, hm, rfl⟩ := nums_at h
        have hil := (List.getElem?_eq_some_iff.1 hm).1
        rw [hlen] at hil
        simp only [numsC, List.length_map] at g4
        have hlt : k.1 + (i * 1 + 0) < (putCells (Value.int .i64) k.1 (F xs).toArray c).size := by simp only [putCells, Array.size_mapIdx]; omega
        have : (putCells (Value.int .i64) k.1 (F xs).toArray c).getD (k.1 + (i * 1 + 0)) undef = .int .i64 m := by
          rw [Array.getD_eq_getD_getElem?, Array.getElem?_eq_getElem hlt, Option.getD_some]
          simp only [putCells, Array.getElem_mapIdx, List.size_toArray, hlen]
          rw [if_pos (by omega)]
          have e1 : k.1 + (i * 1 + 0) - k.1 = i := by omega
          rw [e1]
          have := hm
          simp [List.getElem!_eq_getElem?_getD, this]
        rw [this]
        exact .v _ rfl
end Go.Vm
end

/- A function that does nothing to an empty row. -/
section
namespace Go.Vm
theorem gspec_none {P : Program} {f : FuncId}
    (hn : ∀ (p : Option Addr) (cap : Nat) (w : World), Calls P f #[.slice p 0 cap] w fun e w' => e = .returned (.tuple #[]) ∧ w' = w) : GSpec P true f [.iv (.lst 1 [])] [] (.tup []) [] := by
  refine ⟨⟨fun id o h => (by cases h), fun id o h => by cases h⟩, ?_⟩
  intro A ψ w vs hA hob hinj hsubs hheld hvl hrav
  have hr := hrav 0 _ rfl
  obtain ⟨v, rfl⟩ : ∃ v, vs = [v] := by
    match vs, hvl with
    | [v], _ => exact ⟨v, rfl⟩
  simp only [List.getD_eq_getElem?_getD, List.getElem?_cons_zero, Option.getD_some] at hr
  have hv : ∃ p cap, v = .slice p 0 cap := by
    cases hr with
    | iv _ _ h =>
      generalize hx : IV.lst 1 [] = x at h
      cases h <;> try cases hx
      · exact ⟨_, _, rfl⟩
      · exact ⟨_, _, rfl⟩
  obtain ⟨p, cap, rfl⟩ := hv
  refine (hn p cap w).mono ?_
  rintro e w' ⟨rfl, rfl⟩
  refine ⟨.tuple #[], ψ, rfl, fun _ _ _ => rfl, Nat.le_refl _, ⟨rfl, rfl, rfl⟩, fun _ _ _ => rfl, fun id o b h => (by cases h), fun id id' o o' b h => (by cases h), fun id o b h => (by cases h), fun id o h => (by cases h), .tup [] #[] rfl (fun i c h => by simp at h)⟩
end Go.Vm
end
