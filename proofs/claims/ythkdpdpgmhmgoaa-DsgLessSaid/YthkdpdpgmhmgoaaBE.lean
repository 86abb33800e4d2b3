/- Contracts of functions of the program, and what they lean on. Conditions: those of each theorem. -/
import Derived.Test.YthkdpdpgmhmgoaaBD
import Derived.Test.YthkdpdpgmhmgoaaBC
import Derived.Sort.Grow
import Derived.Shelf.Small.Bits
import Derived.Shelf.Small.Wraps
import Derived.Shelf.Strconv.Itoa0
import Derived.Shelf.Sort.Plain
import Derived.Ground.Names2Prog
import Derived.Shelf.Slices.Clone
import Derived.Shelf.Slices.SearchI
import Derived.Shelf.Slices.In.SortNone
import Derived.Ground.SlgnProg
import Derived.Shelf.SlicesG.SearchI
import Derived.Shelf.SlicesE.Clone
import Derived.Shelf.SlSortCmp.NoneTotal
import Derived.Ground.SlsfProg
import Derived.Test.YthkdpdpgmhmgoaaProg

set_option linter.unusedVariables false
set_option linter.unusedSimpArgs false

section
namespace Go.Rt
open Go.Vm
abbrev ci (i : Int) : IV := .v (.int .i64 i)
abbrev cb (b : Bool) : IV := .v (.bool b)
abbrev vi (i : Int) : AV := .iv (ci i)
abbrev vb (b : Bool) : AV := .iv (cb b)
noncomputable def ofP (p : Prop) : Bool := @decide p (Classical.propDecidable p)
@[simp] theorem c1z {p : Prop} : ofP p = true ↔ p := by unfold ofP; exact @decide_eq_true_iff p (Classical.propDecidable p)
@[simp] theorem c2z {p : Prop} : ofP p = false ↔ ¬p := by unfold ofP; exact @decide_eq_false_iff_not p (Classical.propDecidable p)
theorem c3z {p : Prop} {b : Bool} : b = ofP p ↔ (b = true ↔ p) := by
 rw [Bool.eq_iff_iff, c1z]
@[simp] theorem c4z {p : Prop} : true = ofP p ↔ p := by rw [eq_comm, c1z]
@[simp] theorem c5z {p : Prop} : false = ofP p ↔ ¬p := by rw [eq_comm, c2z]
def Upto (n : Nat) (p : Nat → Prop) : Prop := ∀ j, j < n → p j
@[simp] theorem c6z {p : Nat → Prop} : Upto 0 p := fun _ h => absurd h (Nat.not_lt_zero _)
theorem Upto.succ {n : Nat} {p : Nat → Prop} (h : Upto n p) (hp : p n) : Upto (n + 1) p := fun j hj => by
 rcases Nat.lt_or_ge j n with h1 | h1
 · exact h j h1
 · have : j = n := by omega
   subst this; exact hp
theorem c7z {α : Type} {l : List α} {i : Nat} (h : i < l.length) : ∃ x, l[i]? = some x := ⟨_, List.getElem?_eq_getElem h⟩
theorem c8z {n : Int} (h : -(2 ^ 63) ≤ n ∧ n < 2 ^ 63) : IntKind.i64.wrap n = n := by rw [IntKind.wrap_i64]; omega
@[ext] structure Vl where
 text : Bool
 n : Int
 s : ByteArray
@[simp] def Vl.cells (v : Vl) : List IV := [cb v.text, ci v.n, .v (.string v.s)]
def Vl.zero : Vl := ⟨false, 0, ⟨#[]⟩⟩
abbrev Vl.av (v : Vl) : AV := .agg (v.cells.map .iv)
@[simp] theorem Vl.eta (v : Vl) : Vl.mk v.text v.n v.s = v := rfl
@[simp] theorem Vl.mk_text (t : Bool) (n : Int) (s : ByteArray) : (Vl.mk t n s).text = t := rfl
@[simp] theorem Vl.mk_n (t : Bool) (n : Int) (s : ByteArray) : (Vl.mk t n s).n = n := rfl
@[simp] theorem Vl.mk_s (t : Bool) (n : Int) (s : ByteArray) : (Vl.mk t n s).s = s := rfl
abbrev Tb := List Bool
def c9z (l : List Bool) : List (List IV) := l.map fun b => [cb b]
def tbIV (t : Tb) : IV := .lst 1 (c9z t)
def tbAV (t : Tb) : AV := .agg [.iv (tbIV t)]
def c0A (l : List Int) : List (List IV) := l.map fun i => [ci i]
def c1A (l : List Int) : IV := .lst 1 (c0A l)
def c2A (r : List Vl) : IV := .lst 3 (r.map Vl.cells)
@[simp] theorem c3A (l : List Bool) : (c9z l).length = l.length := by simp [c9z]
@[simp] theorem c4A (l : List Bool) (i : Nat) : (c9z l)[i]? = (l[i]?).map fun b => [cb b] := by simp [c9z]
@[simp] theorem c5A (l : List Int) : (c0A l).length = l.length := by simp [c0A]
@[simp] theorem c6A (l : List Int) (i : Nat) : (c0A l)[i]? = (l[i]?).map fun b => [ci b] := by simp [c0A]
inductive Pd where
 | mk (op col : Int) (v w : Vl) (l : List Pd)
def Pd.op : Pd → Int
 | .mk o _ _ _ _ => o
def Pd.col : Pd → Int
 | .mk _ c _ _ _ => c
def Pd.v : Pd → Vl
 | .mk _ _ v _ _ => v
def Pd.w : Pd → Vl
 | .mk _ _ _ w _ => w
def Pd.l : Pd → List Pd
 | .mk _ _ _ _ l => l
mutual
def Pd.cells : Pd → List IV
 | .mk o c v w l => [ci o, ci c, cb v.text, ci v.n, .v (.string v.s), cb w.text, ci w.n, .v (.string w.s), .lst 9 (Pd.cellsL l)]
def Pd.cellsL : List Pd → List (List IV)
 | [] => []
 | p :: r => p.cells :: Pd.cellsL r
end
theorem Pd.cellsL_map : ∀ l : List Pd, Pd.cellsL l = l.map Pd.cells
 | [] => by simp [Pd.cellsL]
 | p :: r => by simp [Pd.cellsL, Pd.cellsL_map r]
theorem Pd.cells_eq (p : Pd) : p.cells = [ci p.op, ci p.col, cb p.v.text, ci p.v.n, .v (.string p.v.s), cb p.w.text, ci p.w.n, .v (.string p.w.s), .lst 9 (p.l.map Pd.cells)] := by
 cases p with | mk o c v w l => rw [Pd.cells, Pd.cellsL_map]; rfl
def Pd.av (p : Pd) : AV := .agg (p.cells.map .iv)
theorem Pd.av_eq (p : Pd) : p.av = .agg [.iv (ci p.op), .iv (ci p.col), .iv (cb p.v.text), .iv (ci p.v.n), .iv (.v (.string p.v.s)), .iv (cb p.w.text), .iv (ci p.w.n), .iv (.v (.string p.w.s)), .iv (.lst 9 (p.l.map Pd.cells))] := by
 unfold Pd.av; rw [Pd.cells_eq]; rfl
inductive Pd.Ok : Pd → Prop where
 | mk (p : Pd) (h : p.l.length < 2 ^ 63) (hv : p.v.s.size < 2 ^ 63) (hw : p.w.s.size < 2 ^ 63) (hl : ∀ q, q ∈ p.l → q.Ok) : p.Ok
mutual
def Pd.size : Pd → Int
 | .mk _ _ _ _ l => 1 + Pd.sizes l
def Pd.sizes : List Pd → Int
 | [] => 0
 | p :: r => p.size + Pd.sizes r
end
theorem Pd.size_eq (p : Pd) : p.size = 1 + Pd.sizes p.l := by cases p; rw [Pd.size]; rfl
@[simp] theorem Pd.sizes_nil : Pd.sizes [] = 0 := by rw [Pd.sizes]
theorem Pd.sizes_take {l : List Pd} {i : Nat} {p : Pd} (h : l[i]? = some p) : Pd.sizes (l.take (i + 1)) = Pd.sizes (l.take i) + p.size := by
 induction l generalizing i with
 | nil => cases h
 | cons q r ih =>
   cases i with
   | zero => simp only [List.getElem?_cons_zero, Option.some.injEq] at h; subst h; simp [Pd.sizes]
   | succ i =>
     simp only [List.getElem?_cons_succ] at h
     simp only [List.take_succ_cons, Pd.sizes, ih h]
     omega
theorem c7A (a b : Int) : IntKind.i64.wrap (IntKind.i64.wrap a + IntKind.i64.wrap b) = IntKind.i64.wrap (a + b) := by
 simp only [IntKind.wrap_i64]; omega
theorem c8A (a b : Int) : IntKind.i64.wrap (IntKind.i64.wrap a + b) = IntKind.i64.wrap (a + b) := by
 simp only [IntKind.wrap_i64]; omega
end Go.Rt
end

section
namespace Go.Rt
open Go.Vm
def Vl.right (v : Vl) : Bool := if v.text then decide (v.n = 0) && decide (v.s.size ≤ 12) else decide (v.s = ⟨#[]⟩)
theorem b1X (v : Vl) : b9l prog true n_a6e [v.av] [] (vb v.right) [] := by
 refine a9D a6e_is (by simp) (by decide) rfl ?_
 simp -dsimp [a6e, Vl.right]
 grind
def TbOk (t : Tb) : Prop := 1 ≤ t.length ∧ t.length ≤ 4
noncomputable def b2X (t : Tb) : Int := if ofP (TbOk t) = true then 0 else 1
@[simp] theorem b3X (t : Tb) : (b2X t != 0) = !ofP (TbOk t) := by
 unfold b2X; cases ofP (TbOk t) <;> rfl
@[simp] theorem b4X (t : Tb) : (b2X t == 0) = ofP (TbOk t) := by
 unfold b2X; cases ofP (TbOk t) <;> rfl
theorem b5X {t : Tb} (h : TbOk t) : b2X t = 0 := by unfold b2X; rw [if_pos (c1z.2 h)]
theorem b6X {t : Tb} (h : ¬TbOk t) : b2X t = 1 := by unfold b2X; rw [if_neg (by simpa using h)]
theorem b7X (t : Tb) : b9l prog true n_a9c [tbAV t] [] (vi (b2X t)) [] := by
 refine a9D a9c_is (by simp) (by decide) rfl ?_
 by_cases h : TbOk t
 · have h' := h
   unfold TbOk at h'
   simp -dsimp [a9c, tbAV, tbIV, b5X h]
   omega
 · have h' := h
   unfold TbOk at h'
   simp -dsimp [a9c, tbAV, tbIV, b6X h]
   omega
def b8X (t : Tb) (r : List Vl) (i : Nat) : Prop := ∀ (v : Vl) (c : Bool), r[i]? = some v → t[i]? = some c → v.text = c ∧ v.right = true
def Fits (t : Tb) (r : List Vl) : Prop := TbOk t ∧ r.length = t.length ∧ Upto r.length (b8X t r)
theorem b9X {t : Tb} {r : List Vl} {i : Nat} {v : Vl} {c : Bool} (hv : r[i]? = some v) (hc : t[i]? = some c) (h : ¬(v.text = c ∧ v.right = true)) : ¬Fits t r :=
 fun hf => h (hf.2.2 i (List.getElem?_eq_some_iff.1 hv).1 v c hv hc)
theorem b0Y {t : Tb} {r : List Vl} {i : Nat} {v : Vl} {c : Bool} (hv : r[i]? = some v) (hc : t[i]? = some c) (h : v.text = c ∧ v.right = true) : b8X t r i := by
 intro v' c' h1 h2; rw [hv] at h1; rw [hc] at h2; cases h1; cases h2; exact h
theorem b1Y (t : Tb) (r : List Vl) : b9l prog true n_a1e [tbAV t, .iv (c2A r)] [] (vb (ofP (Fits t r))) [] := by
 refine a9D a1e_is (by simp) (by decide) rfl ?_
 simp -dsimp [a1e, tbAV]
 refine a5C (b7X t) (by simp [tbAV]) rfl ?_
 simp -dsimp [tbIV, c2A, -List.length_eq_zero_iff]
 refine ⟨fun h1 => ⟨fun h3 h => by have := h.2.1; omega, fun h3 => ?_⟩, fun h h' => h h'.1⟩
 refine a2E [] [6] r.length (fun i => ⟨[(20, vi i), (19, vi r.length), (18, .iv (.lst 3 (r.map Vl.cells))), (2, .ptr 2 0)], [(2, .box [.iv (.lst 1 (c9z t))])]⟩)
   (fun i => Upto i (b8X t r)) ?_ ?_ ?_
 · simp -dsimp
 · simp -dsimp
 · intro i hi hq
   simp -dsimp [a1e_l9]
   refine ⟨fun hlt => ?_, fun hge => ?_⟩
   · obtain ⟨v, hv⟩ := c7z hlt
     obtain ⟨c, hc⟩ : ∃ c, t[i]? = some c := c7z (by omega)
     simp -dsimp [hv, hc]
     refine ⟨fun e => a5C (b1X v) (by simp) rfl ?_, fun e => b9X hv hc fun h => e h.1⟩
     simp -dsimp
     have h2 := h1.2
     exact ⟨fun e2 => b9X hv hc (by simp [e2]), fun e2 => ⟨hlt, c8z (by omega), hq.succ (b0Y hv hc ⟨e, e2⟩)⟩⟩
   · exact ⟨h1, by omega, fun j hj => hq j (by omega)⟩
end Go.Rt
end

section
namespace Go.Rt
open Go.Vm
def icmp (a b : Int) : Int := if a < b then -1 else if b < a then 1 else 0
def scmp (a b : ByteArray) : Int := if b4Q a b = true then -1 else if a = b then 0 else 1
def Vl.cmp (a b : Vl) : Int := if a.text = true then (if b.text = true then scmp a.s b.s else 1) else if b.text = true then -1 else icmp a.n b.n
theorem b0G (a : ByteArray) : b9l prog true n_a9b [.iv (.v (.string a))] [] (vb false) [] := by
 refine a9D a9b_is (by simp) (by decide) rfl ?_
 simp -dsimp [a0c_string]
theorem b1G (a : Int) : b9l prog true n_a1c [vi a] [] (vb false) [] := by
 refine a9D a1c_is (by simp) (by decide) rfl ?_
 simp -dsimp [a0c_int64]
theorem b2G (a : ByteArray) : b4Q a a = false := by
 unfold b4Q
 generalize a.toList = x
 induction x with
 | nil => rfl
 | cons c x ih => simp [Op.bytesLess, ih]
theorem cmpS (a b : ByteArray) : b9l prog true n_a8a [.iv (.v (.string a)), .iv (.v (.string b))] [] (vi (scmp a b)) [] := by
 refine a9D a8a_is (by simp) (by decide) rfl ?_
 simp -dsimp [a9a_string]
 refine a5C (b0G a) (by simp) rfl ?_
 simp -dsimp
 refine a5C (b0G b) (by simp) rfl ?_
 simp -dsimp [scmp]
 grind
theorem cmpI (a b : Int) : b9l prog true n_a0b [vi a, vi b] [] (vi (icmp a b)) [] := by
 refine a9D a0b_is (by simp) (by decide) rfl ?_
 simp -dsimp [a9a_int64]
 refine a5C (b1G a) (by simp) rfl ?_
 simp -dsimp
 refine a5C (b1G b) (by simp) rfl ?_
 simp -dsimp [icmp]
 grind
theorem b3G (a b : Vl) : b9l prog true n_a2a [a.av, b.av] [] (vi (a.cmp b)) [] := by
 refine a9D a2a_is (by simp) (by decide) rfl ?_
 cases ha : a.text <;> cases hb : b.text <;> simp -dsimp [a2a, ha, hb, Vl.cmp]
 · exact a5C (cmpI a.n b.n) (by simp) rfl (by simp)
 · exact a5C (cmpS a.s b.s) (by simp) rfl (by simp)
theorem b4G : ∀ (p x y : List UInt8), Op.bytesLess (p ++ x) (p ++ y) = Op.bytesLess x y
 | [], x, y => rfl
 | c :: p, x, y => by simp [Op.bytesLess, b4G p x y]
theorem b5G (a : ByteArray) : a.toList = a.data.toList := by simp [ByteArray.toList_eq]
def b6G (a b : ByteArray) (i : Nat) : Prop := i ≤ a.size ∧ i ≤ b.size ∧ ∀ j, j < i → a[j]? = b[j]?
theorem b7G (a : ByteArray) (i : Nat) : a[i]? = a.data.toList[i]? := by
 simp only [Array.getElem?_toList]
 rfl
theorem b6G.split {a b : ByteArray} {i : Nat} (h : b6G a b i) : ∃ p, a.toList = p ++ a.data.toList.drop i ∧ b.toList = p ++ b.data.toList.drop i := by
 refine ⟨a.data.toList.take i, by rw [b5G, List.take_append_drop], ?_⟩
 have : a.data.toList.take i = b.data.toList.take i := by
   apply List.ext_getElem?
   intro j
   simp only [List.getElem?_take]
   split
   · rename_i hj; rw [← b7G, ← b7G]; exact h.2.2 j hj
   · rfl
 rw [this, b5G, List.take_append_drop]
theorem b8G {l : List UInt8} {i : Nat} {c : UInt8} (h : l[i]? = some c) : l.drop i = c :: l.drop (i + 1) := by
 have hi := (List.getElem?_eq_some_iff.1 h).1
 rw [List.drop_eq_getElem_cons hi, (List.getElem?_eq_some_iff.1 h).2]
theorem b6G.lt {a b : ByteArray} {i : Nat} (h : b6G a b i) {c d : UInt8} (h1 : a[i]? = some c) (h2 : b[i]? = some d) (hcd : c < d) : scmp a b = -1 := by
 obtain ⟨p, e1, e2⟩ := h.split
 rw [b7G] at h1 h2
 have : b4Q a b = true := by
   unfold b4Q
   rw [e1, e2, b4G, b8G h1, b8G h2]
   simp -dsimp [Op.bytesLess, hcd]
 simp -dsimp [scmp, this]
theorem b6G.gt {a b : ByteArray} {i : Nat} (h : b6G a b i) {c d : UInt8} (h1 : a[i]? = some c) (h2 : b[i]? = some d) (hcd : d < c) : scmp a b = 1 := by
 obtain ⟨p, e1, e2⟩ := h.split
 have hne : a ≠ b := by
   rintro rfl
   rw [h1] at h2
   cases h2
   exact absurd hcd (by simp)
 rw [b7G] at h1 h2
 have : b4Q a b = false := by
   unfold b4Q
   rw [e1, e2, b4G, b8G h1, b8G h2]
   have : ¬ c < d := by
     have := UInt8.lt_iff_toNat_lt.1 hcd
     rw [UInt8.lt_iff_toNat_lt]; omega
   have h3 : ¬ c = d := by rintro rfl; exact absurd hcd (by simp)
   simp -dsimp [Op.bytesLess, this, h3]
 simp -dsimp [scmp, this, hne]
theorem b9G (a : ByteArray) : a.size = a.data.toList.length := by rw [Array.length_toList]; rfl
theorem b6G.endA {a b : ByteArray} (h : b6G a b a.size) (hl : a.size < b.size) : scmp a b = -1 := by
 obtain ⟨p, e1, e2⟩ := h.split
 have : b4Q a b = true := by
   unfold b4Q
   rw [e1, e2, b4G]
   rw [b9G] at hl ⊢
   simp only [List.drop_length]
   rw [b9G] at hl
   cases hd : b.data.toList.drop a.data.toList.length with
   | nil => have := congrArg List.length hd; simp at this; simp at hl; omega
   | cons x y => rfl
 simp -dsimp [scmp, this]
theorem b6G.endB {a b : ByteArray} (h : b6G a b b.size) (hl : b.size < a.size) : scmp a b = 1 := by
 obtain ⟨p, e1, e2⟩ := h.split
 have hne : a ≠ b := by rintro rfl; omega
 have : b4Q a b = false := by
   unfold b4Q
   rw [e1, e2, b4G]
   rw [b9G]
   simp only [List.drop_length]
   cases (a.data.toList.drop b.data.toList.length) <;> rfl
 simp -dsimp [scmp, this, hne]
theorem b6G.endE {a b : ByteArray} (h : b6G a b a.size) (hl : b.size = a.size) : scmp a b = 0 := by
 obtain ⟨p, e1, e2⟩ := h.split
 have : a = b := by
   have e : a.data.toList = b.data.toList := by
     rw [← b5G, ← b5G, e1, e2]
     congr 1
     rw [b9G]
     rw [b9G, b9G] at hl
     rw [List.drop_length, ← hl, List.drop_length]
   cases a; cases b
   simp only at e
   congr 1
   exact Array.toList_inj.1 e
 subst this
 simp -dsimp [scmp, b2G]
theorem b0H (a b : Vl) (hla : a.s.size < 2 ^ 63) : b9l prog true n_a3a [a.av, b.av] [] (vi (a.cmp b)) [] := by
 refine a9D a3a_is (by simp) (by decide) rfl ?_
 cases ha : a.text <;> cases hb : b.text <;> simp -dsimp [a3a, ha, hb, Vl.cmp]
 · simp -dsimp [icmp]; grind
 · refine a2E [] [] (min a.s.size b.s.size) (fun i => ⟨[(5, vi i), (2, .ptr 2 0), (3, .ptr 3 0)], [(3, .box [.iv (cb true), .iv (ci b.n), .iv (.v (.string b.s))]), (2, .box [.iv (cb true), .iv (ci a.n), .iv (.v (.string a.s))])]⟩)
     (fun i => b6G a.s b.s i) ?_ ?_ ?_
   · simp -dsimp
   · exact ⟨Nat.zero_le _, Nat.zero_le _, fun j hj => absurd hj (Nat.not_lt_zero _)⟩
   · intro i hi hq
     simp -dsimp [a3a_l18]
     have hE : ∀ h : a.s.size ≤ i ∨ b.s.size ≤ i, (a.s.size < b.s.size → -1 = scmp a.s b.s) ∧
           (b.s.size ≤ a.s.size → (b.s.size < a.s.size → 1 = scmp a.s b.s) ∧ (a.s.size ≤ b.s.size → 0 = scmp a.s b.s)) := by
       intro h
       have h1 := hq.1
       have h2 := hq.2.1
       refine ⟨fun g => ?_, fun g => ⟨fun g2 => ?_, fun g2 => ?_⟩⟩
       · have e : i = a.s.size := by omega
         subst e; exact hq.endA g |>.symm
       · have e : i = b.s.size := by omega
         subst e; exact hq.endB g2 |>.symm
       · have e : i = a.s.size := by omega
         subst e; exact (hq.endE (by omega)).symm
     refine ⟨fun h1 => ⟨fun h2 => ?_, fun h2 => hE (.inr h2)⟩, fun h => hE (.inl h)⟩
     obtain ⟨c, hc⟩ : ∃ c, a.s[i]? = some c := ⟨_, getElem?_pos a.s i h1⟩
     obtain ⟨d, hd⟩ : ∃ c, b.s[i]? = some c := ⟨_, getElem?_pos b.s i h2⟩
     simp -dsimp [hc, hd]
     refine ⟨fun g => (hq.lt hc hd (UInt8.lt_iff_toNat_lt.2 g)).symm, fun g => ⟨fun g2 => (hq.gt hc hd (UInt8.lt_iff_toNat_lt.2 g2)).symm, fun g2 => ⟨by omega, c8z (by omega), by omega, by omega, fun j hj => ?_⟩⟩⟩
     by_cases e : j = i
     · subst e; rw [hc, hd]; congr 1; exact UInt8.toNat_inj.1 (by omega)
     · exact hq.2.2 j (by omega)
end Go.Rt
end

section
namespace Go.Rt
open Go.Vm
def Pd.box (p : Pd) : Ob := .box [.iv (ci p.op), .iv (ci p.col), .iv (cb p.v.text), .iv (ci p.v.n), .iv (.v (.string p.v.s)), .iv (cb p.w.text), .iv (ci p.w.n), .iv (.v (.string p.w.s)), .iv (.lst 9 (p.l.map Pd.cells))]
theorem a0A {p : Pd} (h : p.Ok) : b9l prog true n_a1b [p.av] [] (vi (IntKind.i64.wrap p.size)) [] := by
 induction h with
 | mk p hl _ _ hq ih =>
 refine a9D a1b_is (by simp) (by decide) rfl ?_
 simp -dsimp [a1b, Pd.av_eq]
 refine a2E [] [] p.l.length (fun i => ⟨[(4, vi i), (3, vi (IntKind.i64.wrap (1 + Pd.sizes (p.l.take i)))), (1, .ptr 1 0)], [(1, p.box)]⟩)
     (fun _ => True) ?_ trivial ?_
 · simp -dsimp [Pd.box]; rfl
 · intro i hi _
   simp -dsimp [a1b_l6, Pd.box]
   refine ⟨fun hlt => ?_, fun hge => ?_⟩
   · obtain ⟨q, hqi⟩ := c7z hlt
     simp -dsimp [hqi, Pd.cells_eq q]
     refine a5C (ih q (List.mem_of_getElem? hqi)) (by simp [Pd.av_eq]) (by simp [Pd.av_eq]) ?_
     simp -dsimp
     refine ⟨hlt, c8z (by omega), ?_⟩
     rw [c7A, Pd.sizes_take hqi, Int.add_assoc]
   · rw [Pd.size_eq, List.take_of_length_le hge]
mutual
def Pd.fold {σ : Type} (F : Pd → σ → σ) : Pd → σ → σ
 | .mk o c v w l, st => Pd.foldL F l (F (.mk o c v w l) st)
def Pd.foldL {σ : Type} (F : Pd → σ → σ) : List Pd → σ → σ
 | [], st => st
 | p :: r, st => Pd.foldL F r (p.fold F st)
end
theorem Pd.fold_eq {σ : Type} (F : Pd → σ → σ) (p : Pd) (st : σ) : p.fold F st = Pd.foldL F p.l (F p st) := by cases p; rw [Pd.fold]; rfl
theorem Pd.foldL_nil {σ : Type} (F : Pd → σ → σ) (st : σ) : Pd.foldL F [] st = st := by rw [Pd.foldL]
theorem Pd.foldL_take {σ : Type} (F : Pd → σ → σ) : ∀ {l : List Pd} {i : Nat} {p : Pd} (st : σ), l[i]? = some p → Pd.foldL F (l.take (i + 1)) st = p.fold F (Pd.foldL F (l.take i) st)
 | [], i, p, st, h => by cases h
 | q :: r, 0, p, st, h => by
   simp only [List.getElem?_cons_zero, Option.some.injEq] at h; subst h
   simp -dsimp [Pd.foldL]
 | q :: r, i + 1, p, st, h => by
   simp only [List.getElem?_cons_succ] at h
   simp only [List.take_succ_cons, Pd.foldL]
   exact Pd.foldL_take F _ h
theorem a1A {σ : Type} (f : FuncId) (b : Bool) (F : Pd → σ → σ) (cs : σ → List IV) (hf : okFn prog f = true)
   (hdo : ∀ (p : Pd) (st : σ), b9l prog false f (bif b then [.ptr 1000 0, p.av] else [p.av, .ptr 1000 0]) [(1000, .box ((cs st).map .iv))] (.tup []) [(1000, .box ((cs (F p st)).map .iv))]) {p : Pd} (h : p.Ok) :
   ∀ st : σ, b9l prog false n_a9e [p.av, .fn f (bif b then [.ptr 1000 0] else []) (bif b then [] else [.ptr 1000 0])] [(1000, .box ((cs st).map .iv))] (.tup []) [(1000, .box ((cs (p.fold F st)).map .iv))] := by
 induction h with
 | mk p hl _ _ hq ih =>
 intro st
 refine a5F a9e_is (by simp) (by decide) (by simp) rfl ?_
 have hgo : ∀ (i : Nat) (q : Pd), p.l[i]? = some q → IntKind.i64.wrap ((i : Int) + 1) = (i : Int) + 1 := fun i q h => c8z (by have := (List.getElem?_eq_some_iff.1 h).1; omega)
 cases b
 all_goals
   simp -dsimp [b5d, Pd.av_eq, hf]
   refine a8G (hdo p st) rfl (by simp) (by simp [Pd.av_eq]) (by simp [Pd.av_eq]) (by simp) (by simp) (by simp) (by simp) ?_
   simp -dsimp
 · refine a2E [2] [5] p.l.length (fun i => ⟨[(12, vi i), (11, vi p.l.length), (10, .iv (.lst 9 (p.l.map Pd.cells))), (1, .fn f [] [.ptr 1000 0])], [(1000, .box ((cs (Pd.foldL F (p.l.take i) (F p st))).map .iv))]⟩)
     (fun _ => True) ?_ trivial ?_
   · simp -dsimp [Pd.foldL_nil]
   · intro i hi _
     simp -dsimp [a9e_l7]
     refine ⟨fun hlt => ?_, fun hge => ?_⟩
     · obtain ⟨q, hqi⟩ := c7z hlt
       simp -dsimp [hqi, Pd.cells_eq q]
       refine a8G (ih q (List.mem_of_getElem? hqi) (Pd.foldL F (p.l.take i) (F p st))) rfl (by simp) (by simp [Pd.av_eq]) (by simp [Pd.av_eq]) (by simp) (by simp) (by simp) (by simp) ?_
       simp -dsimp [hlt, hgo i q hqi, Pd.foldL_take F _ hqi]
     · simp -dsimp [Pd.fold_eq, List.take_of_length_le hge]
 · refine a2E [2] [5] p.l.length (fun i => ⟨[(12, vi i), (11, vi p.l.length), (10, .iv (.lst 9 (p.l.map Pd.cells))), (1, .fn f [.ptr 1000 0] [])], [(1000, .box ((cs (Pd.foldL F (p.l.take i) (F p st))).map .iv))]⟩)
     (fun _ => True) ?_ trivial ?_
   · simp -dsimp [Pd.foldL_nil]
   · intro i hi _
     simp -dsimp [a9e_l7]
     refine ⟨fun hlt => ?_, fun hge => ?_⟩
     · obtain ⟨q, hqi⟩ := c7z hlt
       simp -dsimp [hqi, Pd.cells_eq q]
       refine a8G (ih q (List.mem_of_getElem? hqi) (Pd.foldL F (p.l.take i) (F p st))) rfl (by simp) (by simp [Pd.av_eq]) (by simp [Pd.av_eq]) (by simp) (by simp) (by simp) (by simp) ?_
       simp -dsimp [hlt, hgo i q hqi, Pd.foldL_take F _ hqi]
     · simp -dsimp [Pd.fold_eq, List.take_of_length_le hge]
theorem a2A (p : Pd) (n : Int) : b9l prog false n_a3f [p.av, .ptr 1000 0] [(1000, .box [vi n])] (.tup []) [(1000, .box [vi (IntKind.i64.wrap (n + 1))])] := by
 refine a5F a3f_is (by simp) (by decide) (by simp) rfl ?_
 simp -dsimp [a3f, Pd.av_eq]
def a3A (_ : Pd) (n : Int) : Int := IntKind.i64.wrap (n + 1)
mutual
theorem a4A : ∀ (p : Pd) (n : Int), p.fold a3A (IntKind.i64.wrap n) = IntKind.i64.wrap (n + p.size)
 | .mk o c v w l, n => by
   rw [Pd.fold, a3A, c8A, a5A l, Pd.size, Int.add_assoc]
theorem a5A : ∀ (l : List Pd) (n : Int), Pd.foldL a3A l (IntKind.i64.wrap n) = IntKind.i64.wrap (n + Pd.sizes l)
 | [], n => by rw [Pd.foldL, Pd.sizes, Int.add_zero]
 | p :: r, n => by rw [Pd.foldL, a4A p, a5A r, Pd.sizes, Int.add_assoc]
end
theorem a6A {p : Pd} (h : p.Ok) : b9l prog true n_a0f [p.av] [] (vi (IntKind.i64.wrap p.size)) [] := by
 refine a9D a0f_is (by simp) (by decide) rfl ?_
 have he := a1A n_a3f false a3A (fun n : Int => [ci n]) (by kernel_rfl) (fun p n => a2A p n) h 0
 rw [Pd.av_eq] at he
 have hr : b9l prog false n_a9e [p.av, .fn n_a3f [] [.ptr 3 0]] [(3, .box [vi 0])] (.tup []) [(3, .box [vi (p.fold a3A 0)])] := by
   rw [Pd.av_eq]; exact he.ren (Ren.swaps [(1000, 3)]) rfl
 have hc : p.fold a3A 0 = IntKind.i64.wrap p.size := by
   have := a4A p 0
   rwa [Int.zero_add, show IntKind.i64.wrap 0 = 0 from rfl] at this
 simp -dsimp [a0f, Pd.av_eq]
 refine a8G hr rfl (by simp) (by simp [Pd.av_eq]) (by simp [Pd.av_eq]) (by simp) (by simp) (by simp) (by simp) ?_
 simp -dsimp [hc]
def a7A (t : Tb) (i : Int) (v : Vl) : Prop := 0 ≤ i ∧ i < t.length ∧ t[i.toNat]? = some v.text ∧ v.right = true
theorem a8A {t : Tb} {k : Nat} {v : Vl} {c : Bool} (hc : t[k]? = some c) : a7A t k v ↔ v.text = c ∧ v.right = true := by
 have hk := (List.getElem?_eq_some_iff.1 hc).1
 unfold a7A
 rw [show (k : Int).toNat = k from rfl, hc]
 constructor
 · rintro ⟨_, _, h, h2⟩; cases h; exact ⟨rfl, h2⟩
 · rintro ⟨h, h2⟩; exact ⟨by omega, by omega, by rw [h], h2⟩
theorem a9A (t : Tb) (w : Bool) (i : Int) (v : Vl) : b9l prog true n_a2f [.iv (.pt [tbIV t, cb w]), vi i, v.av] [] (vb (ofP (a7A t i v))) [] := by
 refine a9D a2f_is (by simp) (by decide) rfl ?_
 simp -dsimp [a8e_of, tbIV]
 refine ⟨fun h1 => ⟨fun h2 => ⟨h1, ?_⟩, fun h2 h => by have := h.2.1; omega⟩, fun h1 h => by have := h.1; omega⟩
 obtain ⟨k, rfl⟩ := Int.eq_ofNat_of_zero_le h1
 obtain ⟨c, hc⟩ : ∃ c, t[k]? = some c := c7z (by omega)
 simp -dsimp [hc]
 refine ⟨fun h3 => a5C (b1X v) (by simp) rfl ?_, fun h3 => ?_⟩
 · simp -dsimp [c3z, a8A hc, h3]
 · simp -dsimp [a8A hc, h3]
def a0B (t : Tb) (p : Pd) : Prop :=
 if p.op = 1 ∨ p.op = 2 then p.l.length = 0
 else if 3 ≤ p.op ∧ p.op ≤ 8 then p.l.length = 0 ∧ a7A t p.col p.v
 else if p.op = 9 then p.l.length = 0 ∧ a7A t p.col p.v ∧ a7A t p.col p.w
 else if p.op = 10 then p.l.length = 1
 else if p.op = 11 ∨ p.op = 12 then 0 < p.l.length
 else False
theorem a1B (t : Tb) (p : Pd) (w : Bool) : b9l prog false n_a7e [.ptr 1000 0, p.av] [(1000, .box [.iv (tbIV t), vb w])] (.tup []) [(1000, .box [.iv (tbIV t), vb (w || !ofP (a0B t p))])] := by
 refine a5F a7e_is (by simp) (by decide) (by simp) rfl ?_
 have hop : (p.op = 1 ∨ p.op = 2) ∨ (p.op = 3 ∨ p.op = 4 ∨ p.op = 5 ∨ p.op = 6 ∨ p.op = 7 ∨ p.op = 8) ∨ p.op = 9 ∨ p.op = 10 ∨ (p.op = 11 ∨ p.op = 12) ∨ (p.op < 1 ∨ 12 < p.op) := by omega
 have len0 : ((p.l.length : Int) == 0) = ofP (p.l.length = 0) := by rw [c3z, beq_iff_eq]; omega
 have len1 : ((p.l.length : Int) == 1) = ofP (p.l.length = 1) := by rw [c3z, beq_iff_eq]; omega
 have lenp : (decide (0 < (p.l.length : Int))) = ofP (0 < p.l.length) := by rw [c3z, decide_eq_true_eq]; omega
 rcases hop with h | h | h | h | h | h
 · have e : a0B t p ↔ p.l.length = 0 := by unfold a0B; rw [if_pos h]
   rcases h with h | h <;> simp -dsimp [a8e_part, Pd.av_eq, h, len0, e] <;> cases w <;> simp
 · have e : a0B t p ↔ p.l.length = 0 ∧ a7A t p.col p.v := by
     unfold a0B; rw [if_neg (by omega), if_pos (by omega)]
   rcases h with h | h | h | h | h | h
   all_goals
     simp -dsimp [a8e_part, Pd.av_eq, h, len0, e]
     refine ⟨fun h0 => ?_, fun h0 => ?_⟩
     · refine a5C (a9A t w p.col p.v) (by simp) (by simp) ?_
       simp -dsimp [h0]
       cases w <;> simp
     · simp -dsimp [h0]
       try (cases w <;> simp)
 · have e : a0B t p ↔ p.l.length = 0 ∧ a7A t p.col p.v ∧ a7A t p.col p.w := by
     unfold a0B; rw [if_neg (by omega), if_neg (by omega), if_pos (by omega)]
   simp -dsimp [a8e_part, Pd.av_eq, h, len0, e]
   refine ⟨fun h0 => ?_, fun h0 => ?_⟩
   · refine a5C (a9A t w p.col p.v) (by simp) (by simp) ?_
     simp -dsimp
     refine ⟨fun h1 => ?_, fun h1 => ?_⟩
     · refine a5C (a9A t w p.col p.w) (by simp) (by simp) ?_
       simp -dsimp [h0, h1]
       cases w <;> simp
     · simp -dsimp [h0, h1]
       try (cases w <;> simp)
   · simp -dsimp [h0]
     try (cases w <;> simp)
 · have e : a0B t p ↔ p.l.length = 1 := by
     unfold a0B; rw [if_neg (by omega), if_neg (by omega), if_neg (by omega), if_pos h]
   simp -dsimp [a8e_part, Pd.av_eq, h, len1, e]
   cases w <;> simp
 · have e : a0B t p ↔ 0 < p.l.length := by
     unfold a0B; rw [if_neg (by omega), if_neg (by omega), if_neg (by omega), if_neg (by omega), if_pos h]
   rcases h with h | h <;> simp -dsimp [a8e_part, Pd.av_eq, h, lenp, e] <;> cases w <;> simp [c3z]
 · have e : ¬a0B t p := by
     unfold a0B; rw [if_neg (by omega), if_neg (by omega), if_neg (by omega), if_neg (by omega), if_neg (by omega)]; exact id
   have ne : ∀ k : Int, 1 ≤ k → k ≤ 12 → (p.op == k) = false := fun k h1 h2 => by rw [beq_eq_false_iff_ne]; omega
   simp -dsimp [a8e_part, Pd.av_eq, e, ne]
mutual
def Pd.AllOk (t : Tb) : Pd → Prop
 | .mk o c v w l => a0B t (.mk o c v w l) ∧ Pd.AllOkL t l
def Pd.AllOkL (t : Tb) : List Pd → Prop
 | [] => True
 | p :: r => p.AllOk t ∧ Pd.AllOkL t r
end
noncomputable def a2B (t : Tb) (p : Pd) (w : Bool) : Bool := w || !ofP (a0B t p)
mutual
theorem a3B (t : Tb) : ∀ (p : Pd) (w : Bool), p.fold (a2B t) w = (w || !ofP (p.AllOk t))
 | .mk o c v w l, b => by
   rw [Pd.fold, a2B, a4B t l, Pd.AllOk, Bool.eq_iff_iff]
   simp only [Bool.or_eq_true, Bool.not_eq_true', c2z]
   grind
theorem a4B (t : Tb) : ∀ (l : List Pd) (w : Bool), Pd.foldL (a2B t) l w = (w || !ofP (Pd.AllOkL t l))
 | [], b => by rw [Pd.foldL, Pd.AllOkL]; cases b <;> simp
 | p :: r, b => by
   rw [Pd.foldL, a3B t p, a4B t r, Pd.AllOkL, Bool.eq_iff_iff]
   simp only [Bool.or_eq_true, Bool.not_eq_true', c2z]
   grind
end
def PdOk (t : Tb) (p : Pd) : Prop := TbOk t ∧ IntKind.i64.wrap p.size ≤ 15 ∧ p.AllOk t
noncomputable def a5B (t : Tb) (p : Pd) : Int := if ofP (TbOk t) = true then (if ofP (PdOk t p) = true then 0 else 30) else 1
@[simp] theorem a6B (t : Tb) (p : Pd) : (a5B t p != 0) = !ofP (PdOk t p) := by
 unfold a5B
 by_cases h : TbOk t
 · rw [if_pos (c1z.2 h)]; cases ofP (PdOk t p) <;> rfl
 · rw [if_neg (by simpa using h)]
   have : ofP (PdOk t p) = false := c2z.2 fun g => h g.1
   rw [this]; rfl
theorem a7B (t : Tb) {p : Pd} (h : p.Ok) : b9l prog true n_a0e [tbAV t, p.av] [] (vi (a5B t p)) [] := by
 refine a9D a0e_is (by simp) (by decide) rfl ?_
 have he := a1A n_a7e true (a2B t) (fun w : Bool => [tbIV t, cb w]) (by kernel_rfl) (fun p w => a1B t p w) h false
 rw [Pd.av_eq] at he
 have hr : b9l prog false n_a9e [p.av, .fn n_a7e [.ptr 15 0] []] [(15, .box [.iv (tbIV t), vb false])] (.tup []) [(15, .box [.iv (tbIV t), vb (p.fold (a2B t) false)])] := by
   rw [Pd.av_eq]; exact he.ren (Ren.swaps [(1000, 15)]) rfl
 rw [a3B, Bool.false_or] at hr
 simp -dsimp [a0e, Pd.av_eq, tbAV]
 refine a5C (b7X t) (by simp [tbAV]) (by simp [tbAV]) ?_
 simp -dsimp
 refine ⟨fun h1 => ?_, fun h1 => ?_⟩
 · simp [a5B, b2X, h1]
 · refine a8G hr rfl (by simp) (by simp [Pd.av_eq]) (by simp [Pd.av_eq]) (by simp) (by simp) (by simp) (by simp) ?_
   simp -dsimp
   refine ⟨fun h2 => ?_, fun h2 => ?_⟩
   · refine a5C (a6A h) (by simp [Pd.av_eq]) (by simp [Pd.av_eq]) ?_
     simp -dsimp
     rw [a5B, if_pos (c1z.2 h1)]
     refine ⟨fun h3 => ?_, fun h3 => ?_⟩
     · rw [if_neg (by simp only [c1z]; intro g; have := g.2.1; omega)]
     · rw [if_pos (by simp only [c1z]; exact ⟨h1, h3, h2⟩)]
   · rw [a5B, if_pos (c1z.2 h1), if_neg (by simp only [c1z]; intro g; exact h2 g.2.2)]
end Go.Rt
end

section
namespace Go.Rt
open Go.Vm
instance : DecidableEq Vl := fun a b =>
 if h : a.text = b.text ∧ a.n = b.n ∧ a.s = b.s then .isTrue (by cases a; cases b; simp_all) else .isFalse (by rintro rfl; exact h ⟨rfl, rfl, rfl⟩)
theorem Vl.eq_iff {a b : Vl} : a = b ↔ a.text = b.text ∧ a.n = b.n ∧ a.s = b.s := by
 constructor
 · rintro rfl; exact ⟨rfl, rfl, rfl⟩
 · intro h; cases a; cases b; simp_all
structure Vs where
 txn : Int
 n : Int
 deriving DecidableEq
@[simp] def Vs.cells (v : Vs) : List IV := [ci v.txn, ci v.n]
abbrev Vs.av (v : Vs) : AV := .agg (v.cells.map .iv)
theorem Vs.eq_iff {a b : Vs} : a = b ↔ a.txn = b.txn ∧ a.n = b.n := by
 constructor
 · rintro rfl; exact ⟨rfl, rfl⟩
 · intro h; cases a; cases b; simp_all
structure Rf where
 key : Vl
 frm : Vs
def Rf.cells (r : Rf) : List IV := [cb r.key.text, ci r.key.n, .v (.string r.key.s), ci r.frm.txn, ci r.frm.n]
theorem Rf.cells_eq (r : Rf) : r.cells = [cb r.key.text, ci r.key.n, .v (.string r.key.s), ci r.frm.txn, ci r.frm.n] := rfl
structure Ev where
 txn : Int
 kind : Int
 level : Int
 table : Int
 key : Vl
 frm : Vs
 n : Int
 row : List Vl
 pred : Pd
 refs : List Rf
 cur : Bool
def rowC (r : List Vl) : List (List IV) := r.map Vl.cells
def c8t (r : List Rf) : List (List IV) := r.map Rf.cells
@[simp] theorem rowC_len (r : List Vl) : (rowC r).length = r.length := by simp [rowC]
@[simp] theorem rowC_get (r : List Vl) (i : Nat) : (rowC r)[i]? = (r[i]?).map Vl.cells := by simp [rowC]
@[simp] theorem c9t (r : List Rf) : (c8t r).length = r.length := by simp [c8t]
@[simp] theorem c0u (r : List Rf) (i : Nat) : (c8t r)[i]? = (r[i]?).map Rf.cells := by simp [c8t]
def Ev.cells (e : Ev) : List IV := ci e.txn :: ci e.kind :: ci e.level :: ci e.table :: cb e.key.text :: ci e.key.n :: .v (.string e.key.s) :: ci e.frm.txn :: ci e.frm.n :: ci e.n :: .lst 3 (rowC e.row) :: (e.pred.cells ++ [.lst 5 (c8t e.refs), cb e.cur])
theorem Ev.cells_eq (e : Ev) : e.cells = [ci e.txn, ci e.kind, ci e.level, ci e.table, cb e.key.text, ci e.key.n, .v (.string e.key.s), ci e.frm.txn, ci e.frm.n, ci e.n, .lst 3 (rowC e.row),
   ci e.pred.op, ci e.pred.col, cb e.pred.v.text, ci e.pred.v.n, .v (.string e.pred.v.s), cb e.pred.w.text, ci e.pred.w.n, .v (.string e.pred.w.s), .lst 9 (e.pred.l.map Pd.cells), .lst 5 (c8t e.refs), cb e.cur] := by
 unfold Ev.cells; rw [Pd.cells_eq]; rfl
@[simp] theorem Ev.len (e : Ev) : e.cells.length = 22 := by rw [Ev.cells_eq]; rfl
theorem Ev.at (e : Ev) (i : Nat) : e.cells[i]? = ([ci e.txn, ci e.kind, ci e.level, ci e.table, cb e.key.text, ci e.key.n, .v (.string e.key.s), ci e.frm.txn, ci e.frm.n, ci e.n, .lst 3 (rowC e.row),
   ci e.pred.op, ci e.pred.col, cb e.pred.v.text, ci e.pred.v.n, .v (.string e.pred.v.s), cb e.pred.w.text, ci e.pred.w.n, .v (.string e.pred.w.s), .lst 9 (e.pred.l.map Pd.cells), .lst 5 (c8t e.refs), cb e.cur] : List IV)[i]? := by rw [Ev.cells_eq]
theorem c1u {l : List IV} {i : Nat} {x : IV} {h : i < l.length} (e : l[i]? = some x) : l[i] = x := (List.getElem?_eq_some_iff.1 e).2
section
variable (e : Ev)
@[simp] theorem Ev.g0 {h} : e.cells[0]'h = ci e.txn := c1u (by rw [Ev.at]; rfl)
@[simp] theorem Ev.g1 {h} : e.cells[1]'h = ci e.kind := c1u (by rw [Ev.at]; rfl)
@[simp] theorem Ev.g2 {h} : e.cells[2]'h = ci e.level := c1u (by rw [Ev.at]; rfl)
@[simp] theorem Ev.g3 {h} : e.cells[3]'h = ci e.table := c1u (by rw [Ev.at]; rfl)
@[simp] theorem Ev.g4 {h} : e.cells[4]'h = cb e.key.text := c1u (by rw [Ev.at]; rfl)
@[simp] theorem Ev.g5 {h} : e.cells[5]'h = ci e.key.n := c1u (by rw [Ev.at]; rfl)
@[simp] theorem Ev.g6 {h} : e.cells[6]'h = .v (.string e.key.s) := c1u (by rw [Ev.at]; rfl)
@[simp] theorem Ev.g7 {h} : e.cells[7]'h = ci e.frm.txn := c1u (by rw [Ev.at]; rfl)
@[simp] theorem Ev.g8 {h} : e.cells[8]'h = ci e.frm.n := c1u (by rw [Ev.at]; rfl)
@[simp] theorem Ev.g9 {h} : e.cells[9]'h = ci e.n := c1u (by rw [Ev.at]; rfl)
@[simp] theorem Ev.g10 {h} : e.cells[10]'h = .lst 3 (rowC e.row) := c1u (by rw [Ev.at]; rfl)
@[simp] theorem Ev.g20 {h} : e.cells[20]'h = .lst 5 (c8t e.refs) := c1u (by rw [Ev.at]; rfl)
@[simp] theorem Ev.g21 {h} : e.cells[21]'h = cb e.cur := c1u (by rw [Ev.at]; rfl)
@[simp] theorem Ev.q0 : e.cells[0]? = some (ci e.txn) := by rw [Ev.at]; rfl
@[simp] theorem Ev.q1 : e.cells[1]? = some (ci e.kind) := by rw [Ev.at]; rfl
@[simp] theorem Ev.q2 : e.cells[2]? = some (ci e.level) := by rw [Ev.at]; rfl
@[simp] theorem Ev.q3 : e.cells[3]? = some (ci e.table) := by rw [Ev.at]; rfl
@[simp] theorem Ev.q4 : e.cells[4]? = some (cb e.key.text) := by rw [Ev.at]; rfl
@[simp] theorem Ev.q5 : e.cells[5]? = some (ci e.key.n) := by rw [Ev.at]; rfl
@[simp] theorem Ev.q6 : e.cells[6]? = some (.v (.string e.key.s)) := by rw [Ev.at]; rfl
@[simp] theorem Ev.q7 : e.cells[7]? = some (ci e.frm.txn) := by rw [Ev.at]; rfl
@[simp] theorem Ev.q8 : e.cells[8]? = some (ci e.frm.n) := by rw [Ev.at]; rfl
@[simp] theorem Ev.q9 : e.cells[9]? = some (ci e.n) := by rw [Ev.at]; rfl
@[simp] theorem Ev.q10 : e.cells[10]? = some (.lst 3 (rowC e.row)) := by rw [Ev.at]; rfl
@[simp] theorem Ev.q20 : e.cells[20]? = some (.lst 5 (c8t e.refs)) := by rw [Ev.at]; rfl
@[simp] theorem Ev.q21 : e.cells[21]? = some (cb e.cur) := by rw [Ev.at]; rfl
@[simp] theorem Ev.key_at : List.take 3 (List.drop 4 (e.cells.map AV.iv)) = [.iv (cb e.key.text), .iv (ci e.key.n), .iv (.v (.string e.key.s))] := by rw [Ev.cells_eq]; rfl
@[simp] theorem Ev.frm_at : List.take 2 (List.drop 7 (e.cells.map AV.iv)) = [.iv (ci e.frm.txn), .iv (ci e.frm.n)] := by rw [Ev.cells_eq]; rfl
@[simp] theorem Ev.pred_at : List.take 9 (List.drop 11 (e.cells.map AV.iv)) = e.pred.cells.map AV.iv := by rw [Ev.cells_eq, Pd.cells_eq]; rfl
@[simp] theorem Ev.take_all : List.take 22 e.cells = e.cells := List.take_of_length_le (by simp)
@[simp] theorem Ev.take_alla : List.take 22 (e.cells.map AV.iv) = e.cells.map AV.iv := List.take_of_length_le (by simp)
end
def Ev.av (e : Ev) : AV := .agg (e.cells.map .iv)
structure Ins where
 table : Int
 key : Vl
 txns : List Int
def Ins.cells (o : Ins) : List IV := [ci o.table, cb o.key.text, ci o.key.n, .v (.string o.key.s), .lst 1 (c0A o.txns)]
theorem Ins.cells_eq (o : Ins) : o.cells = [ci o.table, cb o.key.text, ci o.key.n, .v (.string o.key.s), .lst 1 (c0A o.txns)] := rfl
structure Hs where
 tables : List Tb
 events : List Ev
 order : List Ins
def tbsC (l : List Tb) : List (List IV) := l.map fun t => [tbIV t]
def evsC (l : List Ev) : List (List IV) := l.map Ev.cells
def insC (l : List Ins) : List (List IV) := l.map Ins.cells
@[simp] theorem tbsC_len (l : List Tb) : (tbsC l).length = l.length := by simp [tbsC]
@[simp] theorem tbsC_get (l : List Tb) (i : Nat) : (tbsC l)[i]? = (l[i]?).map fun t => [tbIV t] := by simp [tbsC]
@[simp] theorem evsC_len (l : List Ev) : (evsC l).length = l.length := by simp [evsC]
@[simp] theorem evsC_get (l : List Ev) (i : Nat) : (evsC l)[i]? = (l[i]?).map Ev.cells := by simp [evsC]
@[simp] theorem insC_len (l : List Ins) : (insC l).length = l.length := by simp [insC]
@[simp] theorem insC_get (l : List Ins) (i : Nat) : (insC l)[i]? = (l[i]?).map Ins.cells := by simp [insC]
def Hs.cells (h : Hs) : List IV := [.lst 1 (tbsC h.tables), .lst 22 (evsC h.events), .lst 5 (insC h.order)]
def Hs.av (h : Hs) : AV := .agg [.iv (.lst 1 (tbsC h.tables)), .iv (.lst 22 (evsC h.events)), .iv (.lst 5 (insC h.order))]
structure Ev.Ok (e : Ev) : Prop where
 row : e.row.length < 2 ^ 63
 refs : e.refs.length < 2 ^ 63
 pred : e.pred.Ok
 key : e.key.s.size < 2 ^ 63
 rkey : ∀ r, r ∈ e.refs → r.key.s.size < 2 ^ 63
structure Hs.Ok (h : Hs) : Prop where
 tables : h.tables.length < 2 ^ 63
 events : h.events.length < 2 ^ 63
 order : h.order.length < 2 ^ 63
 ev : ∀ e, e ∈ h.events → e.Ok
 txns : ∀ o, o ∈ h.order → o.txns.length < 2 ^ 63
 tb : ∀ t, t ∈ h.tables → t.length < 2 ^ 63
 cols : ∀ o, o ∈ h.order → o.key.s.size < 2 ^ 63
def Ev.isW (txn table : Int) (k : Vl) (e : Ev) : Bool := decide (e.kind = 3) && decide (e.txn = txn) && decide (e.table = table) && decide (e.key = k)
theorem Ev.isW_iff {e : Ev} {txn table : Int} {k : Vl} : e.isW txn table k = true ↔ e.kind = 3 ∧ e.txn = txn ∧ e.table = table ∧ e.key.text = k.text ∧ e.key.n = k.n ∧ e.key.s = k.s := by
 unfold Ev.isW
 simp only [Bool.and_eq_true, decide_eq_true_eq, Vl.eq_iff, and_assoc]
def c2u (es : List Ev) (txn table : Int) (k : Vl) : Nat := (es.filter (Ev.isW txn table k)).length
theorem c3u {es : List Ev} {i : Nat} {e : Ev} (h : es[i]? = some e) (txn table : Int) (k : Vl) : c2u (es.take (i + 1)) txn table k = c2u (es.take i) txn table k + if e.isW txn table k = true then 1 else 0 := by
 have : es.take (i + 1) = es.take i ++ [e] := by rw [List.take_add_one, h]; rfl
 rw [this]
 unfold c2u
 rw [List.filter_append, List.length_append]
 congr 1
 cases hw : e.isW txn table k <;> simp [hw]
theorem c4u (es : List Ev) (txn table : Int) (k : Vl) : c2u es txn table k ≤ es.length := List.length_filter_le _ _
theorem c5u {p q : Prop} : ofP p = ofP q ↔ (p ↔ q) := by rw [c3z, c1z]
theorem c6u {p q : Prop} [Decidable q] : decide q = ofP p ↔ (q ↔ p) := by rw [c3z, decide_eq_true_eq]
theorem c7u {α : Type} {l : List α} {i : Nat} {x : α} (h : l[i]? = some x) : l.take (i + 1) = l.take i ++ [x] := by
 rw [List.take_add_one, h]; rfl
def c8u (es : List Ev) (txn : Int) : Prop := ∃ x, x ∈ es ∧ x.txn = txn
def c9u (es : List Ev) (txn : Int) : Prop := ∀ x, x ∈ es → x.txn = txn → x.kind ≠ 5 ∧ x.kind ≠ 6
@[simp] theorem c0v {txn : Int} : c8u [] txn ↔ False := by unfold c8u; simp
@[simp] theorem c1v {txn : Int} : c9u [] txn := fun _ h => by cases h
theorem c2v {es : List Ev} {e : Ev} {txn : Int} : c8u (es ++ [e]) txn ↔ c8u es txn ∨ e.txn = txn := by
 unfold c8u
 constructor
 · rintro ⟨x, h, h2⟩
   rcases List.mem_append.1 h with h | h
   · exact .inl ⟨x, h, h2⟩
   · simp only [List.mem_singleton] at h; subst h; exact .inr h2
 · rintro (⟨x, h, h2⟩ | h)
   · exact ⟨x, List.mem_append_left _ h, h2⟩
   · exact ⟨e, by simp, h⟩
theorem c3v {es : List Ev} {e : Ev} {txn : Int} : c9u (es ++ [e]) txn ↔ c9u es txn ∧ (e.txn = txn → e.kind ≠ 5 ∧ e.kind ≠ 6) := by
 unfold c9u
 constructor
 · intro h; exact ⟨fun x hx => h x (List.mem_append_left _ hx), h e (by simp)⟩
 · rintro ⟨h, h2⟩ x hx
   rcases List.mem_append.1 hx with hx | hx
   · exact h x hx
   · simp only [List.mem_singleton] at hx; subst hx; exact h2
theorem c9u.take {es : List Ev} {i a : Nat} {txn : Int} (h : c9u (es.take a) txn) (hi : i ≤ a) : c9u (es.take i) txn := fun x hx => h x ((List.take_subset_take_left es hi) hx)
def c4v (es : List Ev) (e : Ev) : Prop := 1 ≤ e.txn ∧ 1 ≤ e.kind ∧ e.kind ≤ 6 ∧ c9u es e.txn ∧ (e.kind = 1 → ¬c8u es e.txn ∧ 1 ≤ e.level ∧ e.level ≤ 5) ∧ (e.kind ≠ 1 → c8u es e.txn)
end Go.Rt
end

section
namespace Go.Rt
open Go.Vm
def Ev.ends (txn : Int) (e : Ev) : Prop := e.txn = txn ∧ (e.kind = 5 ∨ e.kind = 6)
instance (txn : Int) (e : Ev) : Decidable (e.ends txn) := by unfold Ev.ends; exact inferInstance
def b8r : List Ev → Int → Int
 | [], _ => 0
 | e :: r, txn => if e.ends txn then e.kind else b8r r txn
theorem b9r : ∀ {es : List Ev} {txn : Int}, (∀ e, e ∈ es → ¬e.ends txn) → b8r es txn = 0
 | [], _, _ => rfl
 | e :: r, txn, h => by rw [b8r, if_neg (h e List.mem_cons_self)]; exact b9r fun x hx => h x (List.mem_cons_of_mem _ hx)
theorem b0s : ∀ {es : List Ev} {i : Nat} {e : Ev} {txn : Int}, (∀ j, j < i → ∀ x, es[j]? = some x → ¬x.ends txn) → es[i]? = some e → e.ends txn → b8r es txn = e.kind
 | [], i, e, txn, _, h, _ => by cases h
 | x :: r, 0, e, txn, _, h, he => by simp only [List.getElem?_cons_zero, Option.some.injEq] at h; subst h; rw [b8r, if_pos he]
 | x :: r, i + 1, e, txn, hn, h, he => by
   rw [b8r, if_neg (hn 0 (by omega) x rfl)]
   exact b0s (i := i) (fun j hj y hy => hn (j + 1) (by omega) y (by simpa using hy)) (by simpa using h) he
theorem b1s {h : Hs} (hok : h.Ok) (txn : Int) : b9l prog true n_a7a [h.av, vi txn] [] (vi (b8r h.events txn)) [] := by
 refine a9D a7a_is (by simp) (by decide) rfl ?_
 simp -dsimp [a7a, Hs.av]
 refine a2E [] [6] h.events.length (fun i => ⟨[(5, vi i), (1, vi txn), (2, .ptr 2 0)], [(2, .box [.iv (.lst 1 (tbsC h.tables)), .iv (.lst 22 (evsC h.events)), .iv (.lst 5 (insC h.order))])]⟩)
   (fun i => Upto i fun j => ∀ e, h.events[j]? = some e → ¬e.ends txn) ?_ ?_ ?_
 · simp -dsimp
 · simp
 · intro i hi hq
   have hev := hok.events
   simp -dsimp [a7a_l7]
   refine ⟨fun h2 => ?_, fun h2 => ?_⟩
   · obtain ⟨e, he⟩ := c7z h2
     have hw := c8z (n := (i : Int) + 1) (by omega)
     have hS : (e.txn = txn ∧ (e.kind = 5 ∨ e.kind = 6)) → e.kind = b8r h.events txn := fun hh => (b0s (i := i) (fun j hj => hq j hj) he hh).symm
     have hN : ¬(e.txn = txn ∧ (e.kind = 5 ∨ e.kind = 6)) → Upto (i + 1) fun j => ∀ e, h.events[j]? = some e → ¬e.ends txn := fun hn => hq.succ fun x hx => by rw [he] at hx; cases hx; exact hn
     simp -dsimp [he]
     rw [hw]
     grind
   · exact (b9r fun e he => by
       obtain ⟨j, hj⟩ := List.getElem?_of_mem he
       exact hq j (Nat.lt_of_lt_of_le (List.getElem?_eq_some_iff.1 hj).1 h2) e hj).symm
def b2s (h : Hs) (table : Int) (k : Vl) : Prop := 0 ≤ table ∧ ∃ t, h.tables[table.toNat]? = some t ∧ k.right = true ∧ t[0]? = some k.text
def Hs.TbsOk (h : Hs) : Prop := ∀ t, t ∈ h.tables → TbOk t
def b3s (es : List Ev) (table : Int) (k : Vl) (v : Vs) : Prop := 1 ≤ v.n ∧ v.n ≤ c2u es v.txn table k
end Go.Rt
end

section
namespace Go.Rt
open Go.Vm
def b5v (h : Hs) (es : List Ev) (e : Ev) : Prop := b2s h e.table e.key ∧ e.n = c2u es e.txn e.table e.key + 1 ∧ (e.row = [] ∨ ∃ t, h.tables[e.table.toNat]? = some t ∧ Fits t e.row ∧ e.row[0]? = some e.key)
def b6v (h : Hs) (es : List Ev) (e : Ev) : Prop := b2s h e.table e.key ∧
 if 0 < c2u es e.txn e.table e.key then e.frm = ⟨e.txn, c2u es e.txn e.table e.key⟩ else e.frm = ⟨0, 0⟩ ∨ b3s es e.table e.key e.frm
def b7v (h : Hs) (es : List Ev) (e : Ev) (i : Nat) : Prop := ∀ r, e.refs[i]? = some r → b2s h e.table r.key ∧ b3s es e.table r.key r.frm ∧ (∀ q, 0 < i → e.refs[i - 1]? = some q → q.key.cmp r.key < 0)
def SeenAt (es : List Ev) (e : Ev) (x : Ev) : Prop := x.kind = 3 → x.txn = e.txn → x.table = e.table → ∃ r, r ∈ e.refs ∧ r.key = x.key ∧ r.frm = ⟨e.txn, c2u es e.txn e.table x.key⟩
def b8v (h : Hs) (es : List Ev) (e : Ev) : Prop := (0 ≤ e.table ∧ ∃ t, h.tables[e.table.toNat]? = some t ∧ PdOk t e.pred) ∧ Upto e.refs.length (b7v h es e) ∧ ∀ x, x ∈ es → SeenAt es e x
def b9v (l : List Rf) (k : Vl) (v : Vs) : Prop := ∃ r, r ∈ l ∧ r.key = k ∧ r.frm = v
@[simp] theorem b0w {k : Vl} {v : Vs} : b9v [] k v ↔ False := by unfold b9v; simp
theorem b1w {l : List Rf} {q : Rf} {k : Vl} {v : Vs} : b9v (l ++ [q]) k v ↔ b9v l k v ∨ ((q.key.text = k.text ∧ q.key.n = k.n ∧ q.key.s = k.s) ∧ q.frm.txn = v.txn ∧ q.frm.n = v.n) := by
 unfold b9v
 rw [← Vl.eq_iff, ← Vs.eq_iff]
 constructor
 · rintro ⟨r, hr, g⟩
   rcases List.mem_append.1 hr with hr | hr
   · exact .inl ⟨r, hr, g⟩
   · simp only [List.mem_singleton] at hr; subst hr; exact .inr g
 · rintro (⟨r, hr, g⟩ | g)
   · exact ⟨r, List.mem_append_left _ hr, g⟩
   · exact ⟨q, by simp, g⟩
end Go.Rt
end

section
namespace Go.Rt
open Go.Vm
def b6u (h : Hs) (es : List Ev) (e : Ev) : Prop := c4v es e ∧ (e.kind = 2 → b6v h es e) ∧ (e.kind = 3 → b5v h es e) ∧ (e.kind = 4 → b8v h es e)
theorem b7u {h : Hs} (hok : h.Ok) (txn : Int) : b9l prog true n_a1a [h.av, vi txn] [] (vb (decide (b8r h.events txn = 5))) [] := by
 refine a9D a1a_is (by simp) (by decide) rfl ?_
 simp -dsimp [a1a, Hs.av]
 refine a5C (b1s hok txn) (by simp [Hs.av]) (by simp [Hs.av]) ?_
 simp -dsimp
 rfl
def Ins.isOf (table : Int) (k : Vl) (o : Ins) : Prop := o.table = table ∧ o.key = k
def b8u (h : Hs) (e : Ev) : Prop := e.kind = 3 → b8r h.events e.txn = 5 → ∃ o, o ∈ h.order ∧ o.isOf e.table e.key ∧ e.txn ∈ o.txns
def b9u (h : Hs) (a : Nat) (o : Ins) : Prop := (∀ x, x ∈ h.order.take a → ¬x.isOf o.table o.key) ∧
 (Upto o.txns.length fun i => ∀ t, o.txns[i]? = some t → b8r h.events t = 5 ∧ c2u h.events t o.table o.key ≠ 0 ∧ t ∉ o.txns.take i) ∧ 0 < o.txns.length
def b0v (h : Hs) : Prop := (1 ≤ h.tables.length ∧ h.tables.length ≤ 3) ∧ h.TbsOk
def b1v (h : Hs) : Prop := b0v h ∧ (Upto h.events.length fun i => ∀ e, h.events[i]? = some e → b6u h (h.events.take i) e ∧ b8u h e) ∧ Upto h.order.length fun i => ∀ o, h.order[i]? = some o → b9u h i o
end Go.Rt
end

section
namespace Go.Rt
open Go.Vm
mutual
def Pd.Flat (d : Int) : Pd → Prop
 | .mk o c v w l => d ≤ 6 ∧ l.length ≤ 6 ∧ Pd.FlatL (d + 1) l ∧ IntKind.i64.wrap (Pd.size (.mk o c v w l)) ≤ 30
def Pd.FlatL (d : Int) : List Pd → Prop
 | [] => True
 | p :: r => p.Flat d ∧ Pd.FlatL d r
end
theorem Pd.flat_eq (d : Int) (p : Pd) : p.Flat d ↔ d ≤ 6 ∧ p.l.length ≤ 6 ∧ Pd.FlatL (d + 1) p.l ∧ IntKind.i64.wrap p.size ≤ 30 := by cases p; rw [Pd.Flat]; rfl
theorem Pd.flatL_iff (d : Int) : ∀ l : List Pd, Pd.FlatL d l ↔ ∀ p, p ∈ l → p.Flat d
 | [] => by simp [Pd.FlatL]
 | p :: r => by simp [Pd.FlatL, Pd.flatL_iff d r]
theorem c6t {p : Pd} (h : p.Ok) : ∀ d : Int, 0 ≤ d → b9l prog true n_a4a [p.av, vi d] [] (vb (ofP (p.Flat d))) [] := by
 induction h with
 | mk p hl hv hw hq ih =>
 intro d hd
 refine a9D a4a_is (by simp) (by decide) rfl ?_
 by_cases h1 : d ≤ 6
 · by_cases h2 : p.l.length ≤ 6
   · have n1 : ¬6 < d := by omega
     have n2 : ¬(6 : Int) < p.l.length := by omega
     simp -dsimp [b3d, Pd.av_eq, n1, n2]
     refine a2E [] [] p.l.length (fun i => ⟨[(5, vi i), (1, vi d), (2, .ptr 2 0)], [(2, p.box)]⟩) (fun i => Upto i fun j => ∀ q, p.l[j]? = some q → q.Flat (d + 1)) ?_ ?_ ?_
     · simp -dsimp [Pd.box]
     · exact c6z
     · intro i hi hqq
       simp -dsimp [a4a_l9, Pd.box]
       refine ⟨fun hlt => ?_, fun hge => ?_⟩
       · obtain ⟨q, hqi⟩ := c7z hlt
         have hw := c8z (n := (i : Int) + 1) (by omega)
         have hwd := c8z (n := d + 1) (by omega)
         simp -dsimp [hqi, Pd.cells_eq q, hwd]
         refine a5C (ih q (List.mem_of_getElem? hqi) (d + 1) (by omega)) (by simp [Pd.av_eq]) (by simp [Pd.av_eq]) ?_
         simp -dsimp [hw]
         exact ⟨fun g g2 => g ((Pd.flatL_iff _ _).1 ((Pd.flat_eq d p).1 g2).2.2.1 q (List.mem_of_getElem? hqi)), fun g => ⟨hlt, hqq.succ fun q' hq' => by rw [hqi] at hq'; cases hq'; exact g⟩⟩
       · have hall : Pd.FlatL (d + 1) p.l := (Pd.flatL_iff _ _).2 fun q hqm => by
           obtain ⟨j, hj⟩ := List.getElem?_of_mem hqm
           exact hqq j (by have := (List.getElem?_eq_some_iff.1 hj).1; omega) q hj
         refine a5C (a0A (.mk p hl hv hw hq)) (by simp [Pd.av_eq]) (by simp [Pd.av_eq]) ?_
         simp -dsimp [c6u, Pd.flat_eq d p, h1, h2, hall]
   · have n1 : ¬6 < d := by omega
     have n2 : (6 : Int) < p.l.length := by omega
     simp -dsimp [b3d, Pd.av_eq, n1, n2]
     exact fun g => h2 ((Pd.flat_eq d p).1 g).2.1
 · have n1 : 6 < d := by omega
   simp -dsimp [b3d, Pd.av_eq, n1]
   exact fun g => h1 ((Pd.flat_eq d p).1 g).1
structure SmallEv (e : Ev) : Prop where
 refs : e.refs.length ≤ 12
 row : e.row.length ≤ 12
 flat : e.pred.Flat 0
structure SmallP (h : Hs) : Prop where
 tables : h.tables.length ≤ 6
 events : h.events.length ≤ 60
 order : h.order.length ≤ 30
 ev : Upto h.events.length fun i => ∀ e, h.events[i]? = some e → SmallEv e
 txns : Upto h.order.length fun i => ∀ o, h.order[i]? = some o → o.txns.length ≤ 20
theorem c7t {h : Hs} (hok : h.Ok) : b9l prog true n_a0a [h.av] [] (vb (ofP (SmallP h))) [] := by
 refine a9D a0a_is (by simp) (by decide) rfl ?_
 by_cases h1 : h.tables.length ≤ 6
 · by_cases h2 : h.events.length ≤ 60
   · by_cases h3 : h.order.length ≤ 30
     · have n1 : ¬(6 : Int) < h.tables.length := by omega
       have n2 : ¬(60 : Int) < h.events.length := by omega
       have n3 : ¬(30 : Int) < h.order.length := by omega
       simp -dsimp [a0a, Hs.av, n1, n2, n3]
       refine a2E [] [4] h.events.length (fun i => ⟨[(3, vi i), (1, .ptr 1 0)], [(1, .box [.iv (.lst 1 (tbsC h.tables)), .iv (.lst 22 (evsC h.events)), .iv (.lst 5 (insC h.order))])]⟩)
         (fun i => Upto i fun i => ∀ e, h.events[i]? = some e → SmallEv e) ?_ ?_ ?_
       · simp -dsimp
       · exact c6z
       · intro i hi hq
         simp -dsimp [a0a_l9]
         refine ⟨fun hlt => ?_, fun hge => ?_⟩
         · obtain ⟨e, he⟩ := c7z hlt
           have hw := c8z (n := (i : Int) + 1) (by omega)
           have hno : ¬SmallEv e → ¬SmallP h := fun g g2 => g (g2.ev i hlt e he)
           have heok := hok.ev e (List.mem_of_getElem? he)
           by_cases e1 : e.refs.length ≤ 12
           · by_cases e2 : e.row.length ≤ 12
             · have m1 : ¬(12 : Int) < e.refs.length := by omega
               have m2 : ¬(12 : Int) < e.row.length := by omega
               simp -dsimp [he, m1, m2]
               refine a5C (c6t heok.pred 0 (by omega)) (by simp [Pd.av]) (by simp [Pd.av]) ?_
               simp -dsimp [hw]
               exact ⟨fun g => hno fun g2 => g g2.flat, fun g => ⟨hlt, hq.succ fun e' he' => by rw [he] at he'; cases he'; exact ⟨e1, e2, g⟩⟩⟩
             · have m1 : ¬(12 : Int) < e.refs.length := by omega
               have m2 : (12 : Int) < e.row.length := by omega
               simp -dsimp [he, m1, m2]
               exact hno fun g => e2 g.row
           · have m1 : (12 : Int) < e.refs.length := by omega
             simp -dsimp [he, m1]
             exact hno fun g => e1 g.refs
         · refine a2E [] [] h.order.length (fun i => ⟨[(5, vi i), (1, .ptr 1 0)], [(1, .box [.iv (.lst 1 (tbsC h.tables)), .iv (.lst 22 (evsC h.events)), .iv (.lst 5 (insC h.order))])]⟩)
             (fun i => Upto i fun i => ∀ o, h.order[i]? = some o → o.txns.length ≤ 20) ?_ ?_ ?_
           · simp -dsimp
           · exact c6z
           · intro j hj hqj
             simp -dsimp [a0a_l15]
             refine ⟨fun hjlt => ?_, fun hjge => ?_⟩
             · obtain ⟨o, ho⟩ := c7z hjlt
               have hw := c8z (n := (j : Int) + 1) (by omega)
               simp -dsimp [ho, Ins.cells_eq o, hw]
               refine ⟨fun g g2 => ?_, fun g => ⟨hjlt, hqj.succ fun o' ho' => by rw [ho] at ho'; cases ho'; omega⟩⟩
               have := g2.txns j hjlt o ho
               omega
             · exact ⟨h1, h2, h3, fun k hk => hq k (by omega), fun k hk => hqj k (by omega)⟩
     · have n1 : ¬(6 : Int) < h.tables.length := by omega
       have n2 : ¬(60 : Int) < h.events.length := by omega
       have n3 : (30 : Int) < h.order.length := by omega
       simp -dsimp [a0a, Hs.av, n1, n2, n3]
       exact fun g => h3 g.order
   · have n1 : ¬(6 : Int) < h.tables.length := by omega
     have n2 : (60 : Int) < h.events.length := by omega
     simp -dsimp [a0a, Hs.av, n1, n2]
     exact fun g => h2 g.events
 · have n1 : (6 : Int) < h.tables.length := by omega
   simp -dsimp [a0a, Hs.av, n1]
   exact fun g => h1 g.tables
end Go.Rt
end

section
namespace Go.Rt
open Go.Vm
abbrev skS : Sk := (false, [.i .i64], false)
abbrev skW : Sk := (true, [.i .i64, .i .i64, .b, .i .i64, .s], false)
def stOf (es : List Ev) (txn : Int) : Int := es.foldl (fun s e => if e.txn = txn ∧ (e.kind = 1 ∨ e.kind = 5 ∨ e.kind = 6) then e.kind else s) 0
theorem c4E (es : List Ev) (e : Ev) (txn : Int) : stOf (es ++ [e]) txn = if e.txn = txn ∧ (e.kind = 1 ∨ e.kind = 5 ∨ e.kind = 6) then e.kind else stOf es txn := by
 unfold stOf; rw [List.foldl_append]; rfl
def gS (es : List Ev) : List Value → Option (List IV)
 | [.int .i64 txn] => if stOf es txn = 0 then none else some [ci (stOf es txn)]
 | _ => none
def gW (es : List Ev) : List Value → Option (List IV)
 | [.int .i64 txn, .int .i64 table, .bool t, .int .i64 n, .string s] => if c2u es txn table ⟨t, n, s⟩ = 0 then none else some [ci (c2u es txn table ⟨t, n, s⟩)]
 | _ => none
def obC (o : Int × Vl) : List IV := [ci o.1, cb o.2.text, ci o.2.n, .v (.string o.2.s)]
def spots (es : List Ev) (txn : Int) : List (Int × Vl) := (es.filter fun e => decide (e.kind = 3) && decide (e.txn = txn) && decide (e.n = 1)).map fun e => (e.table, e.key)
def gP (es : List Ev) : List Value → Option (List (List IV))
 | [.int .i64 txn] => if spots es txn = [] then none else some ((spots es txn).map obC)
 | _ => none
def gPi (es : List Ev) (k : List Value) : Option (List IV) := (gP es k).map fun xs => [IV.lst 4 xs]
@[simp] theorem lk_gS (es : List Ev) (txn : Int) : lkR [.iv (.v (.int .i64 0))] false false (gS es [Value.int .i64 txn]) = vi (stOf es txn) := by
 simp only [gS]
 by_cases h : stOf es txn = 0
 · rw [if_pos h, h]; rfl
 · rw [if_neg h]; rfl
@[simp] theorem lk_gW (es : List Ev) (txn table : Int) (t : Bool) (n : Int) (s : ByteArray) :
   lkR [.iv (.v (.int .i64 0))] false false (gW es [Value.int .i64 txn, Value.int .i64 table, Value.bool t, Value.int .i64 n, Value.string s]) = vi (c2u es txn table ⟨t, n, s⟩) := by
 simp only [gW]
 by_cases h : c2u es txn table ⟨t, n, s⟩ = 0
 · rw [if_pos h, h]; rfl
 · rw [if_neg h]; rfl
def c5E (l : List Rf) (k : Vl) : Option Vs := l.foldl (fun s r => if r.key = k then some r.frm else s) none
theorem c6E (l : List Rf) (r : Rf) (k : Vl) : c5E (l ++ [r]) k = if r.key = k then some r.frm else c5E l k := by
 unfold c5E; rw [List.foldl_append]; rfl
abbrev skO : Sk := (true, [.i .i64, .b, .i .i64, .s], true)
def gR (tab : Int) (l : List Rf) : List Value → Option (List IV)
 | [.int .i64 table, .bool t, .int .i64 n, .string s] => if table = tab then (c5E l ⟨t, n, s⟩).map Vs.cells else none
 | _ => none
@[simp] theorem lk_gR (tab : Int) (l : List Rf) (t : Bool) (n : Int) (s : ByteArray) :
   lkR [.iv (.v (.int .i64 0)), .iv (.v (.int .i64 0))] true false (gR tab l [Value.int .i64 tab, Value.bool t, Value.int .i64 n, Value.string s]) = .agg [vi ((c5E l ⟨t, n, s⟩).getD ⟨0, 0⟩).txn, vi ((c5E l ⟨t, n, s⟩).getD ⟨0, 0⟩).n] := by
 simp only [gR, if_pos trivial]
 cases c5E l ⟨t, n, s⟩ <;> rfl
theorem c7E (tab : Int) : gR tab [] = fun _ => none := by
 funext q; unfold gR; split
 · split <;> rfl
 · rfl
theorem c8E (tab : Int) (l : List Rf) (r : Rf) : gset (gR tab l) [.int .i64 tab, .bool r.key.text, .int .i64 r.key.n, .string r.key.s] (some [ci r.frm.txn, ci r.frm.n]) = gR tab (l ++ [r]) := by
 funext q
 simp only [gset]
 split
 · rename_i e; subst e; simp [gR, c6E]
 · rename_i hne
   unfold gR
   split
   · rename_i table t n s
     by_cases h1 : table = tab
     · subst h1
       rw [if_pos rfl, if_pos rfl, c6E, if_neg]
       rintro h2
       exact hne (by rw [h2])
     · rw [if_neg h1, if_neg h1]
   · rfl
theorem c9E (es : List Ev) (txn : Int) : (spots es txn).length ≤ es.length := by
 unfold spots; rw [List.length_map]; exact List.length_filter_le _ _
theorem c0F {es : List Ev} {txn : Int} (h : spots es txn = []) : gPi es [.int .i64 txn] = none := by simp [gPi, gP, h]
theorem c1F {es : List Ev} {txn : Int} (h : spots es txn ≠ []) : gPi es [.int .i64 txn] = some [.lst 4 ((spots es txn).map obC)] := by simp [gPi, gP, h]
def ckIV (h : Hs) (a es : List Ev) : IV := .pt [.lst 1 (tbsC h.tables), .lst 22 (evsC h.events), .lst 5 (insC h.order), .mp skS (gS a), .mp skW (gW es), .mp skS (gPi es)]
abbrev ckBox (h : Hs) : Ob := .box [.iv (.lst 1 (tbsC h.tables)), .iv (.lst 22 (evsC h.events)), .iv (.lst 5 (insC h.order)), .mpr 1001, .mpr 1002, .mpr 1003]
abbrev ckH (h : Hs) (a b c : List Ev) : Hp := [(1000, ckBox h), (1001, .map skS (gS a)), (1002, .map skW (gW b)), (1003, .mapo skS 4 (gP c) none)]
theorem c2F {es : List Ev} {e : Ev} (hk : e.kind = 1 ∨ e.kind = 5 ∨ e.kind = 6) : gset (gS es) [.int .i64 e.txn] (some [ci e.kind]) = gS (es ++ [e]) := by
 funext q
 simp only [gset]
 split
 · rename_i h; subst h
   have hs : stOf (es ++ [e]) e.txn = e.kind := by rw [c4E, if_pos ⟨rfl, hk⟩]
   simp only [gS, hs]
   rw [if_neg (by omega)]
 · rename_i hne
   unfold gS
   split
   · rename_i t
     have hs : stOf (es ++ [e]) t = stOf es t := by
       rw [c4E, if_neg]
       rintro ⟨rfl, _⟩; exact hne rfl
     rw [hs]
   · rfl
theorem c3F {es : List Ev} {e : Ev} (hk : ¬(e.kind = 1 ∨ e.kind = 5 ∨ e.kind = 6)) : gS (es ++ [e]) = gS es := by
 funext q
 unfold gS
 split
 · rename_i t
   have hs : stOf (es ++ [e]) t = stOf es t := by rw [c4E, if_neg fun g => hk g.2]
   rw [hs]
 · rfl
theorem c4F (es : List Ev) (e : Ev) (txn table : Int) (k : Vl) : c2u (es ++ [e]) txn table k = c2u es txn table k + if e.isW txn table k = true then 1 else 0 := by
 unfold c2u
 rw [List.filter_append, List.length_append]
 congr 1
 cases hw : e.isW txn table k <;> simp [hw]
theorem c5F {es : List Ev} {e : Ev} (hk : e.kind = 3) : gset (gW es) [.int .i64 e.txn, .int .i64 e.table, .bool e.key.text, .int .i64 e.key.n, .string e.key.s] (some [ci ((c2u es e.txn e.table e.key : Int) + 1)]) = gW (es ++ [e]) := by
 funext q
 simp only [gset]
 split
 · rename_i h; subst h
   have hw : c2u (es ++ [e]) e.txn e.table ⟨e.key.text, e.key.n, e.key.s⟩ = c2u es e.txn e.table e.key + 1 := by
     rw [c4F, if_pos (Ev.isW_iff.2 ⟨hk, rfl, rfl, rfl, rfl, rfl⟩)]
   simp only [gW, hw]
   rw [if_neg (by omega)]
   simp
 · rename_i hne
   unfold gW
   split
   · rename_i txn table t n s
     have hw : c2u (es ++ [e]) txn table ⟨t, n, s⟩ = c2u es txn table ⟨t, n, s⟩ := by
       rw [c4F, if_neg, Nat.add_zero]
       rw [Ev.isW_iff]
       rintro ⟨_, rfl, rfl, h1, h2, h3⟩
       simp only at h1 h2 h3
       subst h1 h2 h3
       exact hne rfl
     rw [hw]
   · rfl
theorem c6F {es : List Ev} {e : Ev} (hk : e.kind ≠ 3) : gW (es ++ [e]) = gW es := by
 funext q
 unfold gW
 split
 · rw [c4F, if_neg (fun g => hk (Ev.isW_iff.1 g).1), Nat.add_zero]
 · rfl
theorem c7F (es : List Ev) (e : Ev) (txn : Int) : spots (es ++ [e]) txn = spots es txn ++ (if e.kind = 3 ∧ e.txn = txn ∧ e.n = 1 then [(e.table, e.key)] else []) := by
 unfold spots
 rw [List.filter_append, List.map_append]
 congr 1
 simp only [List.filter_cons, List.filter_nil, Bool.and_eq_true, decide_eq_true_eq, and_assoc]
 split <;> simp
theorem c8F {es : List Ev} {e : Ev} (hk : e.kind = 3) (hn : e.n = 1) : gset (gP es) [.int .i64 e.txn] (some ((spots es e.txn).map obC ++ [obC (e.table, e.key)])) = gP (es ++ [e]) := by
 funext q
 simp only [gset]
 split
 · rename_i h; subst h
   have hs : spots (es ++ [e]) e.txn = spots es e.txn ++ [(e.table, e.key)] := by rw [c7F, if_pos ⟨hk, rfl, hn⟩]
   simp only [gP, hs]
   rw [if_neg (by simp)]
   simp
 · rename_i hne
   unfold gP
   split
   · rename_i t
     have hs : spots (es ++ [e]) t = spots es t := by
       rw [c7F, if_neg, List.append_nil]
       rintro ⟨_, rfl, _⟩; exact hne rfl
     rw [hs]
   · rfl
theorem c9F {es : List Ev} {e : Ev} (hk : ¬(e.kind = 3 ∧ e.n = 1)) : gP (es ++ [e]) = gP es := by
 funext q
 unfold gP
 split
 · rename_i t
   have hs : spots (es ++ [e]) t = spots es t := by rw [c7F, if_neg (fun g => hk ⟨g.1, g.2.2⟩), List.append_nil]
   rw [hs]
 · rfl
theorem c0G {es : List Ev} {txn : Int} (h : spots es txn = []) : gP es [.int .i64 txn] = none := by simp [gP, h]
theorem c1G {es : List Ev} {txn : Int} (h : spots es txn ≠ []) : gP es [.int .i64 txn] = some ((spots es txn).map obC) := by simp [gP, h]
@[simp] theorem c2G {β : Type} (g : List Value → Option β) (k : List Value) (a b : Option β) : gset (gset g k a) k b = gset g k b := by
 funext q; simp only [gset]; split <;> rfl
end Go.Rt
end

section
namespace Go.Rt
open Go.Vm
theorem b9Q {h : Hs} (ht : h.TbsOk) (a es : List Ev) (table : Int) (k : Vl) : b9l prog true n_a8d [.iv (ckIV h a es), vi table, k.av] [] (vb (ofP (b2s h table k))) [] := by
 refine a9D a8d_is (by simp) (by decide) rfl ?_
 simp -dsimp [a4c_key, ckIV]
 refine ⟨fun h1 => ⟨fun h2 => ?_, fun h2 => ?_⟩, fun h1 g => absurd g.1 (by omega)⟩
 · obtain ⟨n, rfl⟩ := Int.eq_ofNat_of_zero_le h1
   obtain ⟨t, htn⟩ : ∃ t, h.tables[n]? = some t := c7z (by omega)
   have hT := ht t (List.mem_of_getElem? htn)
   obtain ⟨c, hc⟩ : ∃ c, t[0]? = some c := c7z hT.1
   have hK : b2s h n k ↔ k.right = true ∧ k.text = c := by
     unfold b2s
     constructor
     · rintro ⟨_, t', h3, h4, h5⟩
       rw [show ((n : Int)).toNat = n from rfl, htn] at h3; cases h3
       rw [hc] at h5; cases h5
       exact ⟨h4, rfl⟩
     · rintro ⟨h4, h5⟩; exact ⟨h1, t, by simpa using htn, h4, by rw [hc, h5]⟩
   refine a5C (b1X k) (by simp) (by simp) ?_
   simp -dsimp
   refine ⟨fun h3 => ?_, fun h3 g => by rw [hK] at g; rw [h3] at g; cases g.1⟩
   simp -dsimp [htn, hc, tbIV, c3z, hK, h3]
 · rintro ⟨_, t, h3, _⟩
   have := (List.getElem?_eq_some_iff.1 h3).1
   omega
theorem b0R (h : Hs) (a es : List Ev) (table : Int) (k : Vl) (v : Vs) :
   b9l prog true n_a9d [.iv (ckIV h a es), .agg [.iv (ci table), .iv (cb k.text), .iv (ci k.n), .iv (.v (.string k.s))], v.av] [] (vb (ofP (b3s es table k v))) [] := by
 refine a9D a9d_is (by simp) (by decide) rfl ?_
 simp -dsimp [a4c_version, ckIV, c3z, b3s]
 grind
end Go.Rt
end

section
namespace Go.Rt
open Go.Vm
theorem c8a {h : Hs} (ht : h.TbsOk) (a es : List Ev) (e : Ev) : b9l prog true n_a5c [.iv (ckIV h a es), e.av] [] (vb (ofP (e.kind = 2 → b6v h es e))) [] := by
 refine a9D a5c_is (by simp) (by decide) rfl ?_
 by_cases k2 : e.kind = 2
 · by_cases hw : 0 < c2u es e.txn e.table e.key
   · simp -dsimp [a4c_read, ckIV, Ev.av, k2, hw]
     refine a5C (b9Q ht a es e.table e.key) (by simp [ckIV]) (by simp [ckIV]) ?_
     simp -dsimp
     refine ⟨fun g => ?_, fun g g2 => g g2.1⟩
     rw [c3z]
     unfold b6v
     rw [if_pos hw]
     simp [g, Vs.eq_iff]
   · have hR : b6v h es e ↔ b2s h e.table e.key ∧ ((e.frm.txn = 0 ∧ e.frm.n = 0) ∨ b3s es e.table e.key e.frm) := by
       unfold b6v
       rw [if_neg hw]
       simp [Vs.eq_iff]
     simp -dsimp [a4c_read, ckIV, Ev.av, k2, hw]
     refine a5C (b9Q ht a es e.table e.key) (by simp [ckIV]) (by simp [ckIV]) ?_
     simp -dsimp
     refine ⟨fun g => ⟨fun g2 => ?_, fun g2 g3 => hR.2 ⟨g, .inl ⟨g2, g3⟩⟩⟩, fun g g2 => g g2.1⟩
     refine a5C (b0R h a es e.table e.key e.frm) (by simp [ckIV]) (by simp [ckIV]) ?_
     simp -dsimp [c5u, hR]
     grind
 · simp -dsimp [a4c_read, ckIV, Ev.av, k2]
def c9a (h : Hs) (es : List Ev) (e : Ev) : Prop := (0 ≤ e.table ∧ ∃ t, h.tables[e.table.toNat]? = some t ∧ PdOk t e.pred) ∧ Upto e.refs.length (b7v h es e) ∧
 ∀ o, o ∈ spots es e.txn → o.1 = e.table → (c5E e.refs o.2).getD ⟨0, 0⟩ = ⟨e.txn, c2u es e.txn o.1 o.2⟩
theorem c0b {h : Hs} (ht : h.TbsOk) (htl : h.tables.length < 2 ^ 63) (a es : List Ev) (hes : es.length < 2 ^ 63) (e : Ev) (heok : e.Ok) : b9l prog true n_a6c [.iv (ckIV h a es), e.av] [] (vb (ofP (e.kind = 4 → c9a h es e))) [] := by
 refine a9D a6c_is (by simp) (by decide) rfl ?_
 by_cases k4 : e.kind = 4
 · by_cases hT : 0 ≤ e.table ∧ e.table < h.tables.length
   · obtain ⟨t0, t1⟩ := id hT
     obtain ⟨t, htt⟩ : ∃ t, h.tables[e.table.toNat]? = some t := c7z (by omega)
     have t2 : ¬(h.tables.length : Int) ≤ e.table := by omega
     have t3 : ¬e.table < 0 := by omega
     simp -dsimp [a4c_saw, ckIV, Ev.av, k4, t0, t3, t2, htt]
     refine a5C (a7B t heok.pred) (by simp [tbAV, Pd.av]) (by simp [tbAV, Pd.av]) ?_
     simp -dsimp
     have hS : c9a h es e ↔ PdOk t e.pred ∧ Upto e.refs.length (b7v h es e) ∧ ∀ o, o ∈ spots es e.txn → o.1 = e.table → (c5E e.refs o.2).getD ⟨0, 0⟩ = ⟨e.txn, c2u es e.txn o.1 o.2⟩ := by
       unfold c9a
       constructor
       · rintro ⟨⟨_, t', g1, g2⟩, g3⟩
         rw [htt] at g1; cases g1; exact ⟨g2, g3⟩
       · rintro ⟨g2, g3⟩; exact ⟨⟨t0, t, htt, g2⟩, g3⟩
     refine ⟨fun h2 g => h2 (hS.1 g).1, fun h2 => ?_⟩
     refine a2E [] [7, 8] e.refs.length (fun i => ⟨[(47, vi i), (46, vi e.refs.length), (45, .iv (.lst 5 (c8t e.refs))), (0, .iv (ckIV h a es)), (3, .ptr 3 0), (5, .mpr 43)],
         [(43, .map skO (gR e.table (e.refs.take i))), (3, .box (e.cells.map .iv))]⟩) (fun i => Upto i (b7v h es e)) ?_ ?_ ?_
     · simp -dsimp [c7E, ckIV]
     · simp
     · intro i hi hq
       simp -dsimp [a6c_l14, ckIV]
       refine ⟨fun hlt => ?_, fun hge => ?_⟩
       · obtain ⟨q, hqi⟩ := c7z hlt
         have hre := heok.refs
         have hw := c8z (n := (i : Int) + 1) (by omega)
         have hw1 := c8z (n := (i : Int) - 1) (by omega)
         have hno : ¬b7v h es e i → ¬c9a h es e := fun g1 g => g1 (g.2.1 i hlt)
         have hat : b7v h es e i ↔ b2s h e.table q.key ∧ b3s es e.table q.key q.frm ∧ (∀ p, 0 < i → e.refs[i - 1]? = some p → p.key.cmp q.key < 0) := by
           unfold b7v; rw [hqi]
           exact ⟨fun g => g q rfl, fun g r hr => by cases hr; exact g⟩
         simp -dsimp [hqi, Rf.cells_eq q]
         refine a5C (b9Q ht a es e.table q.key) (by simp [ckIV]) (by simp [ckIV]) ?_
         simp -dsimp
         by_cases k1 : b2s h e.table q.key
         · simp -dsimp [k1]
           refine a5C (b0R h a es e.table q.key q.frm) (by simp [ckIV]) (by simp [ckIV]) ?_
           simp -dsimp
           by_cases k2 : b3s es e.table q.key q.frm
           · by_cases hi0 : 0 < i
             · obtain ⟨p, hp⟩ : ∃ p, e.refs[i - 1]? = some p := c7z (by omega)
               have e1 : ((i : Int) - 1).toNat = i - 1 := by omega
               have e2 : (0 : Int) ≤ (i : Int) - 1 := by omega
               simp -dsimp [k2, hi0, hw1, e1, e2, hp, Rf.cells_eq p]
               refine ⟨⟨by omega, a5C (b3G p.key q.key) (by simp) (by simp) ?_⟩, fun g => absurd g (by omega)⟩
               simp -dsimp [hw, c8E, c7u hqi]
               refine ⟨fun k3 => hno fun g => absurd ((hat.1 g).2.2 p hi0 hp) (by omega), fun k3 => ⟨hlt, hq.succ (hat.2 ⟨k1, k2, fun p' _ hp' => by rw [hp] at hp'; cases hp'; exact k3⟩)⟩⟩
             · simp -dsimp [k2, hi0, hw, c8E, c7u hqi]
               exact fun _ => ⟨hlt, hq.succ (hat.2 ⟨k1, k2, fun p h => absurd h hi0⟩)⟩
           · simp -dsimp [k2]
             exact hno fun g => k2 (hat.1 g).2.1
         · simp -dsimp [k1]
           exact hno fun g => k1 (hat.1 g).1
       · have hall : Upto e.refs.length (b7v h es e) := fun j hj => hq j (by omega)
         rw [List.take_of_length_le hge]
         by_cases hs : spots es e.txn = []
         · simp -dsimp [c0F hs]
           refine a2E [] [] 0 (fun i => ⟨[(102, vi i), (101, vi 0), (100, .nil 4), (0, .iv (ckIV h a es)), (3, .ptr 3 0), (5, .mpr 43)],
             [(43, .map skO (gR e.table e.refs)), (3, .box (e.cells.map .iv))]⟩) (fun _ => True) ?_ trivial ?_
           · simp -dsimp [ckIV]
           · intro j hj _
             obtain rfl : j = 0 := by omega
             simp -dsimp [a6c_l21]
             exact hS.2 ⟨h2, hall, by rw [hs]; simp⟩
         · simp -dsimp [c1F hs]
           refine a2E [] [10] (spots es e.txn).length (fun i => ⟨[(102, vi i), (101, vi (spots es e.txn).length), (100, .iv (.lst 4 ((spots es e.txn).map obC))), (0, .iv (ckIV h a es)), (3, .ptr 3 0), (5, .mpr 43)],
             [(43, .map skO (gR e.table e.refs)), (3, .box (e.cells.map .iv))]⟩) (fun i => ∀ o, o ∈ (spots es e.txn).take i → o.1 = e.table → (c5E e.refs o.2).getD ⟨0, 0⟩ = ⟨e.txn, c2u es e.txn o.1 o.2⟩) ?_ ?_ ?_
           · simp -dsimp [ckIV]
           · simp
           · intro j hj hqj
             have hsl := c9E es e.txn
             simp -dsimp [a6c_l21, ckIV]
             refine ⟨fun hjlt => ?_, fun hjge => ?_⟩
             · obtain ⟨o, ho⟩ := c7z hjlt
               have hwj := c8z (n := (j : Int) + 1) (by omega)
               by_cases c : o.1 = e.table
               · simp -dsimp [ho, obC, c, hwj, c7u ho]
                 constructor
                 · intro g g2
                   have g3 := (hS.1 g2).2.2 o (List.mem_of_getElem? ho) c
                   rw [c] at g3
                   rw [g3] at g
                   simp at g
                 · intro g1 g2
                   refine ⟨hjlt, ?_⟩
                   rintro a' b (g | rfl) rfl
                   · exact hqj _ g rfl
                   · exact Vs.eq_iff.2 ⟨g1, g2⟩
               · simp -dsimp [ho, obC, c, hwj, c7u ho]
                 refine ⟨hjlt, ?_⟩
                 rintro a' b (g | rfl) rfl
                 · exact hqj _ g rfl
                 · exact absurd rfl c
             · rw [List.take_of_length_le hjge] at hqj
               exact hS.2 ⟨h2, hall, hqj⟩
   · have hno : ¬c9a h es e := by
       rintro ⟨⟨g0, t, g, _⟩, _⟩
       have := (List.getElem?_eq_some_iff.1 g).1
       omega
     by_cases t0 : 0 ≤ e.table
     · have t1 : ¬e.table < h.tables.length := fun g => hT ⟨t0, g⟩
       simp -dsimp [a4c_saw, ckIV, Ev.av, k4, t0, t1, hno]
     · simp -dsimp [a4c_saw, ckIV, Ev.av, k4, t0, hno]
 · simp -dsimp [a4c_saw, ckIV, Ev.av, k4]
end Go.Rt
end

section
namespace Go.Rt
open Go.Vm
def b1I (es : List Ev) (e : Ev) : Prop := 1 ≤ e.txn ∧ 1 ≤ e.kind ∧ e.kind ≤ 6 ∧ (e.kind = 1 → stOf es e.txn = 0 ∧ 1 ≤ e.level ∧ e.level ≤ 5) ∧ (e.kind ≠ 1 → stOf es e.txn = 1)
instance (es : List Ev) (e : Ev) : Decidable (b1I es e) := by unfold b1I; exact inferInstance
def esF (es : List Ev) (e : Ev) : List Ev := if b1I es e then es ++ [e] else es
theorem b2I (h : Hs) (es b c : List Ev) (e : Ev) : b9l prog false n_a3c [.ptr 1000 0, e.av] (ckH h es b c) (vb (ofP (b1I es e))) (ckH h (esF es e) b c) := by
 refine a6F a3c_is (by simp) (by decide) rfl rfl ?_
 by_cases hF : b1I es e
 · have hE : esF es e = es ++ [e] := if_pos hF
   rw [hE]
   obtain ⟨h1, h2, h3, h4, h5⟩ := id hF
   have n1 : ¬e.txn < 1 := by omega
   have n2 : ¬e.kind < 1 := by omega
   have n3 : ¬6 < e.kind := by omega
   by_cases k1 : e.kind = 1
   · obtain ⟨g1, g2, g3⟩ := h4 k1
     have n4 : ¬e.level < 1 := by omega
     have n5 : ¬5 < e.level := by omega
     have hg := c2F (es := es) (e := e) (.inl k1)
     rw [k1] at hg
     simp -dsimp [a4c_frame, Ev.av, n1, n2, n3, k1, g1, n4, n5, hg, hF]
   · have g1 := h5 k1
     by_cases k5 : e.kind = 5
     · have hg := c2F (es := es) (e := e) (.inr (.inl k5))
       rw [k5] at hg
       simp -dsimp [a4c_frame, Ev.av, n1, n2, n3, k1, g1, k5, hg, hF]
     · by_cases k6 : e.kind = 6
       · have hg := c2F (es := es) (e := e) (.inr (.inr k6))
         rw [k6] at hg
         simp -dsimp [a4c_frame, Ev.av, n1, n2, n3, k1, g1, k6, hg, hF]
       · have hg := c3F (es := es) (e := e) (by omega)
         simp -dsimp [a4c_frame, Ev.av, n1, n2, n3, k1, g1, k5, k6, hg, hF]
 · have hE : esF es e = es := if_neg hF
   rw [hE]
   simp -dsimp [a4c_frame, Ev.av, hF]
   unfold b1I at hF
   grind
def CkW (h : Hs) (es : List Ev) (e : Ev) : Prop := e.kind = 3 → b2s h e.table e.key ∧ e.n = c2u es e.txn e.table e.key + 1
noncomputable def esW (h : Hs) (es : List Ev) (e : Ev) : List Ev := @ite _ (CkW h es e) (Classical.propDecidable _) (es ++ [e]) es
set_option maxRecDepth 5000 in
set_option maxHeartbeats 4000000 in
theorem b3I {h : Hs} (ht : h.TbsOk) (a es : List Ev) (hes : es.length < 2 ^ 40) (e : Ev) : b9l prog false n_a7c [.ptr 1000 0, e.av] (ckH h a es es) (vb (ofP (e.kind = 3 → b5v h es e))) (ckH h a (esW h es e) (esW h es e)) := by
 refine a6F a7c_is (by simp) (by decide) rfl rfl ?_
 by_cases k3 : e.kind = 3
 · simp -dsimp [a4c_write, Ev.av, k3]
   refine a5C (b9Q ht a es e.table e.key) (by simp [ckIV]; rfl) (by simp [ckIV]) ?_
   by_cases hK : b2s h e.table e.key
   · have hwl := c4u es e.txn e.table e.key
     have hw := c8z (n := (c2u es e.txn e.table e.key : Int) + 1) (by omega)
     by_cases hn : e.n = c2u es e.txn e.table e.key + 1
     · have hE : esW h es e = es ++ [e] := if_pos fun g => ⟨hK, hn⟩
       rw [hE]
       obtain ⟨h0, t, htt, hr, hc⟩ := id hK
       have hgW := c5F (es := es) (e := e) k3
       have hWO : b5v h es e ↔ e.row = [] ∨ (Fits t e.row ∧ e.row[0]? = some e.key) := by
         unfold b5v
         constructor
         · rintro ⟨_, _, g | ⟨t', g2, g3, g4⟩⟩
           · exact .inl g
           · rw [htt] at g2; cases g2; exact .inr ⟨g3, g4⟩
         · rintro (g | ⟨g3, g4⟩)
           · exact ⟨hK, hn, .inl g⟩
           · exact ⟨hK, hn, .inr ⟨t, htt, g3, g4⟩⟩
       have hw1 : IntKind.i64.wrap 1 = 1 := by rw [IntKind.wrap_i64]; omega
       by_cases h1 : c2u es e.txn e.table e.key = 0
       · have hn1 : e.n = 1 := by omega
         rw [h1] at hgW
         have hgP := c8F (es := es) (e := e) k3 hn1
         by_cases hs : spots es e.txn = []
         · rw [hs] at hgP
           by_cases hrow : e.row = []
           · simp -dsimp [hK, hw1, hn1, h1, c0G hs, hrow, hWO]
             exact ⟨hgW, hgP⟩
           · obtain ⟨v, hv⟩ : ∃ v, e.row[0]? = some v := c7z (List.length_pos_iff.2 hrow)
             simp -dsimp [hK, hw1, hn1, h1, c0G hs, hrow, h0, htt]
             repeat' apply And.intro
             all_goals try omega
             all_goals
               refine a5C (b1Y t e.row) (by simp [tbAV, c2A, rowC]) (by simp [tbAV]) ?_
               by_cases hf : Fits t e.row
               · simp -dsimp [hf, hv, hWO, hrow, c3z, Vl.eq_iff]
                 exact ⟨hgW, hgP⟩
               · simp -dsimp [hf, hWO, hrow]
                 exact ⟨hgW, hgP⟩
         · have hsl := c9E es e.txn
           by_cases hrow : e.row = []
           · simp -dsimp [hK, hw1, hn1, h1, c1G hs, hrow, hWO]
             exact ⟨by omega, by omega, hgW, hgP⟩
           · obtain ⟨v, hv⟩ : ∃ v, e.row[0]? = some v := c7z (List.length_pos_iff.2 hrow)
             simp -dsimp [hK, hw1, hn1, h1, c1G hs, hrow, h0, htt]
             repeat' apply And.intro
             all_goals try omega
             all_goals
               refine a5C (b1Y t e.row) (by simp [tbAV, c2A, rowC]) (by simp [tbAV]) ?_
               by_cases hf : Fits t e.row
               · simp -dsimp [hf, hv, hWO, hrow, c3z, Vl.eq_iff]
                 exact ⟨hgW, hgP⟩
               · simp -dsimp [hf, hWO, hrow]
                 exact ⟨hgW, hgP⟩
       · have hgP := c9F (es := es) (e := e) (by omega)
         have hn1 : ¬((c2u es e.txn e.table e.key : Int) + 1 = 1) := by omega
         by_cases hrow : e.row = []
         · simp -dsimp [hK, hw, hn, hn1, hrow, hWO]
           exact ⟨hgW, hgP.symm⟩
         · obtain ⟨v, hv⟩ : ∃ v, e.row[0]? = some v := c7z (List.length_pos_iff.2 hrow)
           simp -dsimp [hK, hw, hn, hn1, hrow, h0, htt]
           repeat' apply And.intro
           all_goals
             refine a5C (b1Y t e.row) (by simp [tbAV, c2A, rowC]) (by simp [tbAV]) ?_
             by_cases hf : Fits t e.row
             · simp -dsimp [hf, hv, hWO, hrow, c3z, Vl.eq_iff]
               exact ⟨hgW, hgP.symm⟩
             · simp -dsimp [hf, hWO, hrow]
               exact ⟨hgW, hgP.symm⟩
     · have hE : esW h es e = es := if_neg fun g => hn (g k3).2
       rw [hE]
       simp -dsimp [hK, hw, hn]
       exact fun g => hn g.2.1
   · have hE : esW h es e = es := if_neg fun g => hK (g k3).1
     rw [hE]
     simp -dsimp [hK]
     exact fun g => hK g.1
 · have hE : esW h es e = es ++ [e] := if_pos fun g => absurd g k3
   rw [hE]
   simp -dsimp [a4c_write, Ev.av, k3, c6F k3, c9F (fun g => k3 g.1)]
end Go.Rt
end

section
namespace Go.Rt
open Go.Vm
open Classical in
noncomputable def b0L (p : Int → Int × Vl → Prop) : List Value → Option (List IV)
 | [.int .i64 txn, .int .i64 table, .bool t, .int .i64 n, .string s] => if p txn (table, ⟨t, n, s⟩) then some [ci 1] else none
 | _ => none
theorem b1L : b0L (fun _ _ => False) = fun _ => none := by
 funext q; unfold b0L; split
 · rw [if_neg]; exact fun h => h
 · rfl
theorem b2L {p p' : Int → Int × Vl → Prop} (h : ∀ t o, p t o ↔ p' t o) : b0L p = b0L p' := by
 have : p = p' := by funext t o; exact propext (h t o)
 rw [this]
theorem b3L (p : Int → Int × Vl → Prop) (txn : Int) (o : Int × Vl) : gset (b0L p) [.int .i64 txn, .int .i64 o.1, .bool o.2.text, .int .i64 o.2.n, .string o.2.s] (some [ci 1]) = b0L (fun t x => p t x ∨ (t = txn ∧ x = o)) := by
 funext q
 simp only [gset]
 split
 · rename_i h; subst h
   simp only [b0L]
   rw [if_pos]
   exact .inr ⟨rfl, rfl⟩
 · rename_i hne
   unfold b0L
   split
   · rename_i t table b n s
     have hn : ¬(t = txn ∧ (table, (⟨b, n, s⟩ : Vl)) = o) := by rintro ⟨rfl, rfl⟩; exact hne rfl
     by_cases hp : p t (table, ⟨b, n, s⟩)
     · rw [if_pos hp, if_pos (.inl hp)]
     · rw [if_neg hp, if_neg fun g => g.elim hp hn]
   · rfl
theorem b4L (p : Int → Int × Vl → Prop) (txn : Int) (o : Int × Vl) : gset (b0L p) [.int .i64 txn, .int .i64 o.1, .bool o.2.text, .int .i64 o.2.n, .string o.2.s] none = b0L (fun t x => p t x ∧ ¬(t = txn ∧ x = o)) := by
 funext q
 simp only [gset]
 split
 · rename_i h; subst h
   simp only [b0L]
   rw [if_neg]
   exact fun g => g.2 ⟨rfl, rfl⟩
 · rename_i hne
   unfold b0L
   split
   · rename_i t table b n s
     have hn : ¬(t = txn ∧ (table, (⟨b, n, s⟩ : Vl)) = o) := by rintro ⟨rfl, rfl⟩; exact hne rfl
     by_cases hp : p t (table, ⟨b, n, s⟩)
     · rw [if_pos hp, if_pos ⟨hp, hn⟩]
     · rw [if_neg hp, if_neg fun g => hp g.1]
   · rfl
open Classical in
theorem b5L (p : Int → Int × Vl → Prop) (txn table : Int) (t : Bool) (n : Int) (s : ByteArray) :
   lkR [.iv (.v (.int .i64 0))] false false (b0L p [Value.int .i64 txn, Value.int .i64 table, Value.bool t, Value.int .i64 n, Value.string s]) = vi (if p txn (table, ⟨t, n, s⟩) then 1 else 0) := by
 simp only [b0L]
 split <;> rfl
theorem b6L {p : Int → Int × Vl → Prop} : (∀ k, b0L p k = none) ↔ ∀ t o, ¬p t o := by
 constructor
 · intro h t o hp
   have := h [.int .i64 t, .int .i64 o.1, .bool o.2.text, .int .i64 o.2.n, .string o.2.s]
   simp only [b0L] at this
   rw [if_pos hp] at this
   cases this
 · intro h k
   unfold b0L
   split
   · rw [if_neg (h _ _)]
   · rfl
def metN (l : List Ins) (table : Int) (k : Vl) : Nat := (l.filter fun o => decide (o.table = table) && decide (o.key = k)).length
theorem b7L (l : List Ins) (o : Ins) (table : Int) (k : Vl) : metN (l ++ [o]) table k = metN l table k + if o.table = table ∧ o.key = k then 1 else 0 := by
 unfold metN
 rw [List.filter_append, List.length_append]
 congr 1
 simp only [List.filter_cons, List.filter_nil, Bool.and_eq_true, decide_eq_true_eq]
 split <;> rfl
theorem b8L {l : List Ins} {table : Int} {k : Vl} : metN l table k = 0 ↔ ∀ x, x ∈ l → ¬(x.table = table ∧ x.key = k) := by
 unfold metN
 rw [List.length_eq_zero_iff, List.filter_eq_nil_iff]
 simp
theorem b9L (l : List Ins) (table : Int) (k : Vl) : metN l table k ≤ l.length := List.length_filter_le _ _
abbrev skM : Sk := (true, [.i .i64, .b, .i .i64, .s], false)
def gMet (l : List Ins) : List Value → Option (List IV)
 | [.int .i64 table, .bool t, .int .i64 n, .string s] => if metN l table ⟨t, n, s⟩ = 0 then none else some [ci (metN l table ⟨t, n, s⟩)]
 | _ => none
theorem b0M : gMet [] = fun _ => none := by
 funext q; unfold gMet; split
 · rfl
 · rfl
@[simp] theorem lk_gMet (l : List Ins) (table : Int) (t : Bool) (n : Int) (s : ByteArray) :
   lkR [.iv (.v (.int .i64 0))] false false (gMet l [Value.int .i64 table, Value.bool t, Value.int .i64 n, Value.string s]) = vi (metN l table ⟨t, n, s⟩) := by
 simp only [gMet]
 by_cases h : metN l table ⟨t, n, s⟩ = 0
 · rw [if_pos h, h]; rfl
 · rw [if_neg h]; rfl
theorem b1M (l : List Ins) (o : Ins) : gset (gMet l) [.int .i64 o.table, .bool o.key.text, .int .i64 o.key.n, .string o.key.s] (some [ci ((metN l o.table o.key : Int) + 1)]) = gMet (l ++ [o]) := by
 funext q
 simp only [gset]
 split
 · rename_i h; subst h
   have hw : metN (l ++ [o]) o.table ⟨o.key.text, o.key.n, o.key.s⟩ = metN l o.table o.key + 1 := by
     rw [b7L, if_pos ⟨rfl, rfl⟩]
   simp only [gMet, hw]
   rw [if_neg (by omega)]
   simp
 · rename_i hne
   unfold gMet
   split
   · rename_i table t n s
     have hw : metN (l ++ [o]) table ⟨t, n, s⟩ = metN l table ⟨t, n, s⟩ := by
       rw [b7L, if_neg, Nat.add_zero]
       rintro ⟨rfl, h⟩
       rw [h] at hne
       exact hne rfl
     rw [hw]
   · rfl
theorem b2M {es : List Ev} {k : List Value} {c : List IV} (h : gPi es k = some c) : ∃ txn, k = [.int .i64 txn] ∧ spots es txn ≠ [] ∧ c = [.lst 4 ((spots es txn).map obC)] := by
 unfold gPi gP at h
 split at h
 · rename_i txn
   split at h
   · cases h
   · rename_i hne
     simp only [Option.map_some, Option.some.injEq] at h
     exact ⟨txn, rfl, hne, h.symm⟩
 · cases h
@[simp] theorem b3M {s : St} {fr : Bool} {ids : List Nat} : s.arg1 fr ids ∘ AV.iv = AV.iv := funext fun _ => by simp
theorem b4M {k q : List Value} {l : List (List Value)} : q ∈ rmk k l ↔ q ∈ l ∧ q ≠ k := by
 unfold rmk; rw [List.mem_filter]; simp
theorem b4t {k : List Value} {l : List (List Value)} (h : k ∈ l) : (rmk k l).length < l.length := by
 unfold rmk
 refine List.length_filter_lt_length_iff_exists.2 ⟨k, h, ?_⟩
 simp
@[simp] theorem gset_at {β : Type} (g : List Value → Option β) (k : List Value) (c : Option β) : gset g k c k = c := by simp [gset]
theorem b5M {P : Program} {c : VCode} {s : St} {O : Outs} (D D' : List Nat) (S : List (List Value) → Option (List Value) → St) (Q : List (List Value) → Prop) (L : List (List Value)) (h0 : LeTo D s (S L none)) (q0 : Q L)
   (hs : ∀ left last, Q left → wpV P c (S left last) { O with n := fun s2 => ∃ k last', k ∈ left ∧ LeTo D' s2 (S (rmk k left) last') ∧ Q (rmk k left) }) : a7L P c s O := by
 refine a0E (fun n s => ∃ left last, n = left.length ∧ s = S left last ∧ Q left) ⟨_, _, h0.le, L, none, rfl, rfl, q0⟩ ?_
 rintro k s' ⟨left, last, rfl, rfl, hq⟩
 refine b6R c (O := { O with n := fun s2 => ∃ k last', k ∈ left ∧ LeTo D' s2 (S (rmk k left) last') ∧ Q (rmk k left) }) (fun s2 h => ?_) (fun _ _ h => h) (fun _ h => h) (fun _ _ h => h) (hs left last hq)
 obtain ⟨k, last', hk, hle, hq'⟩ := h
 exact ⟨_, _, b4t hk, hle.le, _, _, rfl, rfl, hq'⟩
def b6M (h : Hs) (es : List Ev) (i : Nat) (o : Ins) : Prop := (∀ x, x ∈ h.order.take i → ¬(x.table = o.table ∧ x.key = o.key)) ∧ 0 < o.txns.length ∧
 Upto o.txns.length fun k => ∀ t, o.txns[k]? = some t → stOf es t = 5 ∧ (o.table, o.key) ∈ spots es t ∧ t ∉ o.txns.take k
def b7M (h : Hs) (es : List Ev) : Prop := (Upto h.order.length fun i => ∀ o, h.order[i]? = some o → b6M h es i o) ∧
 ∀ t o, stOf es t = 5 → o ∈ spots es t → ∃ x, x ∈ h.order ∧ (x.table = o.1 ∧ x.key = o.2) ∧ t ∈ x.txns
end Go.Rt
end

section
namespace Go.Rt
open Go.Vm
def c6c (h : Hs) (es : List Ev) (i : Nat) (t : Int) (o : Int × Vl) : Prop := (stOf es t = 5 ∧ o ∈ spots es t) ∧ ¬∃ x, x ∈ h.order.take i ∧ (x.table = o.1 ∧ x.key = o.2) ∧ t ∈ x.txns
theorem c7c {h : Hs} (hok : h.Ok) (es : List Ev) (hes : es.length < 2 ^ 40) : b9l prog true n_a8c [.iv (ckIV h es es)] [] (vb (ofP (b7M h es))) [] := by
 refine a9D a8c_is (by simp) (by decide) rfl ?_
 simp -dsimp [a4c_order, ckIV]
 intro L _ hL _
 refine b5M [] [] (fun left last => ⟨[(20, .ptr 20 0), (0, .iv (ckIV h es es)), (3, .mpr 15)], [(20, .iter skS (gPi es) left last), (15, .map skW (b0L fun t o => (stOf es t = 5 ∧ o ∈ spots es t) ∧ [Value.int .i64 t] ∉ left))]⟩)
   (fun left => ∀ k, k ∈ left → k ∈ L) L ?_ (fun _ h => h) ?_
 · have h0 : (b0L fun t o => (stOf es t = 5 ∧ o ∈ spots es t) ∧ [Value.int .i64 t] ∉ L) = fun _ => none := by
     rw [← b1L]
     refine b2L fun t o => ⟨?_, fun g => g.elim⟩
     rintro ⟨⟨_, g⟩, g2⟩
     refine g2 ((hL _).2 ?_)
     rw [c1F (List.ne_nil_of_mem g)]
     intro g3; cases g3
   simp -dsimp [ckIV, h0]
 · intro left last hq
   simp -dsimp [a8c_l12, ckIV]
   refine ⟨?_, ?_⟩
   · rintro rfl
     have hol := hok.order
     refine a2E [20] [10, 11, 14] h.order.length (fun i => ⟨[(51, vi i), (50, vi h.order.length), (49, .iv (.lst 5 (insC h.order))), (3, .mpr 15), (8, .mpr 44)],
         [(44, .map skM (gMet (h.order.take i))), (15, .map skW (b0L (c6c h es i)))]⟩) (fun i => Upto i fun i => ∀ o, h.order[i]? = some o → b6M h es i o) ?_ ?_ ?_
     · have h0 : (b0L fun t o => (stOf es t = 5 ∧ o ∈ spots es t) ∧ ¬[Value.int .i64 t] ∈ ([] : List (List Value))) = b0L (c6c h es 0) := b2L fun t o => by simp [c6c]
       simp -dsimp [b0M]
       simpa using h0
     · exact c6z
     · intro i hi hqi
       simp -dsimp [a8c_l31]
       refine ⟨fun hlt => ?_, fun hge => ?_⟩
       · obtain ⟨o, ho⟩ := c7z hlt
         have hw := c8z (n := (i : Int) + 1) (by omega)
         have hml := b9L (h.order.take i) o.table o.key
         rw [List.length_take] at hml
         have hw1 := c8z (n := (metN (h.order.take i) o.table o.key : Int) + 1) (by omega)
         have hm0 := b8L (l := h.order.take i) (table := o.table) (k := o.key)
         have hno : ¬b6M h es i o → ¬b7M h es := fun g1 g => g1 (g.1 i hlt o ho)
         by_cases hm : metN (h.order.take i) o.table o.key = 0
         · have hg : gMet (h.order.take i) [.int .i64 o.table, .bool o.key.text, .int .i64 o.key.n, .string o.key.s] = none := by simp [gMet, hm]
           have hset := b1M (h.order.take i) o
           rw [hm] at hset
           have hw1' : IntKind.i64.wrap 1 = 1 := by rw [IntKind.wrap_i64]; omega
           have hset' : gset (gMet (h.order.take i)) [.int .i64 o.table, .bool o.key.text, .int .i64 o.key.n, .string o.key.s] (some [ci 1]) = gMet (h.order.take (i + 1)) := by rw [c7u ho]; exact hset
           have hm1 : metN (h.order.take (i + 1)) o.table o.key = 1 := by rw [c7u ho, b7L, hm, if_pos ⟨rfl, rfl⟩]
           have htl := hok.txns o (List.mem_of_getElem? ho)
           have hLo : ∀ t, c6c h es i t (o.table, o.key) ↔ stOf es t = 5 ∧ (o.table, o.key) ∈ spots es t := fun t =>
             ⟨fun g => g.1, fun g => ⟨g, fun ⟨x, g1, g2, _⟩ => hm0.1 hm x g1 g2⟩⟩
           simp -dsimp [ho, Ins.cells_eq o, hg, hm, hw1', hset', hm1]
           constructor
           all_goals
             intro n
             refine ⟨fun g => hno fun g2 => absurd g2.2.1 (by rw [g]; simp), fun hne => ?_⟩
             refine a2E [10] [14] o.txns.length (fun k => ⟨[(79, vi k), (78, vi o.txns.length), (77, .iv (.lst 1 (c0A o.txns))), (11, .ptr 11 0), (51, vi i), (50, vi h.order.length), (49, .iv (.lst 5 (insC h.order))), (3, .mpr 15), (8, .mpr 44)],
                 [(11, .box [.iv (ci o.table), .iv (cb o.key.text), .iv (ci o.key.n), .iv (.v (.string o.key.s))]), (44, .map skM (gMet (h.order.take (i + 1)))), (15, .map skW (b0L fun t x => c6c h es i t x ∧ ¬(x = (o.table, o.key) ∧ t ∈ o.txns.take k)))]⟩)
               (fun k => Upto k fun k => ∀ t, o.txns[k]? = some t → stOf es t = 5 ∧ (o.table, o.key) ∈ spots es t ∧ t ∉ o.txns.take k) ?_ ?_ ?_
             · simp -dsimp
             · exact c6z
             · intro k hk hqk
               simp -dsimp [a8c_l29]
               refine ⟨fun hklt => ?_, fun hkge => ?_⟩
               · obtain ⟨t, htk⟩ := c7z hklt
                 have hwk := c8z (n := (k : Int) + 1) (by omega)
                 simp -dsimp [htk, hwk, b5L]
                 refine ⟨fun g => hno fun g2 => ?_, fun g1 g2 => ⟨hklt, ?_, hqk.succ fun t' ht' => ?_⟩⟩
                 · obtain ⟨a1, a2, a3⟩ := g2.2.2 k hklt t htk
                   exact a3 (g ((hLo t).2 ⟨a1, a2⟩))
                 · refine (b4L _ t (o.table, o.key)).trans (b2L fun t' x => ?_)
                   rw [c7u htk, List.mem_append, List.mem_singleton]
                   constructor
                   · rintro ⟨⟨a1, a2⟩, a3⟩
                     exact ⟨a1, fun e g => g.elim (a2 e) fun e2 => a3 ⟨e2, e⟩⟩
                   · rintro ⟨a1, a2⟩
                     exact ⟨⟨a1, fun e g => a2 e (.inl g)⟩, fun g => a2 g.2 (.inr g.1)⟩
                 · rw [htk] at ht'; cases ht'
                   exact ⟨((hLo t).1 g1).1, ((hLo t).1 g1).2, g2⟩
               · simp -dsimp [hw]
                 refine ⟨hlt, b2L fun t x => ?_, Upto.succ hqi fun o' ho' => ?_⟩
                 · rw [List.take_of_length_le hkge]
                   unfold c6c
                   rw [c7u ho]
                   constructor
                   · rintro ⟨⟨a1, a2⟩, a3⟩
                     refine ⟨a1, ?_⟩
                     rintro ⟨y, b1, b2, b3⟩
                     rcases List.mem_append.1 b1 with b1 | b1
                     · exact a2 ⟨y, b1, b2, b3⟩
                     · simp only [List.mem_singleton] at b1; subst b1
                       exact a3 (by rw [b2.1, b2.2]) b3
                   · rintro ⟨a1, a2⟩
                     refine ⟨⟨a1, fun ⟨y, b1, b2, b3⟩ => a2 ⟨y, List.mem_append_left _ b1, b2, b3⟩⟩, fun e g => a2 ⟨o, by simp, ?_, g⟩⟩
                     subst e; exact ⟨rfl, rfl⟩
                 · rw [ho] at ho'; cases ho'
                   exact ⟨hm0.1 hm, List.length_pos_iff.2 hne, fun j hj => hqk j (by omega)⟩
         · have hn : ¬b6M h es i o := fun g => hm (hm0.2 g.1)
           obtain ⟨c, hc⟩ : ∃ c, gMet (h.order.take i) [.int .i64 o.table, .bool o.key.text, .int .i64 o.key.n, .string o.key.s] = some c := ⟨_, by simp only [gMet]; rw [if_neg hm]⟩
           have hc1 : c = [ci (metN (h.order.take i) o.table o.key)] := by
             simp only [gMet] at hc
             rw [if_neg hm] at hc
             exact (Option.some.inj hc).symm
           have hgt : (1 : Int) < (metN (h.order.take i) o.table o.key : Int) + 1 := by omega
           subst hc1
           simp -dsimp [ho, Ins.cells_eq o, hw1, hc, hgt]
           exact hno hn
       · intro n hn
         have h2 : (n = 0) ↔ b7M h es := by
           rw [hn, b6L]
           have hi' : i = h.order.length := by omega
           subst hi'
           unfold b7M c6c
           rw [List.take_length]
           constructor
           · intro g
             refine ⟨hqi, fun t o g1 g2 => ?_⟩
             have := g t o
             exact Classical.byContradiction fun g3 => this ⟨⟨g1, g2⟩, g3⟩
           · rintro ⟨_, g⟩ t o ⟨⟨g1, g2⟩, g3⟩
             exact g3 (g t o g1 g2)
         rw [c3z, ← h2]
         simp
   · intro k c hk hc hkd
     obtain ⟨txn, rfl, hsp, rfl⟩ := b2M hc
     simp -dsimp [hc]
     by_cases h5 : stOf es txn = 5
     · have hsl := c9E es txn
       simp -dsimp [h5]
       refine a2E [] [7] (spots es txn).length (fun i => ⟨[(35, vi i), (34, vi (spots es txn).length), (33, .iv (.lst 4 ((spots es txn).map obC))), (4, vi txn), (20, .ptr 20 0), (0, .iv (ckIV h es es)), (3, .mpr 15)],
           [(20, .iter skS (gPi es) (rmk [.int .i64 txn] left) (some [.int .i64 txn])), (15, .map skW (b0L fun t o => ((stOf es t = 5 ∧ o ∈ spots es t) ∧ [Value.int .i64 t] ∉ left) ∨ (t = txn ∧ o ∈ (spots es txn).take i)))]⟩) (fun _ => True) ?_ trivial ?_
       · simp -dsimp [ckIV]
       · intro i hi _
         simp -dsimp [a8c_l11, ckIV]
         refine ⟨fun hlt => ?_, fun hge => ?_⟩
         · obtain ⟨o, ho⟩ := c7z hlt
           have hw := c8z (n := (i : Int) + 1) (by omega)
           simp -dsimp [ho, obC, hw, b3L, c7u ho]
           exact ⟨hlt, b2L fun t x => by grind⟩
         · refine ⟨_, hk, ⟨rfl, b2L fun t x => ?_⟩, fun q hq' => hq q (b4M.1 hq').1⟩
           rw [List.take_of_length_le hge, b4M]
           constructor
           · rintro (⟨g1, g2⟩ | ⟨rfl, g⟩)
             · exact ⟨g1, fun g => g2 g.1⟩
             · exact ⟨⟨h5, g⟩, fun g => g.2 rfl⟩
           · rintro ⟨⟨g1, g2⟩, g3⟩
             by_cases e : t = txn
             · subst e; exact .inr ⟨rfl, g2⟩
             · exact .inl ⟨⟨g1, g2⟩, fun g => g3 ⟨g, fun e2 => e (by cases e2; rfl)⟩⟩
     · simp -dsimp [h5]
       refine ⟨_, hk, ⟨rfl, b2L fun t x => ?_⟩, fun q hq' => hq q (b4M.1 hq').1⟩
       rw [b4M]
       constructor
       · rintro ⟨g1, g2⟩; exact ⟨g1, fun g => g2 g.1⟩
       · rintro ⟨⟨g1, g2⟩, g3⟩
         exact ⟨⟨g1, g2⟩, fun g => g3 ⟨g, fun e2 => h5 (by cases e2; exact g1)⟩⟩
end Go.Rt
end

section
namespace Go.Rt
open Go.Vm
def AskA (h : Hs) (es : List Ev) (e : Ev) : Prop := b1I es e ∧ (e.kind = 2 → b6v h es e) ∧ (e.kind = 4 → c9a h es e)
def a9I (h : Hs) (es : List Ev) (e : Ev) : Prop := b1I es e ∧ (e.kind = 2 → b6v h es e) ∧ (e.kind = 4 → c9a h es e) ∧ (e.kind = 3 → b5v h es e)
noncomputable def esX (h : Hs) (es : List Ev) (e : Ev) : List Ev := @ite _ (AskA h es e) (Classical.propDecidable _) (esW h es e) es
theorem a0J {h : Hs} (ht : h.TbsOk) (htl : h.tables.length < 2 ^ 63) (es : List Ev) (hes : es.length < 2 ^ 40) (e : Ev) (heok : e.Ok) :
   b9l prog false n_a2c [e.av, .ptr 1004 0] ((1004, .box [.ptr 1000 0]) :: ckH h es es es) (vb (ofP (a9I h es e))) ((1004, .box [.ptr 1000 0]) :: ckH h (esF es e) (esX h es e) (esX h es e)) := by
 refine a6F a2c_is (by simp) (by decide) rfl rfl ?_
 have hEF : ¬b1I es e → esF es e = es := fun g => if_neg g
 simp -dsimp [a2c, Ev.av]
 refine a8G (b2I h es es es e) rfl (by simp) (by simp [Ev.av]) (by simp [Ev.av]) (by simp) (by simp) (by simp) (by simp) ?_
 simp -dsimp
 refine ⟨fun h1 => ?_, fun h1 => ?_⟩
 · refine a5C (c8a ht (esF es e) es e) (by simp [ckIV, Ev.av]; rfl) (by simp [ckIV, Ev.av]) ?_
   by_cases h2 : e.kind = 2 → b6v h es e
   · simp -dsimp [c1z.2 h2]
     refine a5C (c0b ht htl (esF es e) es (by omega) e heok) (by simp [ckIV, Ev.av]; rfl) (by simp [ckIV, Ev.av]) ?_
     by_cases h3 : e.kind = 4 → c9a h es e
     · have hX : esX h es e = esW h es e := if_pos ⟨h1, h2, h3⟩
       rw [hX]
       simp -dsimp [c1z.2 h3]
       refine a8G (b3I ht (esF es e) es hes e) rfl (by simp) (by simp [Ev.av]) (by simp [Ev.av]) (by simp) (by simp) (by simp) (by simp) ?_
       simp -dsimp [c5u]
       exact ⟨fun g => ⟨h1, h2, h3, g⟩, fun g => g.2.2.2⟩
     · have hX : esX h es e = es := if_neg fun g => h3 g.2.2
       rw [hX]
       simp -dsimp [c2z.2 h3]
       exact fun g => h3 g.2.2.1
   · have hX : esX h es e = es := if_neg fun g => h2 g.2.1
     rw [hX]
     simp -dsimp [c2z.2 h2]
     exact fun g => h2 g.2.1
 · have hX : esX h es e = es := if_neg fun g => h1 g.1
   rw [hX]
   exact ⟨fun g => h1 g.1, rfl, rfl⟩
end Go.Rt
end

section
namespace Go.Rt
open Go.Vm
theorem Ev.av_eq (e : Ev) : e.av = .agg ([ci e.txn, ci e.kind, ci e.level, ci e.table, cb e.key.text, ci e.key.n, .v (.string e.key.s), ci e.frm.txn, ci e.frm.n, ci e.n, .lst 3 (rowC e.row),
   ci e.pred.op, ci e.pred.col, cb e.pred.v.text, ci e.pred.v.n, .v (.string e.pred.v.s), cb e.pred.w.text, ci e.pred.w.n, .v (.string e.pred.w.s), .lst 9 (e.pred.l.map Pd.cells), .lst 5 (c8t e.refs), cb e.cur].map .iv) := by
 unfold Ev.av; rw [Ev.cells_eq]
abbrev lkBox (h : Hs) : Ob := .box [.iv (.lst 1 (tbsC h.tables)), .iv (.lst 22 (evsC h.events)), .iv (.lst 5 (insC h.order)), .mpr 11, .mpr 12, .mpr 13]
abbrev lkH (h : Hs) (a b c : List Ev) : Hp := [(3, .box [.ptr 15 0]), (15, lkBox h), (11, .map skS (gS a)), (12, .map skW (gW b)), (13, .mapo skS 4 (gP c) none)]
theorem a5q {h : Hs} (ht : h.TbsOk) (htl : h.tables.length < 2 ^ 63) (es : List Ev) (hes : es.length < 2 ^ 40) (e : Ev) (heok : e.Ok) :
   b9l prog false n_a2c [e.av, .ptr 3 0] (lkH h es es es) (vb (ofP (a9I h es e))) (lkH h (esF es e) (esX h es e) (esX h es e)) := by
 have hs := a0J ht htl es hes e heok
 rw [Ev.av_eq] at hs ⊢
 exact hs.ren (Ren.swaps [(1004, 3), (1000, 15), (1001, 11), (1002, 12), (1003, 13)]) rfl
theorem a6q {P : Program} {c : VCode} {s s' : St} {O : Outs} (h : Le s s') (k : a7L P c s' O) : a7L P c s O := by
 obtain ⟨I, h3, h4⟩ := k
 exact ⟨I, h3.le h, h4⟩
theorem a7q : gS [] = fun _ => none := by
 funext q; unfold gS; split
 · rfl
 · rfl
theorem a8q : gW [] = fun _ => none := by
 funext q; unfold gW; split
 · rfl
 · rfl
theorem a9q : gP [] = fun _ => none := by
 funext q; unfold gP; split
 · rfl
 · rfl
theorem a0r : okFn prog n_a2c = true := by kernel_rfl
theorem a1r : okFn prog n_a8c = true := by kernel_rfl
def a2r (h : Hs) : Prop := ((1 ≤ h.tables.length ∧ h.tables.length ≤ 3) ∧ Upto h.tables.length fun i => ∀ t, h.tables[i]? = some t → TbOk t) ∧
 (Upto h.events.length fun i => ∀ e, h.events[i]? = some e → a9I h (h.events.take i) e) ∧ b7M h h.events
noncomputable def a3r (h : Hs) : Int := if ofP (a2r h) = true then 0 else 180
theorem a4r {h : Hs} (hc : a2r h) : a3r h = 0 := if_pos (c1z.2 hc)
theorem a5r {h : Hs} (hc : ¬a2r h) : a3r h = 180 := if_neg (by simpa using hc)
theorem a6r {h : Hs} (hok : h.Ok) (hev : h.events.length < 2 ^ 40) : b9l prog true n_a2b [h.av] [] (vi (a3r h)) [] := by
 refine a9D a2b_is (by simp) (by decide) rfl ?_
 by_cases hn : 1 ≤ h.tables.length ∧ h.tables.length ≤ 3
 · have n1 : ¬(h.tables.length : Int) < 1 := by omega
   have n2 : ¬(3 : Int) < h.tables.length := by omega
   simp -dsimp [a2b, Hs.av, n1, n2]
   refine a6q (c9L _ (id := 13) (sk := skS) 4 rfl (by simp)) ?_
   refine a2E [] [7] h.tables.length (fun i => ⟨[(32, vi i), (31, vi h.tables.length), (30, .iv (.lst 1 (tbsC h.tables))), (4, .fn n_a2c [] [.ptr 3 0]), (5, .fn n_a8c [.ptr 15 0] []), (1, .ptr 1 0)],
       (1, .box [.iv (.lst 1 (tbsC h.tables)), .iv (.lst 22 (evsC h.events)), .iv (.lst 5 (insC h.order))]) :: lkH h [] [] []⟩) (fun i => Upto i fun i => ∀ t, h.tables[i]? = some t → TbOk t) ?_ ?_ ?_
   · simp -dsimp [a7q, a8q, a9q]
   · exact c6z
   · intro i hi hq
     simp -dsimp [a2b_l10]
     refine ⟨fun hlt => ?_, fun hge => ?_⟩
     · obtain ⟨t, hti⟩ := c7z hlt
       have hw := c8z (n := (i : Int) + 1) (by omega)
       simp -dsimp [hti]
       refine a5C (b7X t) (by simp [tbAV]) (by simp [tbAV]) ?_
       simp -dsimp [hw]
       refine ⟨fun g => ?_, fun g => ⟨hlt, hq.succ fun t' ht' => by rw [hti] at ht'; cases ht'; exact g⟩⟩
       rw [a5r fun g2 => g (g2.1.2 i hlt t hti)]
     · have hT : h.TbsOk := fun t ht => by
         obtain ⟨j, hj⟩ := List.getElem?_of_mem ht
         exact hq j (by have := (List.getElem?_eq_some_iff.1 hj).1; omega) t hj
       have htl := hok.tables
       refine a2E [] [9] h.events.length (fun i => ⟨[(43, vi i), (42, vi h.events.length), (41, .iv (.lst 22 (evsC h.events))), (4, .fn n_a2c [] [.ptr 3 0]), (5, .fn n_a8c [.ptr 15 0] []), (1, .ptr 1 0)],
           (1, .box [.iv (.lst 1 (tbsC h.tables)), .iv (.lst 22 (evsC h.events)), .iv (.lst 5 (insC h.order))]) :: lkH h (h.events.take i) (h.events.take i) (h.events.take i)⟩)
         (fun i => Upto i fun i => ∀ e, h.events[i]? = some e → a9I h (h.events.take i) e) ?_ ?_ ?_
       · simp -dsimp
       · exact c6z
       · intro j hj hqj
         simp -dsimp [a2b_l16]
         refine ⟨fun hjlt => ?_, fun hjge => ?_⟩
         · obtain ⟨e, he⟩ := c7z hjlt
           have hwj := c8z (n := (j : Int) + 1) (by omega)
           have heok := hok.ev e (List.mem_of_getElem? he)
           have hlen : (h.events.take j).length < 2 ^ 40 := by rw [List.length_take]; omega
           simp -dsimp [he]
           refine ⟨a0r, a8G (a5q hT htl (h.events.take j) hlen e heok) rfl (by simp) (by simp [Ev.av]) (by simp [Ev.av]) (by simp) (by simp) (by simp) (by simp) ?_⟩
           by_cases ha : a9I h (h.events.take j) e
           · have e1 : esF (h.events.take j) e = h.events.take (j + 1) := by rw [c7u he]; exact if_pos ha.1
             have e2 : esX h (h.events.take j) e = h.events.take (j + 1) := by
               rw [c7u he]
               unfold esX
               rw [if_pos ⟨ha.1, ha.2.1, ha.2.2.1⟩]
               exact if_pos fun g => ⟨(ha.2.2.2 g).1, (ha.2.2.2 g).2.1⟩
             simp -dsimp [ha, e1, e2, hwj]
             exact ⟨hjlt, hqj.succ fun e' he' => by rw [he] at he'; cases he'; exact ha⟩
           · simp -dsimp [ha]
             rw [a5r fun g2 => ha (g2.2.1 j hjlt e he)]
         · rw [List.take_of_length_le hjge]
           refine ⟨a1r, a9G (c7c hok h.events hev) (by simp) (by simp [ckIV]; rfl) (by simp [ckIV]) ?_⟩
           simp -dsimp
           constructor
           · intro g
             rw [a4r ⟨⟨hn, fun k hk => hq k (by omega)⟩, fun k hk => hqj k (by omega), g⟩]
           · intro g
             rw [a5r fun g2 => g g2.2.2]
 · have hno : ¬a2r h := fun g => hn g.1.1
   by_cases n1 : (h.tables.length : Int) < 1
   · simp -dsimp [a2b, Hs.av, n1, a5r hno]
   · have n2 : (3 : Int) < h.tables.length := by omega
     simp -dsimp [a2b, Hs.av, n1, n2, a5r hno]
end Go.Rt
end

section
namespace Go.Rt
open Go.Vm
theorem a0t {α : Type} {p : List α → Prop} (nil : p []) (snoc : ∀ (l : List α) (x : α), p l → p (l ++ [x])) (l : List α) : p l := by
 rw [← List.reverse_reverse l]
 induction l.reverse with
 | nil => exact nil
 | cons x r ih => rw [List.reverse_cons]; exact snoc _ _ ih
theorem a1t : ∀ {x y z : List UInt8}, Op.bytesLess x y = true → Op.bytesLess y z = true → Op.bytesLess x z = true
 | _, [], _, h, _ => by simp [Op.bytesLess] at h
 | _, _ :: _, [], _, h => by simp [Op.bytesLess] at h
 | [], _ :: _, _ :: _, _, _ => rfl
 | a :: x, b :: y, c :: z, h1, h2 => by
   simp only [Op.bytesLess, Bool.or_eq_true, decide_eq_true_eq, Bool.and_eq_true, beq_iff_eq] at h1 h2 ⊢
   rcases h1 with h1 | ⟨rfl, h1⟩
   · rcases h2 with h2 | ⟨rfl, h2⟩
     · exact .inl (UInt8.lt_trans h1 h2)
     · exact .inl h1
   · rcases h2 with h2 | ⟨rfl, h2⟩
     · exact .inl h2
     · exact .inr ⟨rfl, a1t h1 h2⟩
theorem a2t {a b : ByteArray} : scmp a b < 0 ↔ b4Q a b = true := by
 unfold scmp; split
 · rename_i h; simp [h]
 · rename_i h; split <;> simp [h]
theorem a3t {a b : Int} : icmp a b < 0 ↔ a < b := by
 unfold icmp; split
 · rename_i h; simp [h]
 · rename_i h; split <;> simp [h]
theorem a4t {a b : Vl} : a.cmp b < 0 ↔ (a.text = true ∧ b.text = true ∧ b4Q a.s b.s = true) ∨ (a.text = false ∧ b.text = true) ∨ (a.text = false ∧ b.text = false ∧ a.n < b.n) := by
 unfold Vl.cmp
 cases a.text <;> cases b.text <;> simp [a2t, a3t]
theorem a5t {a b c : Vl} (h1 : a.cmp b < 0) (h2 : b.cmp c < 0) : a.cmp c < 0 := by
 rw [a4t] at *
 rcases h1 with ⟨h1, h3, h4⟩ | ⟨h1, h3⟩ | ⟨h1, h3, h4⟩ <;> rcases h2 with ⟨g1, g3, g4⟩ | ⟨g1, g3⟩ | ⟨g1, g3, g4⟩ <;> simp_all
 · exact a1t h4 g4
 · omega
theorem a6t (a : Vl) : ¬a.cmp a < 0 := by
 rw [a4t]
 simp [b2G]
theorem a7t {h : Hs} {es : List Ev} {e : Ev} (hr : Upto e.refs.length (b7v h es e)) : ∀ {i j : Nat}, i < j → ∀ {a b : Rf}, e.refs[i]? = some a → e.refs[j]? = some b → a.key.cmp b.key < 0 := by
 intro i j
 induction j with
 | zero => intro h; omega
 | succ j ih =>
   intro hij a b ha hb
   have hjl := (List.getElem?_eq_some_iff.1 hb).1
   obtain ⟨q, hq⟩ : ∃ q, e.refs[j]? = some q := c7z (by omega)
   have h1 := (hr (j + 1) hjl b hb).2.2 q (by omega) (by simpa using hq)
   rcases Nat.lt_or_ge i j with h2 | h2
   · exact a5t (ih h2 ha hq) h1
   · obtain rfl : i = j := by omega
     rw [ha] at hq; cases hq; exact h1
theorem a8t {l : List Rf} (hu : ∀ a b, a ∈ l → b ∈ l → a.key = b.key → a = b) : ∀ k v, c5E l k = some v ↔ b9v l k v := by
 intro k v
 have key : ∀ (l' : List Rf), (∀ a, a ∈ l' → a ∈ l) → (c5E l' k = some v ↔ b9v l' k v) := by
   intro l'
   induction l' using a0t with
   | nil => intro _; simp [c5E]
   | snoc l' r ih =>
     intro hs
     have ih := ih fun a ha => hs a (List.mem_append_left _ ha)
     rw [c6E]
     have hthere : b9v (l' ++ [r]) k v ↔ b9v l' k v ∨ (r.key = k ∧ r.frm = v) := by
       rw [b1w, ← Vl.eq_iff, ← Vs.eq_iff]
     rw [hthere]
     by_cases hk : r.key = k
     · rw [if_pos hk]
       constructor
       · intro g; exact .inr ⟨hk, Option.some.inj g⟩
       · rintro (⟨q, g1, g2, g3⟩ | ⟨_, g⟩)
         · have := hu q r (hs q (List.mem_append_left _ g1)) (hs r (by simp)) (by rw [g2, hk])
           subst this; rw [g3]
         · rw [g]
     · rw [if_neg hk, ih]
       exact ⟨.inl, fun g => g.elim id fun g => absurd g.1 hk⟩
 exact key l fun _ h => h
theorem a9t {h : Hs} {es : List Ev} {e : Ev} (hr : Upto e.refs.length (b7v h es e)) : ∀ a b, a ∈ e.refs → b ∈ e.refs → a.key = b.key → a = b := by
 intro a b ha hb hk
 obtain ⟨i, hi⟩ := List.getElem?_of_mem ha
 obtain ⟨j, hj⟩ := List.getElem?_of_mem hb
 rcases Nat.lt_trichotomy i j with h1 | h1 | h1
 · have := a7t hr h1 hi hj; rw [hk] at this; exact absurd this (a6t _)
 · subst h1; rw [hi] at hj; exact Option.some.inj hj
 · have := a7t hr h1 hj hi; rw [hk] at this; exact absurd this (a6t _)
def a0u (es : List Ev) : Prop := ∀ t, (¬c8u es t ∧ c9u es t ∧ stOf es t = 0 ∧ b8r es t = 0) ∨ (c8u es t ∧ c9u es t ∧ stOf es t = 1 ∧ b8r es t = 0) ∨
 (c8u es t ∧ ¬c9u es t ∧ stOf es t = b8r es t ∧ (b8r es t = 5 ∨ b8r es t = 6))
theorem a0u.nil : a0u [] := fun t => .inl ⟨by simp, by simp, rfl, rfl⟩
theorem a0u.ck {es : List Ev} (hs : a0u es) (e : Ev) : b1I es e ↔ c4v es e := by
 unfold b1I c4v
 rcases hs e.txn with ⟨h1, h2, h3, h4⟩ | ⟨h1, h2, h3, h4⟩ | ⟨h1, h2, h3, h4⟩
 · rw [h3]; simp only [h1, h2]; grind
 · rw [h3]; simp only [h1, h2]; grind
 · rw [h3]; simp only [h1, h2]; grind
theorem a1u {es : List Ev} {t : Int} : c9u es t ↔ ∀ x, x ∈ es → ¬x.ends t := by
 unfold c9u Ev.ends
 constructor
 · rintro h x hx ⟨h1, h2⟩; have := h x hx h1; omega
 · intro h x hx h1; have := h x hx; constructor <;> (intro h2; exact this ⟨h1, by omega⟩)
theorem a2u {es r : List Ev} {t : Int} (h : c9u es t) : b8r (es ++ r) t = b8r r t := by
 rw [a1u] at h
 induction es with
 | nil => rfl
 | cons x es ih =>
   rw [List.cons_append, b8r, if_neg (h x List.mem_cons_self)]
   exact ih fun y hy => h y (List.mem_cons_of_mem _ hy)
theorem a3u {es r : List Ev} {t : Int} (h : ¬c9u es t) : b8r (es ++ r) t = b8r es t := by
 rw [a1u] at h
 induction es with
 | nil => exact absurd (fun x hx => by cases hx) h
 | cons x es ih =>
   rw [List.cons_append, b8r, b8r]
   by_cases hx : x.ends t
   · rw [if_pos hx, if_pos hx]
   · rw [if_neg hx, if_neg hx]
     refine ih fun g => h fun y hy => ?_
     rcases List.mem_cons.1 hy with rfl | hy
     · exact hx
     · exact g y hy
theorem a4u (e : Ev) (t : Int) : b8r [e] t = if e.ends t then e.kind else 0 := by rw [b8r]; rfl
theorem a0u.next {es : List Ev} (hs : a0u es) {e : Ev} (hf : c4v es e) : a0u (es ++ [e]) := by
 intro t
 obtain ⟨f1, f2, f3, f4, f5, f6⟩ := hf
 rw [c2v, c3v, c4E]
 by_cases ht : e.txn = t
 · subst ht
   rw [a2u f4, a4u]
   have hends : e.ends e.txn ↔ e.kind = 5 ∨ e.kind = 6 := ⟨fun g => g.2, fun g => ⟨rfl, g⟩⟩
   rcases hs e.txn with ⟨h1, h2, h3, h4⟩ | ⟨h1, h2, h3, h4⟩ | ⟨h1, h2, h3, h4⟩
   · have k1 : e.kind = 1 := Classical.byContradiction fun g => h1 (f6 g)
     right; left
     have : ¬e.ends e.txn := fun g => by have := hends.1 g; omega
     simp [k1, h2, this]
   · have k1 : e.kind ≠ 1 := fun g => (f5 g).1 h1
     by_cases k5 : e.kind = 5 ∨ e.kind = 6
     · right; right
       rw [if_pos ⟨rfl, .inr k5⟩, if_pos (hends.2 k5)]
       refine ⟨.inl h1, ?_, rfl, k5⟩
       rintro ⟨_, g⟩
       have := g rfl
       omega
     · right; left
       rw [if_neg (by rintro ⟨_, g⟩; omega), if_neg (fun g => k5 (hends.1 g))]
       exact ⟨.inl h1, ⟨h2, fun _ => by omega⟩, h3, rfl⟩
   · exact absurd f4 h2
 · have e1 : stOf es t = stOf es t := rfl
   rw [if_neg fun g => ht g.1]
   have e2 : b8r (es ++ [e]) t = b8r es t := by
     by_cases hn : c9u es t
     · rw [a2u hn, a4u, if_neg fun g => ht g.1]
       exact (b9r fun x hx => a1u.1 hn x hx).symm
     · exact a3u hn
   rw [e2]
   have e3 : (c8u es t ∨ e.txn = t) ↔ c8u es t := ⟨fun g => g.elim id fun g => absurd g ht, .inl⟩
   have e4 : (c9u es t ∧ (e.txn = t → e.kind ≠ 5 ∧ e.kind ≠ 6)) ↔ c9u es t := ⟨fun g => g.1, fun g => ⟨g, fun g2 => absurd g2 ht⟩⟩
   rw [e3, e4]
   exact hs t
def a5u (es : List Ev) : Prop := Upto es.length fun i => ∀ e, es[i]? = some e → c4v (es.take i) e
theorem a6u {α : Type} {l : List α} {x : α} {p : List α → α → Prop} : (Upto (l ++ [x]).length fun i => ∀ e, (l ++ [x])[i]? = some e → p ((l ++ [x]).take i) e) ↔
   (Upto l.length fun i => ∀ e, l[i]? = some e → p (l.take i) e) ∧ p l x := by
 constructor
 · intro h
   refine ⟨fun i hi e he => ?_, ?_⟩
   · have := h i (by rw [List.length_append]; omega) e (by rw [List.getElem?_append_left hi]; exact he)
     rwa [List.take_append_of_le_length (by omega)] at this
   · have := h l.length (by simp) x (by simp)
     rwa [List.take_left] at this
 · rintro ⟨h1, h2⟩ i hi e he
   by_cases hl : i < l.length
   · rw [List.getElem?_append_left hl] at he
     rw [List.take_append_of_le_length (by omega)]
     exact h1 i hl e he
   · have : i = l.length := by simp at hi; omega
     subst this
     rw [List.take_left]
     simp at he
     subst he
     exact h2
theorem a5u.stands {es : List Ev} : a5u es → a0u es := by
 induction es using a0t with
 | nil => exact fun _ => a0u.nil
 | snoc es e ih => intro h; have := a6u.1 h; exact (ih this.1).next this.2
def a7u (es : List Ev) : Prop := Upto es.length fun i => ∀ e, es[i]? = some e → e.kind = 3 → e.n = c2u (es.take i) e.txn e.table e.key + 1
theorem a7u.spots {es : List Ev} : a7u es → ∀ t o, o ∈ spots es t ↔ 0 < c2u es t o.1 o.2 := by
 induction es using a0t with
 | nil => intro _ t o; simp [Go.Rt.spots, c2u]
 | snoc es e ih =>
   intro h t o
   have h2 := (a6u (p := fun (es : List Ev) (e : Ev) => e.kind = 3 → e.n = c2u es e.txn e.table e.key + 1)).1 h
   rw [c7F, c4F, List.mem_append, ih h2.1 t o]
   obtain ⟨tab, k⟩ := o
   by_cases hw : e.isW t tab k = true
   · rw [if_pos hw]
     obtain ⟨w1, w2, w3, w4⟩ := Ev.isW_iff.1 hw
     have hk := Vl.eq_iff.2 w4
     subst w2 w3 hk
     have hn := h2.2 w1
     by_cases h0 : 0 < c2u es e.txn e.table e.key
     · simp [h0]
     · rw [if_pos ⟨w1, rfl, by omega⟩]; simp
   · rw [if_neg hw, Nat.add_zero]
     constructor
     · rintro (g | g)
       · exact g
       · split at g
         · rename_i c
           simp only [List.mem_singleton, Prod.mk.injEq] at g
           exact absurd (Ev.isW_iff.2 ⟨c.1, c.2.1, g.1.symm, by rw [g.2], by rw [g.2], by rw [g.2]⟩) hw
         · cases g
     · exact .inl
theorem a8u {es : List Ev} {t tab : Int} {k : Vl} : 0 < c2u es t tab k ↔ ∃ x, x ∈ es ∧ x.kind = 3 ∧ x.txn = t ∧ x.table = tab ∧ x.key = k := by
 unfold c2u
 rw [List.length_pos_iff_exists_mem]
 constructor
 · rintro ⟨x, hx⟩
   obtain ⟨h1, h2⟩ := List.mem_filter.1 hx
   obtain ⟨w1, w2, w3, w4⟩ := Ev.isW_iff.1 h2
   exact ⟨x, h1, w1, w2, w3, Vl.eq_iff.2 w4⟩
 · rintro ⟨x, h1, w1, w2, w3, w4⟩
   exact ⟨x, List.mem_filter.2 ⟨h1, Ev.isW_iff.2 ⟨w1, w2, w3, Vl.eq_iff.1 w4⟩⟩⟩
theorem a9u {h : Hs} {es : List Ev} (hc : a7u es) {e : Ev} (he : 1 ≤ e.txn) : c9a h es e ↔ b8v h es e := by
 unfold c9a b8v
 refine and_congr_right fun _ => and_congr_right fun hr => ?_
 have hl := a8t (a9t hr)
 constructor
 · intro g x hx k3 k1 k2
   have hpos : 0 < c2u es e.txn x.table x.key := a8u.2 ⟨x, hx, k3, k1, rfl, rfl⟩
   have := g (x.table, x.key) ((hc.spots _ _).2 hpos) k2
   rw [k2] at this
   cases hlr : c5E e.refs x.key with
   | none => rw [hlr] at this; have := congrArg Vs.txn this; simp at this; omega
   | some v => rw [hlr] at this; simp only [Option.getD_some] at this; subst this; exact (hl _ _).1 hlr
 · rintro g ⟨tab, k⟩ ho rfl
   have hpos := (hc.spots _ _).1 ho
   obtain ⟨x, hx, k3, k1, k2, rfl⟩ := a8u.1 hpos
   have := g x hx k3 k1 k2
   have h5 := (hl _ _).2 this
   simp only
   rw [h5]
   rfl
theorem a0v {h : Hs} {es : List Ev} (hs : a0u es) (hc : a7u es) {e : Ev} : a9I h es e ↔ b6u h es e := by
 unfold a9I b6u
 rw [hs.ck]
 constructor
 · rintro ⟨h1, h2, h3, h4⟩; exact ⟨h1, h2, h4, fun g => (a9u hc h1.1).1 (h3 g)⟩
 · rintro ⟨h1, h2, h3, h4⟩; exact ⟨h1, h2, fun g => (a9u hc h1.1).2 (h4 g), h3⟩
def a1v (h : Hs) (es : List Ev) : Prop := Upto es.length fun i => ∀ e, es[i]? = some e → b6u h (es.take i) e
theorem a1v.good {h : Hs} {es : List Ev} (g : a1v h es) : a5u es ∧ a7u es :=
 ⟨fun i hi e he => (g i hi e he).1, fun i hi e he k3 => ((g i hi e he).2.2.1 k3).2.1⟩
theorem a2v {h : Hs} (es : List Ev) : (Upto es.length fun i => ∀ e, es[i]? = some e → a9I h (es.take i) e) ↔ a1v h es := by
 induction es using a0t with
 | nil => exact ⟨fun _ => c6z, fun _ => c6z⟩
 | snoc es e ih =>
   unfold a1v
   rw [a6u (p := a9I h), a6u (p := b6u h), ih]
   refine and_congr_right fun g => ?_
   exact a0v g.good.1.stands g.good.2
theorem a3v {es : List Ev} (hs : a0u es) (t : Int) : stOf es t = 5 ↔ b8r es t = 5 := by
 rcases hs t with ⟨_, _, h3, h4⟩ | ⟨_, _, h3, h4⟩ | ⟨_, _, h3, h4⟩ <;> omega
theorem a4v {h : Hs} (hs : a0u h.events) (hc : a7u h.events) : b7M h h.events ↔
   (Upto h.order.length fun i => ∀ o, h.order[i]? = some o → b9u h i o) ∧ Upto h.events.length fun i => ∀ e, h.events[i]? = some e → b8u h e := by
 unfold b7M
 refine and_congr ?_ ?_
 · have key : ∀ i o, b6M h h.events i o ↔ b9u h i o := by
     intro i o
     unfold b6M b9u
     constructor
     · rintro ⟨h1, h2, h3⟩
       exact ⟨h1, fun k hk t ht => ⟨(a3v hs t).1 (h3 k hk t ht).1, Nat.pos_iff_ne_zero.1 ((hc.spots _ _).1 (h3 k hk t ht).2.1), (h3 k hk t ht).2.2⟩, h2⟩
     · rintro ⟨h1, h2, h3⟩
       exact ⟨h1, h3, fun k hk t ht => ⟨(a3v hs t).2 (h2 k hk t ht).1, (hc.spots _ _).2 (Nat.pos_iff_ne_zero.2 (h2 k hk t ht).2.1), (h2 k hk t ht).2.2⟩⟩
   constructor
   · intro g i hi o ho; exact (key i o).1 (g i hi o ho)
   · intro g i hi o ho; exact (key i o).2 (g i hi o ho)
 · constructor
   · intro g i hi e he k3 k5
     have hm := List.mem_of_getElem? he
     exact g e.txn (e.table, e.key) ((a3v hs _).2 k5) ((hc.spots _ _).2 (a8u.2 ⟨e, hm, k3, rfl, rfl, rfl⟩))
   · rintro g t ⟨tab, k⟩ h1 h2
     obtain ⟨x, hx, k3, rfl, rfl, rfl⟩ := a8u.1 ((hc.spots _ _).1 h2)
     obtain ⟨i, hi⟩ := List.getElem?_of_mem hx
     exact g i (List.getElem?_eq_some_iff.1 hi).1 x hi k3 ((a3v hs _).1 h1)
theorem a5v (h : Hs) : a2r h ↔ b1v h := by
 unfold a2r b1v
 rw [a2v]
 have hT : ((1 ≤ h.tables.length ∧ h.tables.length ≤ 3) ∧ Upto h.tables.length fun i => ∀ t, h.tables[i]? = some t → TbOk t) ↔ b0v h := by
   unfold b0v
   refine and_congr_right fun _ => ?_
   constructor
   · intro g t ht
     obtain ⟨j, hj⟩ := List.getElem?_of_mem ht
     exact g j (List.getElem?_eq_some_iff.1 hj).1 t hj
   · intro g i hi t ht; exact g t (List.mem_of_getElem? ht)
 rw [hT]
 refine and_congr_right fun _ => ?_
 constructor
 · rintro ⟨g1, g2⟩
   have g3 := (a4v g1.good.1.stands g1.good.2).1 g2
   exact ⟨fun i hi e he => ⟨g1 i hi e he, g3.2 i hi e he⟩, g3.1⟩
 · rintro ⟨g1, g2⟩
   have g4 : a1v h h.events := fun i hi e he => (g1 i hi e he).1
   exact ⟨g4, (a4v g4.good.1.stands g4.good.2).2 ⟨g2, fun i hi e he => (g1 i hi e he).2⟩⟩
end Go.Rt
end

section
namespace Go.Rt
open Go.Vm
structure Eg where
 frm : Int
 to : Int
 kind : Int
 table : Int
 key : Vl
 cursor : Bool
 deriving DecidableEq
def Eg.cells (e : Eg) : List IV := [ci e.frm, ci e.to, ci e.kind, ci e.table, cb e.key.text, ci e.key.n, .v (.string e.key.s), cb e.cursor]
theorem Eg.cells_eq (e : Eg) : e.cells = [ci e.frm, ci e.to, ci e.kind, ci e.table, cb e.key.text, ci e.key.n, .v (.string e.key.s), cb e.cursor] := rfl
def Eg.av (e : Eg) : AV := .agg (e.cells.map .iv)
def egsC (l : List Eg) : List (List IV) := l.map Eg.cells
@[simp] theorem egsC_len (l : List Eg) : (egsC l).length = l.length := by simp [egsC]
@[simp] theorem egsC_get (l : List Eg) (i : Nat) : (egsC l)[i]? = (l[i]?).map Eg.cells := by simp [egsC]
theorem Eg.eq_iff {a b : Eg} : a = b ↔ a.frm = b.frm ∧ a.to = b.to ∧ a.kind = b.kind ∧ a.table = b.table ∧ a.key = b.key ∧ a.cursor = b.cursor := by
 obtain ⟨a1, a2, a3, a4, a5, a8⟩ := a
 obtain ⟨b1, b2, b3, b4, b5, b8⟩ := b
 simp
end Go.Rt
end

section
namespace Go.Rt
open Go.Vm
structure CmpOk {α : Type} (c : α → α → Int) : Prop where
 anti : ∀ a b, c a b < 0 ↔ 0 < c b a
 trans : ∀ a b d, c a b ≤ 0 → c b d ≤ 0 → c a d ≤ 0
def lexC {α : Type} (c1 c2 : α → α → Int) (a b : α) : Int := if c1 a b ≠ 0 then c1 a b else c2 a b
theorem CmpOk.lex {α : Type} {c1 c2 : α → α → Int} (h1 : CmpOk c1) (h2 : CmpOk c2) : CmpOk (lexC c1 c2) where
 anti := fun a b => by
   have p1 := h1.anti a b
   have p2 := h1.anti b a
   have q1 := h2.anti a b
   unfold lexC
   by_cases e : c1 a b = 0
   · have e2 : c1 b a = 0 := by omega
     rw [if_neg (by simpa using e), if_neg (by simpa using e2)]; exact q1
   · have e2 : c1 b a ≠ 0 := by omega
     rw [if_pos e, if_pos e2]; exact p1
 trans := fun a b d hab hbd => by
   have p1 := h1.anti a b
   have p2 := h1.anti b a
   have p3 := h1.anti b d
   have p4 := h1.anti d b
   have p5 := h1.anti a d
   have p6 := h1.anti d a
   have t1 := h1.trans a b d
   have t2 := h1.trans d a b
   have t3 := h1.trans b d a
   have q := h2.trans a b d
   unfold lexC at hab hbd ⊢
   split at hab <;> split at hbd <;> split <;> omega
theorem CmpOk.sub {α : Type} (f : α → Int) : CmpOk fun a b => f a - f b := ⟨fun a b => by omega, fun a b d h1 h2 => by omega⟩
theorem CmpOk.of {α β : Type} (f : α → β) {c : β → β → Int} (h : CmpOk c) : CmpOk fun a b => c (f a) (f b) := ⟨fun a b => h.anti _ _, fun a b d => h.trans _ _ _⟩
theorem b9h : ∀ (x y : List UInt8), Op.bytesLess x y = true ∨ x = y ∨ Op.bytesLess y x = true
 | [], [] => .inr (.inl rfl)
 | [], _ :: _ => .inl rfl
 | _ :: _, [] => .inr (.inr rfl)
 | a :: x, b :: y => by
   simp only [Op.bytesLess, Bool.or_eq_true, decide_eq_true_eq, Bool.and_eq_true, beq_iff_eq, List.cons.injEq]
   have hab : a < b ∨ a = b ∨ b < a := by
     rw [UInt8.lt_iff_toNat_lt, UInt8.lt_iff_toNat_lt, ← UInt8.toNat_inj]; omega
   rcases hab with h | rfl | h
   · exact .inl (.inl h)
   · rcases b9h x y with h | rfl | h
     · exact .inl (.inr ⟨rfl, h⟩)
     · exact .inr (.inl ⟨rfl, rfl⟩)
     · exact .inr (.inr (.inr ⟨rfl, h⟩))
   · exact .inr (.inr (.inl h))
theorem b0i (a b : ByteArray) : b4Q a b = true ∨ a = b ∨ b4Q b a = true := by
 unfold b4Q
 rcases b9h a.toList b.toList with h | h | h
 · exact .inl h
 · rw [b5G, b5G] at h
   exact .inr (.inl (by cases a; cases b; congr; exact Array.ext' h))
 · exact .inr (.inr h)
theorem b1i {a b c : ByteArray} (h1 : b4Q a b = true) (h2 : b4Q b c = true) : b4Q a c = true := a1t h1 h2
theorem b2i {a b : ByteArray} (h1 : b4Q a b = true) : b4Q b a = false := by
 cases h : b4Q b a with
 | false => rfl
 | true => have := b1i h1 h; rw [b2G] at this; cases this
theorem b3i : CmpOk scmp where
 anti := fun a b => by
   rw [a2t]
   unfold scmp
   rcases b0i a b with h | rfl | h
   · have hne : b ≠ a := by rintro rfl; rw [b2G] at h; cases h
     simp [h, b2i h, hne]
   · simp [b2G]
   · simp [h, b2i h]
 trans := fun a b d h1 h2 => by
   have le : ∀ x y : ByteArray, scmp x y ≤ 0 ↔ b4Q x y = true ∨ x = y := by
     intro x y
     unfold scmp
     by_cases h : b4Q x y = true
     · simp [h]
     · by_cases h' : x = y
       · subst h'; simp [b2G]
       · simp [h, h']
   rw [le] at *
   rcases h1 with h1 | rfl
   · rcases h2 with h2 | rfl
     · exact .inl (b1i h1 h2)
     · exact .inl h1
   · exact h2
theorem b4i : CmpOk icmp where
 anti := fun a b => by unfold icmp; split <;> split <;> (try split) <;> omega
 trans := fun a b d h1 h2 => by
   have le : ∀ x y : Int, icmp x y ≤ 0 ↔ x ≤ y := by
     intro x y
     unfold icmp
     by_cases h : x < y
     · rw [if_pos h]; omega
     · by_cases h' : y < x
       · rw [if_neg h, if_pos h']; omega
       · rw [if_neg h, if_neg h']; omega
   rw [le] at *; omega
theorem b5i : CmpOk Vl.cmp where
 anti := fun a b => by
   have h1 := b3i.anti a.s b.s
   have h2 := b4i.anti a.n b.n
   unfold Vl.cmp
   cases a.text <;> cases b.text <;> simp [h1, h2]
 trans := fun a b d => by
   have h1 := b3i.trans a.s b.s d.s
   have h2 := b4i.trans a.n b.n d.n
   unfold Vl.cmp
   cases a.text <;> cases b.text <;> cases d.text <;> simp <;> assumption
theorem b6i {a b : Vl} (ha : a.right = true) (hb : b.right = true) (h : a.cmp b = 0) : a = b := by
 rw [Vl.eq_iff]
 unfold Vl.right at ha hb
 unfold Vl.cmp at h
 cases hta : a.text <;> cases htb : b.text <;> simp only [hta, htb, if_true, if_false, Bool.false_eq_true] at h ha hb
 · unfold icmp at h
   refine ⟨rfl, by split at h <;> (try split at h) <;> omega, ?_⟩
   simp_all
 · omega
 · omega
 · unfold scmp at h
   have hs : a.s = b.s := by
     split at h
     · omega
     · split at h
       · assumption
       · omega
   simp_all
def Eg.cmp0 (a b : Eg) : Int :=
 if IntKind.i64.wrap (a.frm - b.frm) ≠ 0 then IntKind.i64.wrap (a.frm - b.frm)
 else if IntKind.i64.wrap (a.to - b.to) ≠ 0 then IntKind.i64.wrap (a.to - b.to)
 else if IntKind.i64.wrap (a.kind - b.kind) ≠ 0 then IntKind.i64.wrap (a.kind - b.kind)
 else if IntKind.i64.wrap (a.table - b.table) ≠ 0 then IntKind.i64.wrap (a.table - b.table)
 else a.key.cmp b.key
def Eg.cmp (a b : Eg) : Int := if a.cmp0 b ≠ 0 ∨ a.cursor = b.cursor then a.cmp0 b else if b.cursor = true then -1 else 1
def Eg.cmpN : Eg → Eg → Int := lexC (fun a b => a.frm - b.frm) (lexC (fun a b => a.to - b.to) (lexC (fun a b => a.kind - b.kind) (lexC (fun a b => a.table - b.table)
 (lexC (fun a b => a.key.cmp b.key) fun a b => (if a.cursor = true then 1 else 0) - (if b.cursor = true then 1 else 0)))))
theorem b7i : CmpOk Eg.cmpN := (CmpOk.sub Eg.frm).lex ((CmpOk.sub Eg.to).lex ((CmpOk.sub Eg.kind).lex ((CmpOk.sub Eg.table).lex ((b5i.of Eg.key).lex (CmpOk.sub fun e : Eg => if e.cursor = true then 1 else 0)))))
def Eg.lss (a b : Eg) : Bool :=
 if a.frm ≠ b.frm then decide (a.frm < b.frm) else if a.to ≠ b.to then decide (a.to < b.to) else if a.kind ≠ b.kind then decide (a.kind < b.kind)
 else if a.table ≠ b.table then decide (a.table < b.table) else if a.key.cmp b.key ≠ 0 then decide (a.key.cmp b.key < 0) else !a.cursor && b.cursor
theorem b8i (a b : Eg) : a.lss b = true ↔ a.cmpN b < 0 := by
 unfold Eg.lss Eg.cmpN lexC
 by_cases h1 : a.frm = b.frm
 · by_cases h2 : a.to = b.to
   · by_cases h3 : a.kind = b.kind
     · by_cases h4 : a.table = b.table
       · by_cases h5 : a.key.cmp b.key = 0
         · simp only [h1, h2, h3, h4, h5]
           cases a.cursor <;> cases b.cursor <;> simp
         · simp [h1, h2, h3, h4, h5]
       · have : a.table - b.table ≠ 0 := by omega
         simp only [h1, h2, h3, ne_eq, not_true, if_false, h4, not_false_eq_true, if_true, this, Int.sub_self, decide_eq_true_eq]; omega
     · have : a.kind - b.kind ≠ 0 := by omega
       simp only [h1, h2, ne_eq, not_true, if_false, h3, not_false_eq_true, if_true, this, Int.sub_self, decide_eq_true_eq]; omega
   · have : a.to - b.to ≠ 0 := by omega
     simp only [h1, ne_eq, not_true, if_false, h2, not_false_eq_true, if_true, this, Int.sub_self, decide_eq_true_eq]; omega
 · have : a.frm - b.frm ≠ 0 := by omega
   simp only [ne_eq, h1, not_false_eq_true, if_true, this, decide_eq_true_eq]; omega
theorem b9i {a b c : Eg} (h1 : a.lss b = true) (h2 : b.lss c = true) : a.lss c = true := by
 rw [b8i] at *
 have t1 := b7i.trans a b c (by omega) (by omega)
 have t2 := b7i.trans b c a (by omega)
 have := b7i.anti a c
 have := b7i.anti c a
 have := b7i.anti a b
 have := b7i.anti b a
 omega
theorem b0j {a b : Eg} (h : a.lss b = true) : b.lss a = false := by
 rw [← Bool.not_eq_true]
 intro h2
 rw [b8i] at *
 have := b7i.anti a b
 omega
theorem b1j (a : Eg) : a.lss a = false := by
 rw [← Bool.not_eq_true]
 intro h
 have := b0j h
 rw [h] at this; cases this
def Eg.Rt (e : Eg) : Prop := e.key.right = true
theorem b2j {a b : Eg} (ha : a.Rt) (hb : b.Rt) (h1 : a.lss b = false) (h2 : b.lss a = false) : a = b := by
 rw [← Bool.not_eq_true, b8i] at h1 h2
 have h3 := b7i.anti a b
 have h4 := b7i.anti b a
 have h0 : a.cmpN b = 0 := by omega
 unfold Eg.cmpN lexC at h0
 rw [Eg.eq_iff]
 by_cases e1 : a.frm - b.frm = 0
 · by_cases e2 : a.to - b.to = 0
   · by_cases e3 : a.kind - b.kind = 0
     · by_cases e4 : a.table - b.table = 0
       · by_cases e5 : a.key.cmp b.key = 0
         · simp only [e1, e2, e3, e4, e5, ne_eq, not_true, if_false] at h0
           refine ⟨by omega, by omega, by omega, by omega, b6i ha hb e5, ?_⟩
           revert h0
           cases a.cursor <;> cases b.cursor <;> simp
         · simp only [e1, e2, e3, e4, ne_eq, not_true, if_false, e5, not_false_eq_true, if_true] at h0
       · simp only [e1, e2, e3, ne_eq, not_true, if_false, e4, not_false_eq_true, if_true] at h0
     · simp only [e1, e2, ne_eq, not_true, if_false, e3, not_false_eq_true, if_true] at h0
   · simp only [e1, ne_eq, not_true, if_false, e2, not_false_eq_true, if_true] at h0
 · simp only [ne_eq, e1, not_false_eq_true, if_true] at h0
def Rise (l : List Eg) : Prop := l.Pairwise fun a b => a.lss b = true
theorem Rise.nodup {l : List Eg} (h : Rise l) : l.Nodup := h.imp fun {a b} hab e => by subst e; rw [b1j] at hab; cases hab
theorem b3j {l r : List Eg} (hl : Rise l) (hr : Rise r) (h : ∀ e, e ∈ l ↔ e ∈ r) : l = r :=
 List.Perm.eq_of_pairwise (le := fun a b : Eg => a.lss b = true) (fun a b _ _ h1 h2 => by have := b0j h1; rw [h2] at this; cases this) hl hr ((List.perm_ext_iff_of_nodup hl.nodup hr.nodup).2 h)
def insE (e : Eg) : List Eg → List Eg
 | [] => [e]
 | x :: r => if x.lss e = true then x :: insE e r else if x = e then x :: r else e :: x :: r
theorem b4j {e m : Eg} : ∀ {l : List Eg}, m ∈ insE e l ↔ m = e ∨ m ∈ l
 | [] => by simp [insE]
 | x :: r => by
   unfold insE
   split
   · rw [List.mem_cons, b4j, List.mem_cons]; grind
   · split
     · rename_i h; subst h; rw [List.mem_cons]; grind
     · rw [List.mem_cons]
theorem b5j {e : Eg} (he : e.Rt) : ∀ {l : List Eg}, (∀ x, x ∈ l → x.Rt) → Rise l → Rise (insE e l)
 | [], _, _ => List.pairwise_singleton _ _
 | x :: r, hD, h => by
   obtain ⟨h1, h2⟩ := List.pairwise_cons.1 h
   unfold insE
   split
   · rename_i hx
     refine List.pairwise_cons.2 ⟨fun y hy => ?_, b5j he (fun y hy => hD y (List.mem_cons_of_mem _ hy)) h2⟩
     rcases b4j.1 hy with rfl | hy
     · exact hx
     · exact h1 y hy
   · rename_i hx
     split
     · exact h
     · rename_i hne
       have hex : e.lss x = true := by
         cases hc : e.lss x with
         | true => rfl
         | false => exact absurd (b2j (hD x List.mem_cons_self) he (by simpa using hx) hc) hne
       refine List.pairwise_cons.2 ⟨fun y hy => ?_, h⟩
       rcases List.mem_cons.1 hy with rfl | hy
       · exact hex
       · exact b9i hex (h1 y hy)
def putE (l : List Eg) (e : Eg) : List Eg := if e.frm = e.to then l else insE e l
theorem b6j {m : Eg} : ∀ {es l : List Eg}, m ∈ es.foldl putE l ↔ m ∈ l ∨ (m ∈ es ∧ m.frm ≠ m.to)
 | [], l => by simp
 | e :: es, l => by
   rw [List.foldl_cons, b6j, List.mem_cons]
   unfold putE
   split
   · rename_i h; grind
   · rename_i h; rw [b4j]; grind
theorem b7j : ∀ {es l : List Eg}, (∀ x, x ∈ l → x.Rt) → (∀ x, x ∈ es → x.Rt) → Rise l → Rise (es.foldl putE l)
 | [], _, _, _, h => h
 | e :: es, l, hl, he, h => by
   rw [List.foldl_cons]
   have h0 := he e List.mem_cons_self
   refine b7j ?_ (fun x hx => he x (List.mem_cons_of_mem _ hx)) ?_
   · intro x hx
     unfold putE at hx
     split at hx
     · exact hl x hx
     · rcases b4j.1 hx with rfl | hx
       · exact h0
       · exact hl x hx
   · unfold putE
     split
     · exact h
     · exact b5j h0 hl h
theorem b8j : ∀ {es l : List Eg}, (es.foldl putE l).length ≤ l.length + es.length
 | [], l => by simp
 | e :: es, l => by
   rw [List.foldl_cons]
   have h1 := b8j (es := es) (l := putE l e)
   have h2 : (putE l e).length ≤ l.length + 1 := by
     unfold putE
     split
     · omega
     · clear h1
       induction l with
       | nil => simp [insE]
       | cons x r ih =>
         unfold insE
         split
         · simpa using ih
         · split <;> simp
   simp only [List.length_cons]; omega
structure Eg.D (e : Eg) : Prop where
 rt : e.Rt
 frm : 0 ≤ e.frm ∧ e.frm < 2 ^ 63
 to : 0 ≤ e.to ∧ e.to < 2 ^ 63
 kind : 0 ≤ e.kind ∧ e.kind < 2 ^ 63
 table : 0 ≤ e.table ∧ e.table < 2 ^ 63
theorem cmp_N {a b : Eg} (ha : a.D) (hb : b.D) : a.cmp b = a.cmpN b := by
 obtain ⟨_, a1, a2, a3, a4⟩ := ha
 obtain ⟨_, b1, b2, b3, b4⟩ := hb
 have w1 := c8z (n := a.frm - b.frm) (by omega)
 have w2 := c8z (n := a.to - b.to) (by omega)
 have w3 := c8z (n := a.kind - b.kind) (by omega)
 have w4 := c8z (n := a.table - b.table) (by omega)
 unfold Eg.cmp Eg.cmp0 Eg.cmpN lexC
 rw [w1, w2, w3, w4]
 by_cases e1 : a.frm - b.frm = 0
 · by_cases e2 : a.to - b.to = 0
   · by_cases e3 : a.kind - b.kind = 0
     · by_cases e4 : a.table - b.table = 0
       · by_cases e5 : a.key.cmp b.key = 0
         · simp only [e1, e2, e3, e4, e5, ne_eq, not_true, if_false, false_or]
           cases a.cursor <;> cases b.cursor <;> simp
         · simp only [e1, e2, e3, e4, e5, ne_eq, not_true, if_false, not_false_eq_true, true_or, if_true]
       · simp only [e1, e2, e3, e4, ne_eq, not_true, if_false, not_false_eq_true, true_or, if_true]
     · simp only [e1, e2, e3, ne_eq, not_true, if_false, not_false_eq_true, true_or, if_true]
   · simp only [e1, e2, ne_eq, not_true, if_false, not_false_eq_true, true_or, if_true]
 · simp only [e1, ne_eq, not_false_eq_true, true_or, if_true]
end Go.Rt
end

section
namespace Go.Rt
open Go.Vm
def c3H {α : Type} (p : α → Bool) (l : List α) : Option α := l.foldl (fun s e => if p e = true then some e else s) none
theorem c4H {α : Type} (p : α → Bool) (l : List α) (e : α) : c3H p (l ++ [e]) = if p e = true then some e else c3H p l := by
 unfold c3H; rw [List.foldl_append]; rfl
theorem c5H {α : Type} (p : α → Bool) : c3H p [] = none := rfl
theorem c6H {α : Type} (p : α → Bool) (l : List α) : c3H p l = l.reverse.find? p := by
 suffices h : ∀ r : List α, c3H p r.reverse = r.find? p by
   have := h l.reverse; rwa [List.reverse_reverse] at this
 intro r
 induction r with
 | nil => rfl
 | cons a r ih =>
   rw [List.reverse_cons, c4H, List.find?_cons, ih]
   cases p a <;> rfl
theorem c7H {α : Type} {p : α → Bool} {l : List α} : c3H p l = none ↔ ∀ e, e ∈ l → p e = false := by
 rw [c6H, List.find?_eq_none]
 simp only [List.mem_reverse, Bool.not_eq_true]
theorem c8H {α : Type} {p : α → Bool} {l : List α} {e : α} (h : c3H p l = some e) : e ∈ l ∧ p e = true := by
 rw [c6H] at h
 exact ⟨List.mem_reverse.1 (List.mem_of_find?_eq_some h), List.find?_some h⟩
abbrev skL : Sk := (false, [.i .i64], false)
abbrev skR : Sk := (true, [.i .i64, .b, .i .i64, .s, .i .i64, .i .i64], false)
abbrev skC : Sk := (true, [.i .i64, .b, .i .i64, .s], false)
def Ev.isB (t : Int) (e : Ev) : Bool := decide (e.kind = 1) && decide (e.txn = t)
def Ev.isN (txn table : Int) (k : Vl) (m : Int) (e : Ev) : Bool := e.isW txn table k && decide (e.n = m)
def Ins.isO (table : Int) (k : Vl) (o : Ins) : Bool := decide (o.table = table) && decide (o.key = k)
def vsC (l : List Vs) : List (List IV) := l.map Vs.cells
@[simp] theorem vsC_len (l : List Vs) : (vsC l).length = l.length := by simp [vsC]
@[simp] theorem c9H (l : List Vs) (i : Nat) : (vsC l)[i]? = (l[i]?).map Vs.cells := by simp [vsC]
def gLv (es : List Ev) : List Value → Option (List IV)
 | [.int .i64 t] => (c3H (Ev.isB t) es).map fun e => [ci e.level]
 | _ => none
def gRw (es : List Ev) : List Value → Option (List IV)
 | [.int .i64 table, .bool t, .int .i64 n, .string s, .int .i64 txn, .int .i64 m] => (c3H (Ev.isN txn table ⟨t, n, s⟩ m) es).map fun e => [.lst 3 (rowC e.row)]
 | _ => none
def gLs (es : List Ev) : List Value → Option (List IV)
 | [.int .i64 table, .bool t, .int .i64 n, .string s, .int .i64 txn, .int .i64 m] => if m = 0 then (c3H (Ev.isW txn table ⟨t, n, s⟩) es).map fun e => [ci e.n] else none
 | _ => none
def c0I (es : List Ev) (txn table : Int) (k : Vl) : Int := ((c3H (Ev.isW txn table k) es).map Ev.n).getD 0
def chnI (es : List Ev) (o : Ins) : List Vs := ⟨0, 0⟩ :: o.txns.map fun txn => ⟨txn, c0I es txn o.table o.key⟩
def gCh (es : List Ev) (os : List Ins) : List Value → Option (List IV)
 | [.int .i64 table, .bool t, .int .i64 n, .string s] => (c3H (Ins.isO table ⟨t, n, s⟩) os).map fun o => [.lst 2 (vsC (chnI es o))]
 | _ => none
theorem c1I : gLv [] = fun _ => none := by funext q; unfold gLv; split <;> rfl
theorem c2I : gRw [] = fun _ => none := by funext q; unfold gRw; split <;> rfl
theorem c3I : gLs [] = fun _ => none := by
 funext q; unfold gLs; split
 · split <;> rfl
 · rfl
theorem c4I (es : List Ev) : gCh es [] = fun _ => none := by funext q; unfold gCh; split <;> rfl
theorem c5I {es : List Ev} {e : Ev} (hk : e.kind = 1) : gset (gLv es) [.int .i64 e.txn] (some [ci e.level]) = gLv (es ++ [e]) := by
 funext q
 simp only [gset]
 split
 · rename_i h; subst h
   simp [gLv, c4H, Ev.isB, hk]
 · rename_i hne
   unfold gLv
   split
   · rename_i t
     rw [c4H, if_neg]
     simp only [Ev.isB, Bool.and_eq_true, decide_eq_true_eq]
     rintro ⟨_, rfl⟩; exact hne rfl
   · rfl
theorem c6I {es : List Ev} {e : Ev} (hk : e.kind ≠ 1) : gLv (es ++ [e]) = gLv es := by
 funext q
 unfold gLv
 split
 · rw [c4H, if_neg]
   simp [Ev.isB, hk]
 · rfl
theorem c7I {e : Ev} (hk : e.kind = 3) : e.isW e.txn e.table e.key = true := Ev.isW_iff.2 ⟨hk, rfl, rfl, rfl, rfl, rfl⟩
theorem c8I {es : List Ev} {e : Ev} (hk : e.kind = 3) :
   gset (gRw es) [.int .i64 e.table, .bool e.key.text, .int .i64 e.key.n, .string e.key.s, .int .i64 e.txn, .int .i64 e.n] (some [.lst 3 (rowC e.row)]) = gRw (es ++ [e]) := by
 funext q
 simp only [gset]
 split
 · rename_i h; subst h
   have : e.isN e.txn e.table e.key e.n = true := by unfold Ev.isN; rw [c7I hk]; simp
   simp [gRw, c4H, this]
 · rename_i hne
   unfold gRw
   split
   · rename_i table t n s txn m
     rw [c4H, if_neg]
     simp only [Ev.isN, Bool.and_eq_true, decide_eq_true_eq, Ev.isW_iff]
     rintro ⟨⟨_, h1, h2, h3, h4, h5⟩, h6⟩
     subst h1 h2 h3 h4 h5 h6
     exact hne rfl
   · rfl
theorem c9I {es : List Ev} {e : Ev} (hk : e.kind ≠ 3) : gRw (es ++ [e]) = gRw es := by
 funext q
 unfold gRw
 split
 · rw [c4H, if_neg]
   simp only [Ev.isN, Bool.and_eq_true, decide_eq_true_eq, Ev.isW_iff]
   exact fun h => hk h.1.1
 · rfl
theorem c0J {es : List Ev} {e : Ev} (hk : e.kind = 3) :
   gset (gLs es) [.int .i64 e.table, .bool e.key.text, .int .i64 e.key.n, .string e.key.s, .int .i64 e.txn, .int .i64 0] (some [ci e.n]) = gLs (es ++ [e]) := by
 funext q
 simp only [gset]
 split
 · rename_i h; subst h
   have := c7I hk
   simp [gLs, c4H, this]
 · rename_i hne
   unfold gLs
   split
   · rename_i table t n s txn m
     by_cases hm : m = 0
     · rw [if_pos hm, if_pos hm, c4H, if_neg]
       simp only [Ev.isW_iff]
       rintro ⟨_, h1, h2, h3, h4, h5⟩
       subst h1 h2 h3 h4 h5 hm
       exact hne rfl
     · rw [if_neg hm, if_neg hm]
   · rfl
theorem c1J {es : List Ev} {e : Ev} (hk : e.kind ≠ 3) : gLs (es ++ [e]) = gLs es := by
 funext q
 unfold gLs
 split
 · split
   · rw [c4H, if_neg]
     simp only [Ev.isW_iff]
     exact fun h => hk h.1
   · rfl
 · rfl
theorem c2J (es : List Ev) (os : List Ins) (o : Ins) : gset (gCh es os) [.int .i64 o.table, .bool o.key.text, .int .i64 o.key.n, .string o.key.s] (some [.lst 2 (vsC (chnI es o))]) = gCh es (os ++ [o]) := by
 funext q
 simp only [gset]
 split
 · rename_i h; subst h
   simp [gCh, c4H, Ins.isO]
 · rename_i hne
   unfold gCh
   split
   · rename_i table t n s
     rw [c4H, if_neg]
     simp only [Ins.isO, Bool.and_eq_true, decide_eq_true_eq, Vl.eq_iff]
     rintro ⟨h1, h2, h3, h4⟩
     subst h1 h2 h3 h4
     exact hne rfl
   · rfl
@[simp] theorem lk_gLs (es : List Ev) (txn table : Int) (t : Bool) (n : Int) (s : ByteArray) :
   lkR [.iv (.v (.int .i64 0))] false false (gLs es [.int .i64 table, .bool t, .int .i64 n, .string s, .int .i64 txn, .int .i64 0]) = vi (c0I es txn table ⟨t, n, s⟩) := by
 simp only [gLs, if_true, c0I]
 cases c3H (Ev.isW txn table ⟨t, n, s⟩) es <;> rfl
def c3J (es : List Ev) : List Int := (es.filter fun e => decide (e.kind = 5)).map Ev.txn
theorem c4J : c3J [] = [] := rfl
theorem c5J (es : List Ev) (e : Ev) : c3J (es ++ [e]) = c3J es ++ if e.kind = 5 then [e.txn] else [] := by
 unfold c3J
 rw [List.filter_append, List.map_append]
 congr 1
 by_cases h : e.kind = 5 <;> simp [h]
theorem c6J (es : List Ev) : (c3J es).length ≤ es.length := by
 unfold c3J; rw [List.length_map]; exact List.length_filter_le _ _
end Go.Rt
end

section
namespace Go.Rt
open Go.Vm
section
variable {h : Hs}
theorem b0h (hw : b1v h) {i : Nat} {e : Ev} (he : h.events[i]? = some e) : b6u h (h.events.take i) e ∧ b8u h e := hw.2.1 i (List.getElem?_eq_some_iff.1 he).1 e he
theorem b1h (hw : b1v h) {i : Nat} {o : Ins} (ho : h.order[i]? = some o) : b9u h i o := hw.2.2 i (List.getElem?_eq_some_iff.1 ho).1 o ho
theorem b2h (hw : b1v h) {i : Nat} {e : Ev} (he : h.events[i]? = some e) (hk : e.kind = 3) : b5v h (h.events.take i) e := (b0h hw he).1.2.2.1 hk
theorem b3h {e : Ev} {txn table : Int} {k : Vl} (h : e.isW txn table k = true) : e.kind = 3 ∧ e.txn = txn ∧ e.table = table ∧ e.key = k := by
 obtain ⟨h1, h2, h3, h4, h5, h6⟩ := Ev.isW_iff.1 h
 exact ⟨h1, h2, h3, Vl.eq_iff.2 ⟨h4, h5, h6⟩⟩
theorem b4h (hw : b1v h) {i : Nat} {e : Ev} (he : h.events[i]? = some e) {txn table : Int} {k : Vl} (hk : e.isW txn table k = true) : e.n = c2u (h.events.take i) txn table k + 1 := by
 obtain ⟨h1, rfl, rfl, rfl⟩ := b3h hk
 exact (b2h hw he h1).2.1
theorem b5h (hw : b1v h) (txn table : Int) (k : Vl) : ∀ i, i ≤ h.events.length → c0I (h.events.take i) txn table k = c2u (h.events.take i) txn table k := by
 intro i
 induction i with
 | zero => intro _; simp [c0I, c5H, c2u]
 | succ i ih =>
   intro hi
   obtain ⟨e, he⟩ := c7z (l := h.events) (i := i) (by omega)
   have h1 := c3u he txn table k
   have htn : h.events.take (i + 1) = h.events.take i ++ [e] := by rw [List.take_add_one, he]; rfl
   rw [h1]
   unfold c0I
   rw [htn, c4H]
   by_cases hk : e.isW txn table k = true
   · rw [if_pos hk, if_pos hk]
     have := b4h hw he hk
     simp [this]
   · rw [if_neg hk, if_neg hk]
     have := ih (by omega)
     unfold c0I at this
     rw [this]; simp
theorem b6h (hw : b1v h) (txn table : Int) (k : Vl) : c0I h.events txn table k = c2u h.events txn table k := by
 have := b5h hw txn table k h.events.length (Nat.le_refl _)
 rwa [List.take_length] at this
theorem b7h {v : Vl} (h : v.right = true) : v.s.size < 2 ^ 63 := by
 unfold Vl.right at h
 split at h
 · simp only [Bool.and_eq_true, decide_eq_true_eq] at h; omega
 · simp only [decide_eq_true_eq] at h; rw [h]; decide
theorem b8h (hw : b1v h) {e : Ev} (he : e ∈ h.events) (hk : e.kind = 3) : e.row.length < 2 ^ 40 ∧ ∀ x, x ∈ e.row → x.s.size < 2 ^ 63 := by
 obtain ⟨i, hi⟩ := List.getElem?_of_mem he
 rcases (b2h hw hi hk).2.2 with h1 | ⟨t, h1, h2, _⟩
 · rw [h1]; simp
 · obtain ⟨f1, f2, f3⟩ := h2
   have : t.length ≤ 4 := f1.2
   refine ⟨by omega, fun x hx => ?_⟩
   obtain ⟨j, hj⟩ := List.getElem?_of_mem hx
   have hjl := (List.getElem?_eq_some_iff.1 hj).1
   obtain ⟨c, hc⟩ := c7z (l := t) (i := j) (by omega)
   exact b7h (f3 j hjl x c hj hc).2
end
end Go.Rt
end

section
namespace Go.Vm
@[simp] theorem ev_nilc {s : St} : s.ev (.const (.slice none 0 0)) = .nil 0 := rfl
def nilLe : List AV → List AV → Prop
 | [], [] => True
 | x :: r, y :: q => (x = y ∨ ∃ a b, x = .nil a ∧ y = .nil b) ∧ nilLe r q
 | _, _ => False
@[simp] theorem b9j : nilLe [] [] ↔ True := ⟨fun h => h, fun h => h⟩
@[simp] theorem b0k {x y : AV} {r q : List AV} : nilLe (x :: r) (y :: q) ↔ (x = y ∨ ∃ a b, x = .nil a ∧ y = .nil b) ∧ nilLe r q := ⟨fun h => h, fun h => h⟩
theorem a6q {P : Program} {c : VCode} {s s' : St} {O : Outs} (h : Le s s') (k : a7L P c s' O) : a7L P c s O := by
 obtain ⟨I, h3, h4⟩ := k
 exact ⟨I, h3.le h, h4⟩
end Go.Vm
end

section
namespace Go.Vm
theorem c1M {s : St} {id k : Nat} (h : k ∈ (s.drop id).hp.map (·.1)) : k ∈ s.hp.map (·.1) := by
 obtain ⟨o, ho⟩ := c9A h
 cases hs : look s.hp k with
 | none => rw [a2C hs] at ho; cases ho
 | some o' => exact a3F hs
theorem c2M (D : List Nat) : ∀ {s : St} {k : Nat}, k ∈ (s.drops D).hp.map (·.1) → k ∈ s.hp.map (·.1) := by
 induction D with
 | nil => intro s k h; exact h
 | cons i D ih => intro s k h; exact c1M (ih h)
def EndD (D : List Nat) (t : Nat) (x : IV) (s : St) : Prop := D.all (· < 1000) = true ∧ (s.drops D).get t = .iv x ∧ a6C s.hp = true
attribute [simp] EndD
theorem c3M {P : Program} {f : FuncId} {args : List AV} {x : IV} {n t : Nat} {c : VCode} (D : List Nat) (hf : fnV P f = some (n, c, [.tmp t]))
   (hargs : args.length ≤ n) (hn : n ≤ 999) (h : wpV P c ⟨b8S 0 args, []⟩ ⟨EndD D t x, fun _ _ => False, EndD D t x, fun _ _ => False⟩) : b9l P false f args [] (.iv x) [] :=
 c2B hf hargs rfl rfl (a8D (b2Y hn _ _ _ h) fun s h => by
   have hk : ((s.drops D).hp.map (·.1)).all (· < 1000) = true := by
     rw [List.all_eq_true]
     intro k hk
     exact List.all_eq_true.1 (a9C h.2.2) k (c2M D hk)
   refine ⟨(s.drops D).drops ((s.drops D).hp.map (·.1)), [.iv x], (b2Z D h.1 s).trans (b2Z _ hk _), ?_, rfl, fun id => ?_, fun h => by cases h⟩
   · simp [resV, a1C _ h.2.1]
   · refine a3C _ ?_
     cases hl : look (s.drops D).hp id with
     | none => exact .inr rfl
     | some o => exact .inl (List.contains_iff_mem.1 (b3m hl)))
theorem c4M {s : St} {t id j sz lo len : Nat} (hj : id ≠ j) (h : s.get t = .sl j sz lo len) : (s.drop id).get t = .sl j sz lo len := by
 unfold St.drop
 split
 · exact h
 · simp only [St.get, St.mapc] at h ⊢
   rw [b6H (AV.mapc _)]
   cases hl : look s.fr t with
   | none => rw [hl] at h; cases h
   | some y =>
     rw [hl] at h
     simp only [Option.getD_some] at h
     subst h
     simp only [Option.map_some, Option.getD_some, AV.mapc, AV.fc]
     rw [if_neg (Ne.symm hj)]
     simp only [AV.kc]
     rw [if_neg (by simpa using Ne.symm hj)]
theorem c5M {s : St} {id j sz : Nat} {xs : List (List IV)} (hj : id ≠ j) (h : look s.hp j = some (.list sz xs)) : look (s.drop id).hp j = some (.list sz xs) := by
 unfold St.drop
 split
 · exact h
 · simp only [b7H, c0e, h, Option.map_some]
   rw [if_neg (Ne.symm hj)]
   rfl
theorem c6M (D : List Nat) : ∀ {s : St} {t j sz len : Nat} {xs : List (List IV)}, j ∉ D → s.get t = .sl j sz 0 len → look s.hp j = some (.list sz xs) → (s.drops D).get t = .sl j sz 0 len ∧ look (s.drops D).hp j = some (.list sz xs) := by
 induction D with
 | nil => intro s t j sz len xs _ h1 h2; exact ⟨h1, h2⟩
 | cons i D ih =>
   intro s t j sz len xs hj h1 h2
   have hij : i ≠ j := fun e => hj (by simp [e])
   exact ih (fun h => hj (List.mem_cons_of_mem _ h)) (c4M hij h1) (c5M hij h2)
def EndN (j sz t : Nat) (xs : List (List IV)) (s : St) : Prop := s.get t = .sl j sz 0 xs.length ∧ look s.hp j = some (.list sz xs) ∧ a6C s.hp = true
attribute [simp] EndN
theorem c7M {P : Program} {f : FuncId} {args : List AV} {n t : Nat} {c : VCode} (j sz : Nat) (xs : List (List IV)) (hf : fnV P f = some (n, c, [.tmp t]))
   (hargs : args.length ≤ n) (hn : n ≤ 999) (hx : ∀ x ∈ xs, ∀ y ∈ x, y.flat = true) (h : wpV P c ⟨b8S 0 args, []⟩ ⟨EndN j sz t xs, fun _ _ => False, EndN j sz t xs, fun _ _ => False⟩) :
   b9l P true f args [] (.sl j sz 0 xs.length) [(j, .list sz xs)] :=
 c2B hf hargs rfl rfl (a8D (b2Y hn _ _ _ h) fun s h => by
   obtain ⟨h1, h2, h3⟩ := h
   let D := (s.hp.map (·.1)).filter (· ≠ j)
   have hD : D.all (· < 1000) = true := by
     rw [List.all_eq_true]
     intro k hk
     exact List.all_eq_true.1 (a9C h3) k (List.mem_filter.1 hk).1
   have hj : j ∉ D := fun hk => by have := (List.mem_filter.1 hk).2; simp at this
   obtain ⟨g1, g2⟩ := c6M D hj h1 h2
   refine ⟨s.drops D, [.sl j sz 0 xs.length], b2Z D hD s, by simp [resV, g1], rfl, fun id => ?_, fun _ => ⟨rfl, fun id o ho => ?_⟩⟩
   · simp only [look]
     by_cases e : j = id
     · subst e; rw [if_pos rfl]; exact g2
     · rw [if_neg e]
       refine a3C _ ?_
       cases hl : look s.hp id with
       | none => exact .inr rfl
       | some o => exact .inl (List.mem_filter.2 ⟨a3F hl, by simpa using Ne.symm e⟩)
   · simp only [look] at ho
     split at ho
     · cases ho; exact hx
     · cases ho)
theorem b9l.fresh {P : Program} {f : FuncId} {args : List AV} {j sz n : Nat} {xs : List (List IV)} (h : b9l P true f args [] (.sl j sz 0 n) [(j, .list sz xs)]) (d : Nat)
   (hs : args.all AV.shal = true) (ha : ∀ ρ : Nat → Nat, args.map (AV.ren ρ) = args) : b9l P true f args [] (.sl d sz 0 n) [(d, .list sz xs)] := by
 have := h.ren (Ren.swap j d) (by simp [hs, AV.shal, AV.shal2, AV.shal1, Ob.shal])
 rw [ha] at this
 have e : (Ren.swap j d).to j = d := by simp [Ren.swap, a0m]
 simpa [Hp.ren, AV.ren, AV.ren2, AV.ren1, Ob.ren, e] using this
theorem c8M {P : Program} {d : Nat} {f : FuncId} {ops : List Operand} {s : St} {K : St → AV → Prop} {args : List AV} {sz n : Nat} {xs : List (List IV)} (h : b9l P true f args [] (.sl d sz 0 n) [(d, .list sz xs)]) (hd : d < 1000)
   (ha : (((s.drop d).args [] ops []).map ((s.drop d).arg true [])) = args) (hr : args.all (AV.inns []) = true) (hk : K ((s.drop d).join [(d, .list sz xs)]) (.sl d sz 0 n)) : a5L P d f [] ops [] none s K := by
 refine b6K ⟨s, Le.refl s, true, [], .sl d sz 0 n, [(d, .list sz xs)], s.drop d, rfl, trivial, { spec := ?_, refs := ?_, sub := fun _ _ h => ?_, own := fun _ _ h => ?_, keep := fun _ _ h => ?_, new := fun id o h1 _ => ?_ }, hk⟩
 · rw [List.map_nil, ha]; exact h
 · rw [List.map_nil, ha]; exact hr
 · cases h
 · cases h
 · cases h
 · simp only [look] at h1
   split at h1
   · rename_i e; subst e; exact ⟨a9w s d, hd⟩
   · cases h1
end Go.Vm
end

section
namespace Go.Vm
def EndC (D : List Nat) (t j : Nat) (cs : List IV) (s : St) : Prop := D.all (· < 1000) = true ∧ (s.drops D).get t = .ptr j 0 ∧ look (s.drops D).hp j = some (.box (cs.map .iv)) ∧ a6C s.hp = true
attribute [simp] EndC
end Go.Vm
end

section
namespace Go.Rt
open Go.Vm
theorem b4z {xs : List (List IV)} (hl : xs.length < 2 ^ 40) : b9l prog false n_a4b [.iv (.lst 1 xs)] [] (.iv (.lst 1 xs)) [] := by
 refine c3M [2, 5] a4b_is (by simp) (by decide) ?_
 by_cases h : xs = []
 · subst h
   simp -dsimp [a5b_int]
 · simp -dsimp [a5b_int, h]
   omega
theorem b5z {xs : List (List IV)} (hl : xs.length < 2 ^ 40) : b9l prog false n_a0d [.iv (.lst 3 xs)] [] (.iv (.lst 3 xs)) [] := by
 refine c3M [2, 5] a0d_is (by simp) (by decide) ?_
 by_cases h : xs = []
 · subst h
   simp -dsimp [a0d]
 · simp -dsimp [a0d, h]
   omega
theorem b6z {xs : List (List IV)} (hl : xs.length < 2 ^ 40) : b9l prog false n_a3b [.iv (.lst 3 xs)] [] (.iv (.lst 3 xs)) [] := by
 refine c3M [2] a3b_is (by simp) (by decide) ?_
 simp -dsimp [a3b]
 refine a8G (b5z hl) rfl (by simp) (by simp) (by simp) (by simp) (by simp) (by simp) (by simp) ?_
 simp -dsimp
end Go.Rt
end

section
namespace Go.Rt
open Go.Vm
def c1t (o c d : Int) : Bool :=
 if o = 3 then c == 0 else if o = 4 then c != 0 else if o = 5 then decide (c < 0) else if o = 6 then decide (c ≤ 0) else if o = 7 then decide (0 < c) else if o = 8 then decide (0 ≤ c) else decide (0 ≤ c) && decide (d ≤ 0)
def Pd.leafB (p : Pd) (r : List Vl) : Bool := if p.col < 0 ∨ (r.length : Int) ≤ p.col then false else match r[p.col.toNat]? with
 | none => false
 | some x => c1t p.op (x.cmp p.v) (x.cmp p.w)
theorem c2t {p : Pd} {r : List Vl} (h : p.col < 0 ∨ (r.length : Int) ≤ p.col) : p.leafB r = false := by unfold Pd.leafB; rw [if_pos h]
theorem c3t {p : Pd} {r : List Vl} {k : Nat} {x : Vl} (hk : p.col = k) (hx : r[k]? = some x) : p.leafB r = c1t p.op (x.cmp p.v) (x.cmp p.w) := by
 have := (List.getElem?_eq_some_iff.1 hx).1
 unfold Pd.leafB
 rw [if_neg (by omega), hk, Int.toNat_natCast, hx]
theorem c4t {α : Type} {p : Pd} {r : List α} (h1 : ¬p.col < 0) (h2 : ¬(r.length : Int) ≤ p.col) : ∃ (k : Nat) (x : α), p.col = k ∧ r[k]? = some x := by
 obtain ⟨x, hx⟩ := c7z (l := r) (i := p.col.toNat) (by omega)
 exact ⟨p.col.toNat, x, by omega, hx⟩
set_option maxHeartbeats 4000000 in
theorem c5t (p : Pd) (r : List Vl) (hr : r.length < 2 ^ 63) : b9l prog true n_a3e [p.av, .iv (.lst 3 (rowC r))] [] (vb (p.leafB r)) [] := by
 refine a9D a3e_is (by simp) (by decide) rfl ?_
 by_cases h1 : p.col < 0
 · simp -dsimp [b4d, Pd.av_eq, h1, c2t (.inl h1)]
 · by_cases h2 : (r.length : Int) ≤ p.col
   · simp -dsimp [b4d, Pd.av_eq, h1, h2, c2t (.inr h2)]
   · obtain ⟨k, x, hk, hx⟩ := c4t h1 h2
     have hkl : ¬(r.length : Int) ≤ k := by omega
     have hk0 : ¬(k : Int) < 0 := by omega
     rw [c3t hk hx]
     simp -dsimp [b4d, Pd.av_eq, hk, hkl, hk0, hx, b0Q]
     refine a5C (b3G x p.v) (by simp) (by simp) ?_
     generalize x.cmp p.v = c
     by_cases o3 : p.op = 3
     · simp -dsimp [o3, c1t]
     · by_cases o4 : p.op = 4
       · simp -dsimp [o4, c1t]
       · by_cases o5 : p.op = 5
         · simp -dsimp [o5, c1t]
         · by_cases o6 : p.op = 6
           · simp -dsimp [o6, c1t]
           · by_cases o7 : p.op = 7
             · simp -dsimp [o7, c1t]
             · by_cases o8 : p.op = 8
               · simp -dsimp [o8, c1t]
               · by_cases hc : 0 ≤ c
                 · simp -dsimp [o3, o4, o5, o6, o7, o8, c1t, hc, hx, b0Q]
                   refine a5C (b3G x p.w) (by simp) (by simp) ?_
                   simp -dsimp [o3, o4, o5, o6, o7, o8, c1t, hc]
                 · simp -dsimp [o3, o4, o5, o6, o7, o8, c1t, hc]
mutual
def Pd.holds (r : List Vl) : Pd → Bool
 | .mk o c v w l => if 3 ≤ o ∧ o ≤ 9 then (Pd.mk o c v w l).leafB r else if o = 1 then true else if o = 10 then !((Pd.holdsL r l).headD false) else if o = 11 then (Pd.holdsL r l).all id else if o = 12 then (Pd.holdsL r l).any id else false
def Pd.holdsL (r : List Vl) : List Pd → List Bool
 | [] => []
 | p :: q => p.holds r :: Pd.holdsL r q
end
theorem Pd.holdsL_map (r : List Vl) : ∀ l : List Pd, Pd.holdsL r l = l.map (Pd.holds r)
 | [] => by simp [Pd.holdsL]
 | p :: q => by simp [Pd.holdsL, Pd.holdsL_map r q]
theorem Pd.holds_eq (r : List Vl) (p : Pd) : p.holds r = if 3 ≤ p.op ∧ p.op ≤ 9 then p.leafB r else if p.op = 1 then true else if p.op = 10 then !((p.l.map (Pd.holds r)).headD false) else if p.op = 11 then p.l.all (Pd.holds r) else if p.op = 12 then p.l.any (Pd.holds r) else false := by
 cases p with
 | mk o c v w l =>
   rw [Pd.holds, Pd.holdsL_map]
   simp only [Pd.op, Pd.l, List.all_map, List.any_map]
   rfl
def fstB (r : List Vl) (l : List Pd) : Bool := (l.map (Pd.holds r)).headD false
def allB (r : List Vl) (l : List Pd) : Bool := l.all (Pd.holds r)
def anyB (r : List Vl) (l : List Pd) : Bool := l.any (Pd.holds r)
theorem Pd.holds_eq' (r : List Vl) (p : Pd) : p.holds r = if 3 ≤ p.op ∧ p.op ≤ 9 then p.leafB r else if p.op = 1 then true else if p.op = 10 then !fstB r p.l else if p.op = 11 then allB r p.l else if p.op = 12 then anyB r p.l else false := Pd.holds_eq r p
end Go.Rt
end

section
namespace Go.Rt
open Go.Vm
def ixP {α : Type} (p : α → Bool) (l : List α) : Int := match l.findIdx? p with
 | some i => i
 | none => -1
theorem b0A {α : Type} {p : α → Bool} {l : List α} {i : Nat} {e : α} (he : l[i]? = some e) (h : p e = true) (hn : Upto i fun j => ∀ x, l[j]? = some x → p x = false) : ixP p l = i := by
 have : l.findIdx? p = some i := by
   rw [List.findIdx?_eq_some_iff_getElem]
   have hl := (List.getElem?_eq_some_iff.1 he).1
   have hg := (List.getElem?_eq_some_iff.1 he).2
   refine ⟨hl, by rw [hg]; exact h, fun j hj => ?_⟩
   have := hn j hj l[j] (List.getElem?_eq_getElem (by omega))
   simpa using this
 unfold ixP; rw [this]
theorem b1A {α : Type} {p : α → Bool} {l : List α} (hn : ∀ x, x ∈ l → p x = false) : ixP p l = -1 := by
 have : l.findIdx? p = none := by
   rw [List.findIdx?_eq_none_iff]
   exact hn
 unfold ixP; rw [this]
theorem b2A {α : Type} {l : List α} {i : Nat} {p : α → Prop} (hi : l.length ≤ i) (h : Upto i fun j => ∀ x, l[j]? = some x → p x) : ∀ x, x ∈ l → p x := by
 intro x hx
 obtain ⟨j, hj⟩ := List.getElem?_of_mem hx
 exact h j (by have := (List.getElem?_eq_some_iff.1 hj).1; omega) x hj
theorem b3A {α : Type} (p : α → Bool) (l : List α) : (∃ (i : Nat) (x : α), l[i]? = some x ∧ p x = true ∧ ixP p l = i ∧ ∀ j y, j < i → l[j]? = some y → p y = false) ∨ ((∀ x, x ∈ l → p x = false) ∧ ixP p l = -1) := by
 unfold ixP
 cases h : l.findIdx? p with
 | none =>
   rw [List.findIdx?_eq_none_iff] at h
   exact .inr ⟨h, rfl⟩
 | some i =>
   rw [List.findIdx?_eq_some_iff_getElem] at h
   obtain ⟨hl, h1, h2⟩ := h
   refine .inl ⟨i, l[i], List.getElem?_eq_getElem hl, h1, rfl, fun j y hj hy => ?_⟩
   have := h2 j hj
   have hy2 := (List.getElem?_eq_some_iff.1 hy).2
   rw [hy2] at this
   simpa using this
theorem b4A {α : Type} (p : α → Bool) (l : List α) : 0 ≤ ixP p l ↔ ∃ x, x ∈ l ∧ p x = true := by
 rcases b3A p l with ⟨i, x, h1, h2, h3, _⟩ | ⟨h1, h2⟩
 · rw [h3]; exact ⟨fun _ => ⟨x, List.mem_of_getElem? h1, h2⟩, fun _ => by omega⟩
 · rw [h2]
   refine ⟨fun h => by omega, ?_⟩
   rintro ⟨x, hx, hp⟩
   rw [h1 x hx] at hp; cases hp
def b5A (l : List Int) (x : Int) : Int := ixP (fun y => decide (x = y)) l
end Go.Rt
end

section
namespace Go.Vm
theorem b9t {s : St} {g : Nat} {Z Z' : GZ} (hg : look s.hp g = some (.gh Z [] [])) (hz : ∀ A B w, Z A B w → Z' A B w) : Le s (s.add g (.gh Z' [] [])) := by
 rintro E n a w ⟨ψ, h⟩
 have lk : ∀ {id o}, look (s.add g (.gh Z' [] [])).hp id = some o → (id = g ∧ o = .gh Z' [] []) ∨ (id ≠ g ∧ look s.hp id = some o) := by
   intro id o ho
   rw [c4G] at ho
   by_cases e : g = id
   · subst e; rw [if_pos rfl] at ho; cases ho; exact .inl ⟨rfl, rfl⟩
   · rw [if_neg e] at ho; exact .inr ⟨Ne.symm e, ho⟩
 have old : ∀ {id o}, look (s.add g (.gh Z' [] [])).hp id = some o → ∃ o', look s.hp id = some o' ∧ o'.org id = o.org id ∧ o'.multi = o.multi := by
   intro id o ho
   rcases lk ho with ⟨rfl, rfl⟩ | ⟨_, h⟩
   · exact ⟨_, hg, rfl, rfl⟩
   · exact ⟨o, h, rfl, rfl⟩
 have hheld : ∀ b, Held ψ (s.add g (.gh Z' [] [])).hp b → Held ψ s.hp b := by
   rintro b ⟨id, o, ho, hb⟩
   obtain ⟨o', h1, _⟩ := old ho
   exact ⟨id, o', h1, hb⟩
 have hI : ∀ b, b < w.heap.size → Im E ψ s.hp b → Im E ψ (s.add g (.gh Z' [] [])).hp b := fun b _ hb => ⟨hb.1, fun hh => hb.2 (hheld b hh)⟩
 have hk : c9v ψ ψ s.hp (s.add g (.gh Z' [] [])).hp := by
   intro id o ho
   refine ⟨?_, rfl⟩
   by_cases e : g = id
   · subst e; rw [hg] at ho; cases ho; exact ⟨_, by rw [c4G, if_pos rfl], Ob.le_none rfl⟩
   · exact ⟨o, by rw [c4G, if_neg e]; exact ho, o.le_refl⟩
 refine ⟨ψ, { size := h.size, defers := h.defers.mono hI (fun _ _ _ => rfl), frame := fun t => (h.frame t).mono hI (fun _ _ _ => rfl) hk, obs := fun id o ho => ?_, inj := fun id id' o o' b q1 q2 => ?_, own := fun id o b ho hb => ?_, subs := fun id o b ho hb => ?_, par := h.par, old := h.old, grow := h.grow, same := h.same }⟩
 · rcases lk ho with ⟨rfl, rfl⟩ | ⟨_, ho⟩
   · obtain ⟨q1, q2, _, _⟩ := h.obs id _ hg
     have q2' := q2.mono hI (fun _ h => h) (fun _ _ _ => rfl) (fun _ _ => rfl)
     exact ⟨q1, fun A' B' w' k1 k2 k3 k4 => hz _ _ _ (q2' A' B' w' k1 k2 k3 k4), rfl, by simp⟩
   · exact (h.obs id o ho).mono hI (fun _ _ _ => rfl) hk ⟨rfl, fun _ h => h⟩ (fun _ _ => rfl)
 · obtain ⟨o1, g1, _⟩ := old q1
   obtain ⟨o2, g2, _⟩ := old q2
   exact h.inj id id' o1 o2 b g1 g2
 · obtain ⟨o1, g1, g2, _⟩ := old ho
   rw [← g2]; exact h.own id o1 b g1 hb
 · obtain ⟨o1, g1, _, g3⟩ := old ho
   rw [← g3]; exact h.subs id o1 b g1 hb
def EndI (Ze : GZ) (s : St) : Prop := ∃ Z, look s.hp 1000 = some (.gh Z [] []) ∧ (∀ A B w, Z A B w → Ze A B w) ∧ ownH s.hp [1000] = true
theorem b0u {P : Program} {f : FuncId} {args : List AV} {Z0 Ze : GZ} {n : Nat} {c : VCode} (hf : fnV P f = some (n, c, [])) (hargs : args.length ≤ n) (hn : n ≤ 999)
   (h : wpV P c ⟨b8S 0 args, [(1000, .gh Z0 [] [])]⟩ ⟨EndI Ze, fun _ _ => False, EndI Ze, fun _ _ => False⟩) : b9l P false f args [(1000, .gh Z0 [] [])] (.tup []) [(1000, .gh Ze [] [])] :=
 c2B hf hargs rfl rfl (a8D (b2Y hn _ _ _ h) fun s h => by
   obtain ⟨Z, h1, h2, h3⟩ := h
   obtain ⟨D, g1, g2⟩ := a4F (H' := [(1000, .gh Z [] [])]) (s := s) ⟨h1, trivial⟩ h3 rfl
   have g3 : look (s.drops D).hp 1000 = some (.gh Z [] []) := by rw [g2]; rfl
   refine ⟨(s.drops D).add 1000 (.gh Ze [] []), [], (b2Z D g1 s).trans (b9t g3 h2), rfl, rfl, fun id => ?_, fun h => by cases h⟩
   rw [c4G]
   by_cases e : 1000 = id
   · subst e; simp [look]
   · rw [if_neg e, g2]; simp [look, e])
theorem b1u {P : Program} {l g : Nat} {Z Z' : GZ} {b : Bool} {xs : List AV} {ops : List Operand} {s : St} {K : St → AV → Prop} (hy : b0K P l xs Z b Z') (hg : look s.hp g = some (.gh Z [] []))
   (hops : ops.map s.ev = xs) (hpl : xs.all AV.plain = true) (hk : K (s.join [(g, .gh Z' [] [])]) (.iv (.v (.bool b)))) : a6L P l ops s K := ⟨s, g, Z, b, Z', xs, Le.refl s, hg, ⟨hops, hpl⟩, hy, hk⟩
theorem b2u {P : Program} {g : Operand} {ps : List Nat} {X Y : VCode} {s : St} {O : Outs} (D D' : List Nat) (r : Nat) (fr : List (Nat × AV)) (I : List (List AV) → Prop) (H : List (List AV) → Hp)
   {f : FuncId} {caps : List IV} {Pre : List (List AV) → List AV → Prop} {S : List (List AV) → Prop} (hspec : b1g P f caps Pre S) (h0 : LeTo D s ⟨fr, H []⟩) (hg : St.ev ⟨fr, H []⟩ g = .fn f [] (caps.map CapV.val)) (hok : okFn P f = true)
   (hr : r < 1000) (hr0 : look (H []) r = none) (hnd : (fr.map (·.1)).Nodup) (hlen : ∀ pre x, Pre pre x → x.length = ps.length) (hI : I [])
   (hround : ∀ vs pre x, I pre → Pre pre x → I (pre ++ [x]) ∧ wpV P X (parS ps x ⟨fr, (r, .gh ZT vs (frCs fr)) :: H pre⟩)
     ⟨fun s' => wpV P Y s' ⟨fun s2 => LeTo D' s2 ⟨[], (r, .gh ZT vs (frCs fr)) :: H (pre ++ [x])⟩, fun _ _ => False, fun _ => False, fun _ _ => False⟩, fun _ _ => False, fun _ => False, fun _ _ => False⟩)
   (hend : ∀ vs xs, I xs → S xs → O.n ⟨fr, (r, .gh ZT vs (frCs fr)) :: H xs⟩) : rngW P g ps X Y s O := by
 refine ⟨f, caps, Pre, S, r, fr, I, H, fun _ _ => true, fun _ _ => [], ⟨h0.le, hg, hok, hspec, hr, hr0, hnd, hlen, hI⟩, fun vs pre x q1 q2 _ => ⟨(hround vs pre x q1 q2).1, ?_⟩, fun _ _ _ _ _ h => (by cases h), fun vs xs q1 q2 => ⟨_, Le.refl _, hend vs xs q1 q2⟩⟩
 refine b6R X ?_ ?_ ?_ ?_ (hround vs pre x q1 q2).2
 · intro s h
   refine b6R Y ?_ ?_ ?_ ?_ h
   · exact fun s2 h => h.le
   · exact fun _ _ h => h
   · exact fun _ h => h
   · exact fun _ _ h => h
 · exact fun _ _ h => h
 · exact fun _ h => h
 · exact fun _ _ h => h
def EndR (t : Nat) (R : AV → Hp → Prop) (s : St) : Prop := ∃ (D : List Nat) (x : AV) (H' : Hp), R x H' ∧ LeTo D s ⟨[(t, x)], H'⟩
theorem b3u {P : Program} {f : FuncId} {args : List AV} {n t : Nat} {c : VCode} (R : AV → Hp → Prop) (hf : fnV P f = some (n, c, [.tmp t])) (hargs : args.length ≤ n) (hn : n ≤ 999)
   (hR : ∀ x H', R x H' → (∀ id o, look H' id = some o → o.isLent = false) ∧ (∀ cs, x ≠ .tup cs))
   (h : wpV P c ⟨b8S 0 args, []⟩ ⟨EndR t R, fun _ _ => False, EndR t R, fun _ _ => False⟩) : b0m P false f args [] R :=
 c1B hf hargs rfl rfl (fun x H' h => (hR x H' h).1) (a8D (b2Y hn _ _ _ h) fun s h => by
   obtain ⟨D, x, H', h1, h2⟩ := h
   exact ⟨⟨[(t, x)], H'⟩, [x], H', h2.le, by simp [resV, St.get, look], h1, fun _ => rfl, fun h => by cases h⟩)
theorem b4u {P : Program} {f : FuncId} {args : List AV} {n t : Nat} {c : VCode} (R : AV → Hp → Prop) (hf : fnV P f = some (n, c, [.tmp t])) (hargs : args.length ≤ n) (hn : n ≤ 999)
   (hR : ∀ x H', R x H' → (∀ id o, look H' id = some o → o.isLent = false ∧ o.flat) ∧ x.flat = true)
   (h : wpV P c ⟨b8S 0 args, []⟩ ⟨EndR t R, fun _ _ => False, EndR t R, fun _ _ => False⟩) : b0m P true f args [] R :=
 c1B hf hargs rfl rfl (fun x H' h id o ho => ((hR x H' h).1 id o ho).1) (a8D (b2Y hn _ _ _ h) fun s h => by
   obtain ⟨D, x, H', h1, h2⟩ := h
   exact ⟨⟨[(t, x)], H'⟩, [x], H', h2.le, by simp [resV, St.get, look], h1, fun _ => rfl, fun _ => ⟨(hR x H' h1).2, fun id o ho => ((hR x H' h1).1 id o ho).2⟩⟩)
attribute [simp] b2K
theorem b5u {P : Program} {d : Nat} {f : FuncId} {ops : List Operand} {s : St} {K : St → AV → Prop} {args : List AV} {R : AV → Hp → Prop} (h : b0m P true f args [] R)
   (ha : b2K (s.drop d) true [] ((s.drop d).args [] ops []) args) (hr : args.all (AV.inns []) = true)
   (hnew : ∀ x H', R x H' → ∀ id o, look H' id = some o → look (s.drop d).hp id = none ∧ id < 1000) (hk : ∀ x H', R x H' → K ((s.drop d).join H') x) : a5L P d f [] ops [] none s K :=
 ⟨s, Le.refl s, true, [], R, s.drop d, rfl, trivial, args, ha, { spec := h, refs := hr, sub := fun _ _ h => (by cases h), own := fun _ _ h => (by cases h), keep := fun _ _ _ _ _ h => (by cases h), new := fun x H' hR id o h1 _ => hnew x H' hR id o h1 }, hk⟩
end Go.Vm
end

section
namespace Go.Vm
theorem c4N {P : Program} {d : Nat} {f : FuncId} {ops : List Operand} {s s1 : St} {K : St → AV → Prop} {args : List AV} {res : AV} {H' : Hp} (h : b9l P false f args [] res H')
   (hs1 : (s.frz ((s.args [] ops []).filter fun x => !x.inns [])).drop d = s1)
   (ha : ((s1.args [] ops []).map (s1.arg false [])) = args) (hr : args.all (AV.inns []) = true) (hn : a0D H' (H'.map (·.1)) = true) (hf : H'.all (fun p => decide (p.1 < 1000) && (look s1.hp p.1).isNone) = true)
   (hk : K (s1.join H') res) : a5L P d f [] ops [] none s K := by
 refine b6K ⟨s, Le.refl s, false, [], res, H', s1, hs1.symm, trivial, { spec := ?_, refs := ?_, sub := fun _ _ h => ?_, own := fun _ _ h => ?_, keep := fun _ _ h => ?_, new := fun id o h1 _ => ?_ }, hk⟩
 · rw [List.map_nil]; rw [ha]; exact h
 · rw [List.map_nil]; rw [ha]; exact hr
 · cases h
 · cases h
 · cases h
 · have := List.all_eq_true.1 hf _ (c0B h1)
   simp only [Bool.and_eq_true, decide_eq_true_eq, Option.isNone_iff_eq_none] at this
   exact ⟨this.2, this.1⟩
theorem c9G {s : St} {t : Nat} {y : IV} (h : (s.get t).ivc = some y) : Le s (s.set t (.iv y)) := by
 rintro E n a w ⟨ψ, hs⟩
 refine ⟨ψ, { hs with frame := fun u => ?_ }⟩
 rw [St.get_set]
 split
 · rename_i e; subst e
   exact .iv _ _ (c0f (hs.frame t) h (fun _ _ h => h))
 · exact hs.frame u
def EndV (D : List Nat) (t : Nat) (x : IV) (s : St) : Prop := D.all (· < 1000) = true ∧ ((s.drops D).get t).ivc = some x ∧ a6C s.hp = true
theorem c0H {P : Program} {f : FuncId} {args : List AV} {x : IV} {n t : Nat} {c : VCode} (hf : fnV P f = some (n, c, [.tmp t]))
   (hargs : args.length ≤ n) (hn : n ≤ 999) (h : wpV P c ⟨b8S 0 args, []⟩ ⟨fun s => ∃ D, EndV D t x s, fun _ _ => False, fun s => ∃ D, EndV D t x s, fun _ _ => False⟩) : b9l P false f args [] (.iv x) [] :=
 c2B hf hargs rfl rfl (a8D (b2Y hn _ _ _ h) fun s h => by
   obtain ⟨D, h1, h2, h3⟩ := h
   have hk : (((s.drops D).set t (.iv x)).hp.map (·.1)).all (· < 1000) = true := by
     show ((s.drops D).hp.map (·.1)).all (· < 1000) = true
     rw [List.all_eq_true]
     intro k hk
     exact List.all_eq_true.1 (a9C h3) k (c2M D hk)
   refine ⟨((s.drops D).set t (.iv x)).drops (((s.drops D).set t (.iv x)).hp.map (·.1)), [.iv x], ((b2Z D h1 s).trans (c9G h2)).trans (b2Z _ hk _), ?_, rfl, fun id => ?_, fun h => by cases h⟩
   · simp [resV, a1C _ (show ((s.drops D).set t (.iv x)).get t = .iv x by rw [St.get_set, if_pos rfl])]
   · refine a3C _ ?_
     cases hl : Vm.look ((s.drops D).set t (.iv x)).hp id with
     | none => exact .inr rfl
     | some o => exact .inl (List.contains_iff_mem.1 (b3m hl)))
theorem c1H {s : St} {t sz id : Nat} (h : s.get t = .nil sz) (hno : Vm.look s.hp id = none) (hid : id < 1000) : Le s ((s.add id (.list sz [])).set t (.sl id sz 0 0)) := by
 rintro E n a w ⟨ψ, hs⟩
 have h1 := hs.new (o := .list sz []) (p := none) (w' := w) hid hno (Ext.refl w) (fun b k e => by cases e) ⟨fun _ h => (by cases h), .inl ⟨by simp [upd], rfl⟩⟩
 have hψ : upd ψ id none id = none := by simp [upd]
 refine ⟨_, { h1 with frame := fun u => ?_ }⟩
 have hf := h1.frame u
 rw [St.get_set]
 split
 · rename_i e; subst e
   rw [show (s.add id (.list sz [])).get t = .nil sz from h] at hf
   generalize a.tmps.getD t undef = v at hf
   cases hf
   exact .sl0 id sz (.list sz []) 0 (by rw [show ((s.add id (.list sz [])).set t (.sl id sz 0 0)).hp = (s.add id (.list sz [])).hp from rfl, c4G, if_pos rfl]) rfl hψ
 · exact hf
def c5N (D : List Nat) (t u : Nat) (x y : IV) (s : St) : Prop := D.all (· < 1000) = true ∧ ((s.drops D).get t).ivc = some x ∧ (s.drops D).get u = .iv y ∧ a6C s.hp = true
theorem c6N {P : Program} {f : FuncId} {args : List AV} {x y : IV} {n t u : Nat} {c : VCode} (htu : t ≠ u) (hf : fnV P f = some (n, c, [.tmp t, .tmp u]))
   (hargs : args.length ≤ n) (hn : n ≤ 999) (h : wpV P c ⟨b8S 0 args, []⟩ ⟨fun s => ∃ D, c5N D t u x y s, fun _ _ => False, fun s => ∃ D, c5N D t u x y s, fun _ _ => False⟩) : b9l P false f args [] (.tup [.iv x, .iv y]) [] :=
 c2B hf hargs rfl rfl (a8D (b2Y hn _ _ _ h) fun s h => by
   obtain ⟨D, h1, h2, h4, h3⟩ := h
   have hk : (((s.drops D).set t (.iv x)).hp.map (·.1)).all (· < 1000) = true := by
     show ((s.drops D).hp.map (·.1)).all (· < 1000) = true
     rw [List.all_eq_true]
     intro k hk
     exact List.all_eq_true.1 (a9C h3) k (c2M D hk)
   refine ⟨((s.drops D).set t (.iv x)).drops (((s.drops D).set t (.iv x)).hp.map (·.1)), [.iv x, .iv y], ((b2Z D h1 s).trans (c9G h2)).trans (b2Z _ hk _), ?_, rfl, fun id => ?_, fun h => by cases h⟩
   · simp [resV, a1C _ (show ((s.drops D).set t (.iv x)).get t = .iv x by rw [St.get_set, if_pos rfl]), a1C _ (show ((s.drops D).set t (.iv x)).get u = .iv y by rw [St.get_set, if_neg (by first | exact htu | exact Ne.symm htu)]; exact h4)]
   · refine a3C _ ?_
     cases hl : Vm.look ((s.drops D).set t (.iv x)).hp id with
     | none => exact .inr rfl
     | some o => exact .inl (List.contains_iff_mem.1 (b3m hl)))
end Go.Vm
end

section
namespace Go.Vm
theorem c1b {P : Program} {d : Nat} {f : FuncId} {pre post : List CapV} {ops : List Operand} {y : Option Operand} {s s' : St} {K : St → AV → Prop} (h : Le s s')
   (k : a5L P d f pre ops post y s' K) : a5L P d f pre ops post y s K := by
 obtain ⟨s2, h2, h3⟩ := k
 exact ⟨s2, h.trans h2, h3⟩
end Go.Vm
end

section
namespace Go.Rt
open Go.Vm
theorem c8c : okFn prog n_a2e = true := by kernel_rfl
theorem c9c : okFn prog n_a5e = true := by kernel_rfl
def c0d (r : List Vl) (p : Pd) : Prop := b9l prog true n_a7d [p.av, .iv (.lst 3 (rowC r))] [] (vb (p.holds r)) []
theorem c1d {r : List Vl} {q : Pd} (h : c0d r q) : b9l prog true n_a2e [q.av, .iv (.pt [.lst 3 (rowC r)])] [] (vb (q.holds r)) [] := by
 refine a9D a2e_is (by simp) (by decide) rfl ?_
 simp -dsimp [a2e, Pd.av_eq]
 refine a5C h (by simp [Pd.av_eq]) (by simp [Pd.av_eq]) ?_
 simp -dsimp
def Hc (r : List Vl) : Ob := .box [.fn n_a2e [] [.val (.pt [.lst 3 (rowC r)])]]
@[simp] theorem Hc_hi (r : List Vl) : (Hc r).hi = true := rfl
theorem c2d {r : List Vl} {q : Pd} (h : c0d r q) : b9l prog false n_a5e [q.av, .ptr 1000 0] [(1000, Hc r)] (vb (!q.holds r)) [(1000, Hc r)] := by
 refine a6F a5e_is (by simp) (by decide) (by simp) rfl ?_
 simp -dsimp [a5e, Pd.av_eq, Hc]
 refine ⟨c8c, a9G (c1d h) (by simp) (by simp [Pd.av_eq]) (by simp [Pd.av_eq]) ?_⟩
 simp -dsimp
 rfl
theorem c3d {l : List Pd} (hl : l.length < 2 ^ 63) {r : List Vl} (h : ∀ q, q ∈ l → c0d r q) :
   b9l prog true n_a1f [.iv (.lst 9 (l.map Pd.cells)), .fn n_a2e [] [.val (.pt [.lst 3 (rowC r)])]] [] (vi (ixP (Pd.holds r) l)) [] := by
 refine a9D a1f_is (by simp) (by decide) rfl ?_
 simp -dsimp [a1f]
 refine a2E [] [] l.length (fun i => ⟨[(8, vi i), (7, vi l.length), (0, .iv (.lst 9 (l.map Pd.cells))), (1, .fn n_a2e [] [.val (.pt [.lst 3 (rowC r)])])], []⟩) (fun i => Upto i fun j => ∀ e, l[j]? = some e → e.holds r = false) ?_ c6z ?_
 · simp -dsimp
 · intro i hi hq
   simp -dsimp [a1f_l7]
   refine ⟨fun hlt => ?_, fun hge => ?_⟩
   · obtain ⟨e, he⟩ := c7z hlt
     have hw := c8z (n := (i : Int) + 1) (by omega)
     simp -dsimp [he, Pd.cells_eq e]
     refine ⟨c8c, a9G (c1d (h e (List.mem_of_getElem? he))) (by simp) (by simp [Pd.av_eq]) (by simp [Pd.av_eq]) ?_⟩
     cases hf : e.holds r with
     | true =>
       have := b0A (p := Pd.holds r) he hf hq
       simp -dsimp [this]
     | false =>
       simp -dsimp [hw]
       exact ⟨hlt, hq.succ fun y hy => by rw [he] at hy; cases hy; exact hf⟩
   · rw [b1A (b2A hge hq)]
theorem c4d {l : List Pd} (hl : l.length < 2 ^ 63) {r : List Vl} (h : ∀ q, q ∈ l → c0d r q) :
   b9l prog false n_a1f [.iv (.lst 9 (l.map Pd.cells)), .fn n_a5e [] [.ptr 1000 0]] [(1000, Hc r)] (vi (ixP (fun q => !q.holds r) l)) [(1000, Hc r)] := by
 refine a6F a1f_is (by simp) (by decide) (by simp) rfl ?_
 simp -dsimp [a1f]
 refine a2E [] [] l.length (fun i => ⟨[(8, vi i), (7, vi l.length), (0, .iv (.lst 9 (l.map Pd.cells))), (1, .fn n_a5e [] [.ptr 1000 0])], [(1000, Hc r)]⟩) (fun i => Upto i fun j => ∀ e, l[j]? = some e → (!e.holds r) = false) ?_ c6z ?_
 · simp -dsimp
 · intro i hi hq
   simp -dsimp [a1f_l7]
   refine ⟨fun hlt => ?_, fun hge => ?_⟩
   · obtain ⟨e, he⟩ := c7z hlt
     have hw := c8z (n := (i : Int) + 1) (by omega)
     simp -dsimp [he, Pd.cells_eq e]
     refine ⟨c9c, a8G (c2d (h e (List.mem_of_getElem? he))) rfl (by simp) (by simp [Pd.av_eq]) (by simp [Pd.av_eq]) (by simp) (by simp [Hc]) (by simp [Hc]) (by simp) ?_⟩
     cases hf : e.holds r with
     | true =>
       simp -dsimp [hw]
       exact ⟨hlt, Upto.succ (fun j hj y hy => by simpa using hq j hj y hy) fun y hy => by rw [he] at hy; cases hy; exact hf⟩
     | false =>
       have := b0A (p := fun q => !Pd.holds r q) he (by rw [hf]; rfl) hq
       simp -dsimp [this]
   · rw [b1A (b2A hge hq)]
theorem c5d {α : Type} (p : α → Bool) (l : List α) : decide (0 ≤ ixP p l) = l.any p := by
 rw [Bool.eq_iff_iff, decide_eq_true_eq, b4A, List.any_eq_true]
theorem c6d {l : List Pd} (hl : l.length < 2 ^ 63) {r : List Vl} (h : ∀ q, q ∈ l → c0d r q) :
   b9l prog true n_a4e [.iv (.lst 9 (l.map Pd.cells)), .fn n_a2e [] [.val (.pt [.lst 3 (rowC r)])]] [] (vb (anyB r l)) [] := by
 refine a9D a4e_is (by simp) (by decide) rfl ?_
 simp -dsimp [a4e]
 refine a5C (c3d hl h) (by simp) (by simp) ?_
 simp -dsimp
 have := c5d (Pd.holds r) l
 simpa [anyB] using this
theorem c7d {l : List Pd} (hl : l.length < 2 ^ 63) {r : List Vl} (h : ∀ q, q ∈ l → c0d r q) :
   b9l prog false n_a4e [.iv (.lst 9 (l.map Pd.cells)), .fn n_a5e [] [.ptr 1000 0]] [(1000, Hc r)] (vb (!allB r l)) [(1000, Hc r)] := by
 refine a6F a4e_is (by simp) (by decide) (by simp) rfl ?_
 simp -dsimp [a4e]
 refine a8G (c4d hl h) rfl (by simp) (by simp) (by simp) (by simp) (by simp [Hc]) (by simp [Hc]) (by simp) ?_
 simp -dsimp
 have := c5d (fun q => !Pd.holds r q) l
 have h2 : (l.any fun q => !Pd.holds r q) = !allB r l := by unfold allB; rw [List.not_all_eq_any_not]
 rw [h2] at this
 simpa using this
theorem c8d {l : List Pd} (hl : l.length < 2 ^ 63) {r : List Vl} (h : ∀ q, q ∈ l → c0d r q) :
   b9l prog false n_a4e [.iv (.lst 9 (l.map Pd.cells)), .fn n_a5e [] [.ptr 5 0]] [(5, Hc r)] (vb (!allB r l)) [(5, Hc r)] :=
 (c7d hl h).ren (Ren.swaps [(1000, 5)]) rfl
set_option maxHeartbeats 4000000 in
theorem c9d {p : Pd} (h : p.Ok) (r : List Vl) (hr : r.length < 2 ^ 63) : c0d r p := by
 induction h with
 | mk p hl _ _ hq ih =>
 refine a9D a7d_is (by simp) (by decide) rfl ?_
 rw [Pd.holds_eq']
 by_cases o1 : p.op = 1
 · simp -dsimp [a7d, Pd.av_eq, o1]
 · by_cases ho : 3 ≤ p.op ∧ p.op ≤ 9
   · rw [if_pos ho]
     have : p.op = 3 ∨ p.op = 4 ∨ p.op = 5 ∨ p.op = 6 ∨ p.op = 7 ∨ p.op = 8 ∨ p.op = 9 := by omega
     rcases this with o | o | o | o | o | o | o
     all_goals
       simp -dsimp [a7d, Pd.av_eq, o]
       refine a5C (c5t p r hr) (by simp [Pd.av_eq, o]) (by simp [Pd.av_eq]) ?_
       simp -dsimp
   · rw [if_neg ho]
     have n3 : ¬p.op = 3 := by omega
     have n4 : ¬p.op = 4 := by omega
     have n5 : ¬p.op = 5 := by omega
     have n6 : ¬p.op = 6 := by omega
     have n7 : ¬p.op = 7 := by omega
     have n8 : ¬p.op = 8 := by omega
     have n9 : ¬p.op = 9 := by omega
     by_cases o10 : p.op = 10
     · simp -dsimp [a7d, Pd.av_eq, o10]
       cases hpl : p.l with
       | nil => simp -dsimp [hpl, fstB]
       | cons a b =>
         have ha : a ∈ p.l := by rw [hpl]; exact List.mem_cons_self
         simp -dsimp [hpl, Pd.cells_eq a]
         refine ⟨c8c, a9G (c1d (ih a ha)) (by simp) (by simp [Pd.av_eq]) (by simp [Pd.av_eq]) ?_⟩
         simp -dsimp [fstB]
     · by_cases o11 : p.op = 11
       · simp -dsimp [a7d, Pd.av_eq, o11]
         refine c1b (b2Z [3] (by decide) _) ?_
         refine a8G (c8d (l := p.l) hl ih) rfl (by simp) (by simp) (by simp) (by simp [Hc]) (by simp [Hc]) (by simp [Hc]) (by simp) ?_
         simp -dsimp
       · by_cases o12 : p.op = 12
         · simp -dsimp [a7d, Pd.av_eq, o12]
           refine a5C (c6d (l := p.l) hl ih) (by simp) (by simp) ?_
           simp -dsimp
         · simp -dsimp [a7d, Pd.av_eq, o1, n3, n4, n5, n6, n7, n8, n9, o10, o11, o12]
end Go.Rt
end

section
namespace Go.Vm
@[simp] theorem ev_pn {s : St} : s.ev (.const (.pointer none)) = .iv (.v (.pointer none)) := rfl
theorem b6d {s : St} {j i sz id : Nat} {cs : List AV} (h : look s.hp j = some (.box cs)) (hi : cs[i]? = some (.nil sz)) (hno : look s.hp id = none) (hid : id < 1000) :
   Le s ((s.add id (.list sz [])).add j (.box (cs.set i (.sl id sz 0 0)))) := by
 rintro E n a w ⟨ψ, hs⟩
 have h1 := hs.new (o := .list sz []) (p := none) (w' := w) hid hno (Ext.refl w) (fun b k e => by cases e) ⟨fun _ h => (by cases h), .inl ⟨by simp [upd], rfl⟩⟩
 have hj : j ≠ id := by rintro rfl; rw [hno] at h; cases h
 have hl : look (s.add id (.list sz [])).hp j = some (.box cs) := by rw [c4G, if_neg (Ne.symm hj)]; exact h
 obtain ⟨b, c, e, g1, g2, g3, g4⟩ := h1.obs j _ hl
 have hψ : upd ψ id none id = none := by simp [upd]
 refine ⟨_, h1.chg (o' := .box (cs.set i (.sl id sz 0 0))) hl (Ob.le_none rfl) rfl (fun h => by cases h) g1 (fun _ _ => rfl) rfl ⟨rfl, rfl, rfl, Nat.le_refl _⟩ fun hm _ => ⟨b, c, e, g1, g2, by simpa using g3, fun k x hx => ?_⟩⟩
 rw [List.getElem?_set] at hx
 split at hx
 · rename_i e1
   subst e1
   split at hx
   · simp only [Option.some.injEq] at hx
     subst hx
     have := g4 i _ hi
     generalize c.getD i undef = v at this
     cases this
     exact .sl0 id sz (.list sz []) 0 (by rw [c4G, if_neg hj, c4G, if_pos rfl]) rfl hψ
   · cases hx
 · exact hm x _ (g4 k x hx)
theorem b7d {P : Program} {c : VCode} {s : St} {O : Outs} (D' : List Nat) (n : Nat) (S : Nat → St) (Q : Nat → Prop) (h0 : Le s (S 0)) (q0 : Q 0)
   (hs : ∀ i, i ≤ n → Q i → wpV P c (S i) { O with n := fun s2 => i < n ∧ LeTo D' s2 (S (i + 1)) ∧ Q (i + 1) }) : a7L P c s O := by
 refine ⟨fun k s => ∃ i, i ≤ n ∧ k = n - i ∧ s = S i ∧ Q i, h0.x ⟨_, 0, Nat.zero_le _, rfl, rfl, q0⟩, ?_⟩
 rintro k s' ⟨i, hi, rfl, rfl, hq⟩
 refine b6R c (O := { O with n := fun s2 => i < n ∧ LeTo D' s2 (S (i + 1)) ∧ Q (i + 1) }) (fun s2 h => ?_) (fun _ _ h => h) (fun _ h => h) (fun _ _ h => h) (hs i hi hq)
 obtain ⟨hlt, hle, hq'⟩ := h
 exact ⟨_, _, by omega, hle.le, i + 1, hlt, rfl, rfl, hq'⟩
end Go.Vm
end

section
namespace Go.Vm
open Go.Sort (Holds putRow grow putCells mapBlock)
def b3J (l : List Int) : List (List IV) := l.map fun i => [.v (.int .i64 i)]
def b4J (l : List Int) : List Int := l.mergeSort fun x y => decide (x ≤ y)
theorem b5J {l : List Int} {i j : Nat} {c : IV} (h : at2 (b3J l) i j = some c) : j = 0 ∧ ∃ n, l[i]? = some n ∧ c = .v (.int .i64 n) := by
 unfold at2 b3J at h
 rw [List.getElem?_map] at h
 cases hl : l[i]? with
 | none => rw [hl] at h; simp at h
 | some n =>
   rw [hl] at h
   simp only [Option.map_some, Option.bind_some] at h
   cases j with
   | zero => simp at h; exact ⟨rfl, n, rfl, h.symm⟩
   | succ j => simp at h
theorem b6J {l : List Int} {i : Nat} {n : Int} (h : l[i]? = some n) : at2 (b3J l) i 0 = some (.v (.int .i64 n)) := by
 unfold at2 b3J; rw [List.getElem?_map, h]; rfl
theorem b7J {A : Nat → Prop} {w : World} {n : Int} {v : Value} (h : RIV A w (.v (.int .i64 n)) v) : v = .int .i64 n := by cases h; rfl
theorem b8J {P : Program} {f : FuncId} (F : List Int → List Int) (hF : ∀ l, (F l).length = l.length) (hF0 : F [] = [])
   (hs : ∀ (blk off cap : Nat) (zs : List Int) (w : World), Holds (Value.int .i64) w blk off zs.toArray → blk < w.heap.size → zs.length < 4611686018427387904 →
     Calls P f #[.slice (some ⟨blk, off, none⟩) zs.length cap] w fun e w' => e = .returned (.tuple #[]) ∧ ∃ n os, w' = grow (putRow (Value.int .i64) (Go.Sort.ahead w n) blk off (F zs).toArray) os)
   (hn : ∀ (p : Option Addr) (cap : Nat) (w : World), Calls P f #[.slice p 0 cap] w fun e w' => e = .returned (.tuple #[]) ∧ w' = w)
   (xs : List Int) (hl : xs.length < 2 ^ 62) : b9l P false f [.sl 1000 1 0 xs.length] [(1000, .list 1 (b3J xs))] (.tup []) [(1000, .list 1 (b3J (F xs)))] := by
 have hlen : (F xs).length = xs.length := hF xs
 have look1 : ∀ {o : Ob} {id : Nat} {q : Ob}, look [(1000, o)] id = some q → id = 1000 ∧ q = o := by
   intro o id q h
   simp only [look] at h
   split at h
   · exact ⟨by omega, by cases h; rfl⟩
   · cases h
 refine ⟨⟨fun id o h => by obtain ⟨_, rfl⟩ := look1 h; rfl, fun id o h => by obtain ⟨_, rfl⟩ := look1 h; rfl⟩, ?_⟩
 intro A ψ w vs hA hob hinj hsubs hheld hvl hrav
 have ho := hob 1000 (.list 1 (b3J xs)) rfl
 have hr := hrav 0 _ rfl
 obtain ⟨v, rfl⟩ : ∃ v, vs = [v] := by
   match vs, hvl with
   | [v], _ => exact ⟨v, rfl⟩
 simp only [List.getD_eq_getElem?_getD, List.getElem?_cons_zero, Option.getD_some] at hr
 have key : ∀ (w' : World), w.heap.size ≤ w'.heap.size → Same w w' → (∀ b, b < w.heap.size → ¬Held ψ [(1000, .list 1 (b3J xs))] b → w'.heap[b]? = w.heap[b]?) →
     ROb (fun b => ((false = false ∧ A b) ∨ w.heap.size ≤ b) ∧ ¬Held ψ [(1000, .list 1 (b3J (F xs)))] b) ψ [(1000, .list 1 (b3J (F xs)))] w' 1000 (.list 1 (b3J (F xs))) →
     ∃ v ψ', (Ending.returned (.tuple #[]) : Ending) = .returned v ∧
     (∀ b, b < w.heap.size → ¬Held ψ [(1000, .list 1 (b3J xs))] b → w'.heap[b]? = w.heap[b]?) ∧ w.heap.size ≤ w'.heap.size ∧ Same w w' ∧
     (∀ id o, look [(1000, Ob.list 1 (b3J xs))] id = some o → ψ'.main id = ψ id) ∧
     (∀ id o b, look [(1000, Ob.list 1 (b3J (F xs)))] id = some o → Owns ψ' id b → (∃ o0, look [(1000, Ob.list 1 (b3J xs))] id = some o0 ∧ Owns ψ id b) ∨ w.heap.size ≤ b) ∧
     (∀ id id' o o' b, look [(1000, Ob.list 1 (b3J (F xs)))] id = some o → look [(1000, Ob.list 1 (b3J (F xs)))] id' = some o' → Owns ψ' id b → Owns ψ' id' b → id = id') ∧ Subs ψ' [(1000, .list 1 (b3J (F xs)))] w' ∧
     (∀ id o, look [(1000, Ob.list 1 (b3J (F xs)))] id = some o → ROb (fun b => ((false = false ∧ A b) ∨ w.heap.size ≤ b) ∧ ¬Held ψ' [(1000, .list 1 (b3J (F xs)))] b) ψ' [(1000, .list 1 (b3J (F xs)))] w' id o) ∧
     RAV (fun b => ((false = false ∧ A b) ∨ w.heap.size ≤ b) ∧ ¬Held ψ' [(1000, .list 1 (b3J (F xs)))] b) ψ' [(1000, .list 1 (b3J (F xs)))] w' (.tup []) v := by
   intro w' h1 h2 h3 h4
   refine ⟨.tuple #[], ψ, rfl, h3, h1, h2, fun _ _ _ => rfl, fun id o b h hb => .inl ?_, fun id id' o o' b h h' _ _ => ?_, fun id o b h hb => ?_, fun id o h => ?_, .tup [] #[] rfl (fun i c h => by simp at h)⟩
   · obtain ⟨rfl, rfl⟩ := look1 h; exact ⟨.list 1 (b3J xs), rfl, hb⟩
   · obtain ⟨rfl, _⟩ := look1 h; obtain ⟨rfl, _⟩ := look1 h'; rfl
   · obtain ⟨rfl, rfl⟩ := look1 h
     have := (hsubs 1000 (.list 1 (b3J xs)) b rfl hb).1
     cases this
   · obtain ⟨rfl, rfl⟩ := look1 h; exact h4
 obtain ⟨hw1, ho⟩ := ho
 by_cases hx : xs = []
 · subst hx
   have hv : ∃ p cap, v = .slice p 0 cap := by
     cases hr with
     | sl0 => exact ⟨_, _, rfl⟩
     | sl => exact ⟨_, _, rfl⟩
   obtain ⟨p, cap, rfl⟩ := hv
   refine (hn p cap w).mono ?_
   rintro e w' ⟨rfl, rfl⟩
   refine key w' (Nat.le_refl _) ⟨rfl, rfl, rfl, Nat.le_refl _⟩ (fun _ _ _ => rfl) ?_
   have hso : F [] = [] := hF0
   rw [hso]
   refine ⟨hw1, ?_⟩
   rcases ho with ⟨g1, g2⟩ | ⟨b, k, c, e, g1, g2, g3, g4, g5⟩
   · exact .inl ⟨g1, g2⟩
   · exact .inr ⟨b, k, c, e, g1, g2, g3, g4, fun i j x h => by simp [at2, b3J] at h⟩
 · have hpos := List.length_pos_iff.2 hx
   rcases ho with ⟨_, g2⟩ | ⟨b, k, c, e, g1, g2, g3, g4, g5⟩
   · exact absurd (by simpa [b3J] using g2) hx
   · obtain ⟨cap, rfl⟩ : ∃ cap, v = .slice (some ⟨b, k.1, none⟩) xs.length cap := by
       generalize hlx : xs.length = n at hr hpos
       cases hr with
       | sl0 => omega
       | sl id sz lo len b' k' cap a o n' ho' he hxx hb ha hlc hk hm =>
         rw [g1] at hb; cases hb
         have := ha (by omega)
         rw [Nat.zero_mul, Nat.add_zero] at this
         subst this
         exact ⟨cap, rfl⟩
     have hbl : b < w.heap.size := c7v g2
     have hB : Held ψ [(1000, .list 1 (b3J xs))] b := ⟨1000, .list 1 (b3J xs), rfl, .inl ⟨k, g1⟩⟩
     have hcell : ∀ i n, xs[i]? = some n → c[k.1 + i]? = some (.int .i64 n) := by
       intro i n hi
       have h5 := b7J (g5 i 0 _ (b6J hi))
       have hil := (List.getElem?_eq_some_iff.1 hi).1
       have hcs : k.1 + i < c.size := by simp only [b3J, List.length_map] at g4; omega
       rw [Nat.mul_one, Nat.add_zero] at h5
       rw [Array.getD_eq_getD_getElem?, Array.getElem?_eq_getElem hcs] at h5
       rw [Array.getElem?_eq_getElem hcs]
       exact congrArg some h5
     have hH : Holds (Value.int .i64) w b k.1 xs.toArray := by
       intro j hj
       simp only [List.size_toArray] at hj
       have hj2 := List.getElem?_eq_getElem hj
       constructor
       · simp only [World.cell?, g2]
         rw [hcell j _ hj2]
         simp [hj]
       · simp only [World.frozen?, g2]
         simp
     refine (hs b k.1 cap xs w hH hbl (by omega)).mono ?_
     rintro ex w' ⟨rfl, n, os, rfl⟩
     have hsz : (putRow (Value.int .i64) (Go.Sort.ahead w n) b k.1 (F xs).toArray).heap.size = w.heap.size := by simp [putRow, mapBlock, Go.Sort.ahead]
     have hother : ∀ i, i ≠ b → i < w.heap.size → (grow (putRow (Value.int .i64) (Go.Sort.ahead w n) b k.1 (F xs).toArray) os).heap[i]? = w.heap[i]? := by
       intro i hi hlt
       rw [Go.Sort.heap_grow_old _ _ (by rw [hsz]; exact hlt)]
       simp only [putRow, mapBlock, Go.Sort.ahead, Array.getElem?_modify]
       rw [if_neg (Ne.symm hi)]
     have hmine : (grow (putRow (Value.int .i64) (Go.Sort.ahead w n) b k.1 (F xs).toArray) os).heap[b]? = some (.cells (putCells (Value.int .i64) k.1 (F xs).toArray c) e (0, 0)) := by
       rw [Go.Sort.heap_grow_old _ _ (by rw [hsz]; exact hbl)]
       simp only [putRow, mapBlock, Go.Sort.ahead, Array.getElem?_modify, if_true]
       rw [g2]; rfl
     refine key _ (by rw [Go.Sort.size_grow, hsz]; omega) ⟨rfl, rfl, rfl, Nat.le_add_right _ _⟩ (fun i hi hh => hother i (fun e => hh (e ▸ hB)) hi) ?_
     refine ⟨fun x hxm => ?_, .inr ⟨b, k, _, e, g1, hmine, ?_, ?_, fun i j x h => ?_⟩⟩
     · simp only [b3J, List.mem_map] at hxm
       obtain ⟨_, _, rfl⟩ := hxm; rfl
     · simp only [putCells, Array.size_mapIdx]; exact g3
     · simp only [b3J, List.length_map] at g4 ⊢; omega
     · obtain ⟨rfl, m, hm, rfl⟩ := b5J h
       have hil := (List.getElem?_eq_some_iff.1 hm).1
       rw [hlen] at hil
       simp only [b3J, List.length_map] at g4
       have hlt : k.1 + (i * 1 + 0) < (putCells (Value.int .i64) k.1 (F xs).toArray c).size := by simp only [putCells, Array.size_mapIdx]; omega
       have : (putCells (Value.int .i64) k.1 (F xs).toArray c).getD (k.1 + (i * 1 + 0)) undef = .int .i64 m := by
         rw [Array.getD_eq_getD_getElem?, Array.getElem?_eq_getElem hlt, Option.getD_some]
         simp only [putCells, Array.getElem_mapIdx, List.size_toArray, hlen]
         rw [if_pos (by omega)]
         have e1 : k.1 + (i * 1 + 0) - k.1 = i := by omega
         rw [e1]
         have := hm
         simp [List.getElem!_eq_getElem?_getD, this]
       rw [this]
       exact .v _ rfl
end Go.Vm
end

section
namespace Go.Proofs
open Go.Shelf
def Try.lays189_ren : Go.Shelf.Ren := ⟨fun | 189 => 30 | 125 => 40 | 257 => 51 | 128 => 67 | 129 => 68 | 294 => 73 | 295 => 74 | 296 => 75 | 297 => 76 | 298 => 77 | 299 => 78 | 216 => 79 | 300 => 80 | 301 => 81 | 328 => 95 | 329 => 87 | 330 => 88 | 331 => 96 | 332 => 97 | 215 => 98 | 343 => 103 | n => n, fun | 28 => 50 | 3 => 3 | 46 => 104 | 0 => 0 | 51 => 131 | 53 => 133 | 4 => 4 | 183 => 124 | 182 => 123 | 131 => 128 | 5 => 5 | 9 => 9 | 218 => 154 | 222 => 158 | 228 => 170 | 229 => 171 | n => n, fun | n => n⟩
theorem Try.lays189 : Go.Proofs.Lays.n189 Try.prog Try.lays189_ren := {
 mixed := by kernel_rfl
 f125 := Try.func40.trans (congrArg some (by kernel_rfl))
 f128 := Try.func67.trans (congrArg some (by kernel_rfl))
 f129 := Try.func68.trans (congrArg some (by kernel_rfl))
 f189 := Try.func30.trans (congrArg some (by kernel_rfl))
 f215 := Try.func98.trans (congrArg some (by kernel_rfl))
 f216 := Try.func79.trans (congrArg some (by kernel_rfl))
 f257 := Try.func51.trans (congrArg some (by kernel_rfl))
 f294 := Try.func73.trans (congrArg some (by kernel_rfl))
 f295 := Try.func74.trans (congrArg some (by kernel_rfl))
 f296 := Try.func75.trans (congrArg some (by kernel_rfl))
 f297 := Try.func76.trans (congrArg some (by kernel_rfl))
 f298 := Try.func77.trans (congrArg some (by kernel_rfl))
 f299 := Try.func78.trans (congrArg some (by kernel_rfl))
 f300 := Try.func80.trans (congrArg some (by kernel_rfl))
 f301 := Try.func81.trans (congrArg some (by kernel_rfl))
 f328 := Try.func95.trans (congrArg some (by kernel_rfl))
 f329 := Try.func87.trans (congrArg some (by kernel_rfl))
 f330 := Try.func88.trans (congrArg some (by kernel_rfl))
 f331 := Try.func96.trans (congrArg some (by kernel_rfl))
 f332 := Try.func97.trans (congrArg some (by kernel_rfl))
 f343 := Try.func103.trans (congrArg some (by kernel_rfl))
 t0 := Try.underlying0
 a0 := Try.isAgg0
 z0 := Try.sizeOf0
 v0 := Try.zeroValue0
 t3 := Try.underlying3
 a3 := Try.isAgg3
 z3 := Try.sizeOf3
 v3 := Try.zeroValue3
 t4 := Try.underlying4
 a4 := Try.isAgg4
 z4 := Try.sizeOf4
 v4 := Try.zeroValue4
 t5 := Try.underlying5
 a5 := Try.isAgg5
 z5 := Try.sizeOf5
 v5 := Try.zeroValue5
 t9 := Try.underlying9
 a9 := Try.isAgg9
 z9 := Try.sizeOf9
 v9 := Try.zeroValue9
 t28 := Try.underlying50
 a28 := Try.isAgg50
 z28 := Try.sizeOf50
 v28 := Try.zeroValue50
 t46 := Try.underlying104
 a46 := Try.isAgg104
 z46 := Try.sizeOf104
 v46 := Try.zeroValue104
 t51 := Try.underlying131
 a51 := Try.isAgg131
 z51 := Try.sizeOf131
 v51 := Try.zeroValue131
 t53 := Try.underlying133
 a53 := Try.isAgg133
 z53 := Try.sizeOf133
 v53 := Try.zeroValue133
 t131 := Try.underlying128
 a131 := Try.isAgg128
 z131 := Try.sizeOf128
 v131 := Try.zeroValue128
 t182 := Try.underlying123
 a182 := Try.isAgg123
 z182 := Try.sizeOf123
 v182 := Try.zeroValue123
 t183 := Try.underlying124
 a183 := Try.isAgg124
 z183 := Try.sizeOf124
 v183 := Try.zeroValue124
 t218 := Try.underlying154
 a218 := Try.isAgg154
 z218 := Try.sizeOf154
 v218 := Try.zeroValue154
 t222 := Try.underlying158
 a222 := Try.isAgg158
 z222 := Try.sizeOf158
 v222 := Try.zeroValue158
 t228 := Try.underlying170
 a228 := Try.isAgg170
 z228 := Try.sizeOf170
 v228 := Try.zeroValue170
 t229 := Try.underlying171
 a229 := Try.isAgg171
 z229 := Try.sizeOf171
 v229 := Try.zeroValue171 }
open Go.Sort Go.RowKit in
theorem Try.slices_Sort_int (blk off cap : Nat) (zs : List Int) (w : World) (hH : Holds (Value.int .i64) w blk off zs.toArray) (hblk : blk < w.heap.size) (hsz : zs.length < 4611686018427387904) :
   Calls Try.prog 30 #[.slice (some ⟨blk, off, none⟩) zs.length cap] w fun e w' =>
     e = .returned (.tuple #[]) ∧ ∃ n os, w' = grow (putRow (Value.int .i64) (Sort.ahead w n) blk off (zs.mergeSort fun x y => decide (x ≤ y)).toArray) os := Any.slices_Sort_int Try.lays189 blk off cap zs w hH hblk hsz
def Try.sortF_ren : Go.Shelf.Ren := ⟨fun | 6 => 21 | 15 => 40 | 14 => 39 | 28 => 67 | 29 => 68 | 20 => 59 | 21 => 60 | 22 => 61 | 23 => 62 | 24 => 63 | 25 => 64 | 26 => 65 | 27 => 66 | 46 => 86 | 47 => 87 | 48 => 88 | 49 => 89 | 50 => 90 | 57 => 100 | n => n, fun | 22 => 34 | 24 => 25 | 25 => 70 | 3 => 3 | 39 => 104 | 0 => 0 | 53 => 131 | 55 => 133 | 4 => 4 | 46 => 124 | 45 => 123 | 50 => 128 | 5 => 5 | 9 => 9 | 66 => 154 | 70 => 158 | 76 => 170 | 77 => 171 | n => n, fun | n => n⟩
theorem Try.sortF : Go.Proofs.SlLaysF0.n6 Try.prog Try.sortF_ren := {
 mixed := by kernel_rfl
 f6 := ⟨Try.f21.name, by decide, Try.func21.trans (congrArg some (by kernel_rfl))⟩
 f14 := ⟨Try.f39.name, by decide, Try.func39.trans (congrArg some (by kernel_rfl))⟩
 f15 := Try.func40.trans (congrArg some (by kernel_rfl))
 f20 := ⟨Try.f59.name, by decide, Try.func59.trans (congrArg some (by kernel_rfl))⟩
 f21 := ⟨Try.f60.name, by decide, Try.func60.trans (congrArg some (by kernel_rfl))⟩
 f22 := ⟨Try.f61.name, by decide, Try.func61.trans (congrArg some (by kernel_rfl))⟩
 f23 := ⟨Try.f62.name, by decide, Try.func62.trans (congrArg some (by kernel_rfl))⟩
 f24 := ⟨Try.f63.name, by decide, Try.func63.trans (congrArg some (by kernel_rfl))⟩
 f25 := ⟨Try.f64.name, by decide, Try.func64.trans (congrArg some (by kernel_rfl))⟩
 f26 := ⟨Try.f65.name, by decide, Try.func65.trans (congrArg some (by kernel_rfl))⟩
 f27 := ⟨Try.f66.name, by decide, Try.func66.trans (congrArg some (by kernel_rfl))⟩
 f28 := Try.func67.trans (congrArg some (by kernel_rfl))
 f29 := Try.func68.trans (congrArg some (by kernel_rfl))
 f46 := ⟨Try.f86.name, by decide, Try.func86.trans (congrArg some (by kernel_rfl))⟩
 f47 := Try.func87.trans (congrArg some (by kernel_rfl))
 f48 := Try.func88.trans (congrArg some (by kernel_rfl))
 f49 := ⟨Try.f89.name, by decide, Try.func89.trans (congrArg some (by kernel_rfl))⟩
 f50 := ⟨Try.f90.name, by decide, Try.func90.trans (congrArg some (by kernel_rfl))⟩
 f57 := ⟨Try.f100.name, by decide, Try.func100.trans (congrArg some (by kernel_rfl))⟩
 t0 := Try.underlying0
 a0 := Try.isAgg0
 z0 := Try.sizeOf0
 v0 := Try.zeroValue0
 t3 := Try.underlying3
 a3 := Try.isAgg3
 z3 := Try.sizeOf3
 v3 := Try.zeroValue3
 t4 := Try.underlying4
 a4 := Try.isAgg4
 z4 := Try.sizeOf4
 v4 := Try.zeroValue4
 t5 := Try.underlying5
 a5 := Try.isAgg5
 z5 := Try.sizeOf5
 v5 := Try.zeroValue5
 t9 := Try.underlying9
 a9 := Try.isAgg9
 z9 := Try.sizeOf9
 v9 := Try.zeroValue9
 t22 := Try.underlying34
 a22 := Try.isAgg34
 z22 := Try.sizeOf34
 v22 := Try.zeroValue34
 t25 := Try.underlying70
 a25 := Try.isAgg70
 z25 := Try.sizeOf70
 v25 := Try.zeroValue70
 t39 := Try.underlying104
 a39 := Try.isAgg104
 z39 := Try.sizeOf104
 v39 := Try.zeroValue104
 t45 := Try.underlying123
 a45 := Try.isAgg123
 z45 := Try.sizeOf123
 v45 := Try.zeroValue123
 t46 := Try.underlying124
 a46 := Try.isAgg124
 z46 := Try.sizeOf124
 v46 := Try.zeroValue124
 t50 := Try.underlying128
 a50 := Try.isAgg128
 z50 := Try.sizeOf128
 v50 := Try.zeroValue128
 t53 := Try.underlying131
 a53 := Try.isAgg131
 z53 := Try.sizeOf131
 v53 := Try.zeroValue131
 t55 := Try.underlying133
 a55 := Try.isAgg133
 z55 := Try.sizeOf133
 v55 := Try.zeroValue133
 t66 := Try.underlying154
 a66 := Try.isAgg154
 z66 := Try.sizeOf154
 v66 := Try.zeroValue154
 t70 := Try.underlying158
 a70 := Try.isAgg158
 z70 := Try.sizeOf158
 v70 := Try.zeroValue158
 t76 := Try.underlying170
 a76 := Try.isAgg170
 z76 := Try.sizeOf170
 v76 := Try.zeroValue170
 t77 := Try.underlying171
 a77 := Try.isAgg171
 z77 := Try.sizeOf171
 v77 := Try.zeroValue171 }
open Go.Sort Go.RowKit Go.Lib in
theorem Try.slices_SortFunc_none (p : Option Addr) (cap : Nat) (fv : Value) (w : World) :
   Calls Try.prog 21 #[.slice p 0 cap, fv] w fun e w' => e = .returned (.tuple #[]) ∧ w' = w := AnyF.slices_SortFunc_none Try.sortF p cap fv w
end Go.Proofs
end

section
namespace Go.Rt
open Go.Vm
theorem b2C (l : List Int) : (b4J l).length = l.length := List.length_mergeSort _
theorem b3C (xs : List Int) (hl : xs.length < 2 ^ 62) : b9l prog false n_a5h [.sl 1000 1 0 xs.length] [(1000, .list 1 (c0A xs))] (.tup []) [(1000, .list 1 (c0A (b4J xs)))] :=
 b8J b4J b2C (by simp [b4J]) (fun blk off cap zs w hH hb hs => Go.Proofs.Try.slices_Sort_int blk off cap zs w hH hb hs) (fun p cap w => Go.Proofs.Any.slices_Sort_int_none Go.Proofs.Try.lays189 p cap w) xs hl
theorem b4C (xs : List Int) (hl : xs.length < 2 ^ 62) : b9l prog false n_a5h [.sl 900 1 0 xs.length] [(900, .list 1 (c0A xs))] (.tup []) [(900, .list 1 (c0A (b4J xs)))] :=
 (b3C xs hl).ren (Ren.swaps [(1000, 900)]) rfl
def chT (es : List Ev) (o : Ins) (k : Nat) : List Vs := ⟨0, 0⟩ :: (o.txns.take k).map fun txn => ⟨txn, c0I es txn o.table o.key⟩
theorem b5C (es : List Ev) (o : Ins) : chT es o 0 = [⟨0, 0⟩] := rfl
theorem b6C {es : List Ev} {o : Ins} {k : Nat} {txn : Int} (h : o.txns[k]? = some txn) : chT es o (k + 1) = chT es o k ++ [⟨txn, c0I es txn o.table o.key⟩] := by
 unfold chT
 rw [show o.txns.take (k + 1) = o.txns.take k ++ [txn] by rw [List.take_add_one, h]; rfl]
 simp
theorem b7C (es : List Ev) (o : Ins) : chT es o o.txns.length = chnI es o := by unfold chT chnI; rw [List.take_length]
theorem b8C {es : List Ev} {o : Ins} {k : Nat} (h : k ≤ o.txns.length) : (chT es o k).length = k + 1 := by simp [chT]; omega
def b9C (es : List Ev) : Prop := ∀ e, e ∈ es → e.kind = 3 → e.row.length < 2 ^ 40
def bkIV (es : List Ev) (os : List Ins) : IV := .pt [.mp skL (gLv es), .lst 1 (c0A (b4J (c3J es))), .mp skR (gRw es), .mp skR (gLs es), .mp skC (gCh es os)]
theorem b0D {h : Hs} (hok : h.Ok) (hev : h.events.length < 2 ^ 40) (hw : ¬b1v h) : b9l prog false n_a5a [h.av] [] (.iv (.v (.pointer none))) [] := by
 refine c0H a5a_is (by simp) (by decide) ?_
 have hck := a5r (h := h) (fun hc => hw ((a5v h).1 hc))
 simp -dsimp [a5a, Hs.av]
 refine a5C (a6r hok hev) (by simp [Hs.av]) (by simp [Hs.av]) ?_
 simp -dsimp [hck]
 exact ⟨[1], by simp [EndV, AV.ivc]⟩
set_option maxHeartbeats 40000000 in
theorem b1D {h : Hs} (hok : h.Ok) (hev : h.events.length < 2 ^ 40) (hw : b1v h) (hrow : b9C h.events) (htx : ∀ o, o ∈ h.order → o.txns.length < 2 ^ 40) : b9l prog false n_a5a [h.av] [] (.iv (bkIV h.events h.order)) [] := by
 refine c0H a5a_is (by simp) (by decide) ?_
 have hck := a4r ((a5v h).2 hw)
 simp -dsimp [a5a, Hs.av]
 refine a5C (a6r hok hev) (by simp [Hs.av]) (by simp [Hs.av]) ?_
 simp -dsimp [hck]
 refine b7d [5, 6, 55] h.events.length (fun i => ⟨[(25, vi i), (24, vi h.events.length), (23, .iv (.lst 22 (evsC h.events))), (3, .ptr 21 0), (1, .ptr 1 0)],
   [(900, .list 1 (c0A (c3J (h.events.take i)))), (21, .box [.mpr 16, .sl 900 1 0 (c3J (h.events.take i)).length, .mpr 17, .mpr 18, .mpr 19]), (16, .map skL (gLv (h.events.take i))), (17, .map skR (gRw (h.events.take i))), (18, .map skR (gLs (h.events.take i))), (19, .map skC (fun _ => none)),
    (1, .box [.iv (.lst 1 (tbsC h.tables)), .iv (.lst 22 (evsC h.events)), .iv (.lst 5 (insC h.order))])]⟩) (fun _ => True) ?_ trivial ?_
 · refine (b6d (j := 21) (i := 1) (id := 900) (sz := 1) rfl rfl rfl (by decide)).trans (LeTo.le (D := []) ?_)
   simp -dsimp [St.add, c1I, c2I, c3I, c4J, c0A]
 · intro i hi _
   by_cases hil : i < h.events.length
   · obtain ⟨e, he⟩ := c7z hil
     have hwi := c8z (n := (i : Int) + 1) (by omega)
     have htn : h.events.take (i + 1) = h.events.take i ++ [e] := by rw [List.take_add_one, he]; rfl
     have hcl := c6J (h.events.take i)
     have htl : (h.events.take i).length ≤ h.events.length := by simp; omega
     by_cases k1 : e.kind = 1
     · have hg1 := c5I (es := h.events.take i) k1
       have hg2 := c9I (es := h.events.take i) (e := e) (by omega)
       have hg3 := c1J (es := h.events.take i) (e := e) (by omega)
       have hg4 : c3J (h.events.take i ++ [e]) = c3J (h.events.take i) := by rw [c5J, if_neg (by omega)]; simp
       rw [htn, hg2, hg3, hg4]
       simp -dsimp [a5a_l17, he, b0Q, k1, hg1, hwi]
       exact fun h => absurd h (by omega)
     · by_cases k5 : e.kind = 5
       · have hg1 := c6I (es := h.events.take i) (e := e) k1
         have hg2 := c9I (es := h.events.take i) (e := e) (by omega)
         have hg3 := c1J (es := h.events.take i) (e := e) (by omega)
         have hg4 : c3J (h.events.take i ++ [e]) = c3J (h.events.take i) ++ [e.txn] := by rw [c5J, if_pos k5]
         rw [htn, hg1, hg2, hg3, hg4]
         simp -dsimp [a5a_l17, he, b0Q, k5, hwi]
         exact ⟨fun _ => ⟨by omega, by omega, hil, by simp [c0A]⟩, fun h => absurd h (by omega)⟩
       · have hg1 := c6I (es := h.events.take i) (e := e) k1
         have hg4 : c3J (h.events.take i ++ [e]) = c3J (h.events.take i) := by rw [c5J, if_neg (by omega)]; simp
         by_cases k3 : e.kind = 3
         · have hg2 := c8I (es := h.events.take i) k3
           have hg3 := c0J (es := h.events.take i) k3
           rw [htn, hg1, hg4]
           simp -dsimp [a5a_l17, he, b0Q, k3]
           refine ⟨fun _ => ?_, fun h => absurd h (by omega)⟩
           have hre := hrow e (List.mem_of_getElem? he) k3
           have hcl2 : b9l prog false n_a3b [.iv (.lst 3 (rowC e.row))] [] (.iv (.lst 3 (rowC e.row))) [] := b6z (by simpa using hre)
           repeat' first
             | (refine And.intro ?_ ?_)
             | (refine c4N hcl2 rfl (by simp) (by simp) (by simp) (by simp) ?_; simp -dsimp [b0Q, hg2, hg3, hwi])
           all_goals exact hil
         · have hg2 := c9I (es := h.events.take i) (e := e) k3
           have hg3 := c1J (es := h.events.take i) (e := e) k3
           rw [htn, hg1, hg2, hg3, hg4]
           simp -dsimp [a5a_l17, he, b0Q, k1, k3, k5, hwi]
           exact fun h => absurd h (by omega)
   · have hie : i = h.events.length := by omega
     subst hie
     rw [List.take_length]
     have hcl := c6J h.events
     simp -dsimp [a5a_l17]
     refine a8G (b4C (c3J h.events) (by omega)) rfl (by simp) (by simp) (by simp) (by simp) (by simp) (by simp only [a9F, a8F, and_true]; exact ⟨_, rfl, Ob.le_of rfl rfl (by simp [b2C])⟩) (by simp) ?_
     simp -dsimp
     have hol := hok.order
     refine a2E [1] [9, 105]  h.order.length (fun i => ⟨[(95, vi i), (94, vi h.order.length), (93, .iv (.lst 5 (insC h.order))), (3, .ptr 21 0)],
       [(900, .list 1 (c0A (b4J (c3J h.events)))), (21, .box [.mpr 16, .sl 900 1 0 (c3J h.events).length, .mpr 17, .mpr 18, .mpr 19]), (16, .map skL (gLv h.events)), (17, .map skR (gRw h.events)), (18, .map skR (gLs h.events)), (19, .map skC (gCh h.events (h.order.take i)))]⟩) (fun _ => True) ?_ trivial ?_
     · simp [c4I]
     · intro i hi _
       by_cases hil : i < h.order.length
       · obtain ⟨o, ho⟩ := c7z hil
         have hwi := c8z (n := (i : Int) + 1) (by omega)
         have htn : h.order.take (i + 1) = h.order.take i ++ [o] := by rw [List.take_add_one, ho]; rfl
         have hot := htx o (List.mem_of_getElem? ho)
         have hgc := c2J h.events (h.order.take i) o
         rw [htn]
         simp -dsimp [a5a_l32, ho, Ins.cells, b0Q]
         refine ⟨fun _ => ?_, fun hh => absurd hh (by omega)⟩
         refine a2E [8] [125] o.txns.length (fun k => ⟨[(109, vi k), (108, vi o.txns.length), (107, .iv (.lst 1 (c0A o.txns))), (10, .sl 105 2 0 (k + 1)), (9, .ptr 9 0), (95, vi i), (94, vi h.order.length), (93, .iv (.lst 5 (insC h.order))), (3, .ptr 21 0)],
           [(105, .list 2 (vsC (chT h.events o k))), (9, .box [vi o.table, vb o.key.text, vi o.key.n, .iv (.v (.string o.key.s))]), (900, .list 1 (c0A (b4J (c3J h.events)))), (21, .box [.mpr 16, .sl 900 1 0 (c3J h.events).length, .mpr 17, .mpr 18, .mpr 19]), (16, .map skL (gLv h.events)), (17, .map skR (gRw h.events)), (18, .map skR (gLs h.events)), (19, .map skC (gCh h.events (h.order.take i)))]⟩) (fun _ => True) ?_ trivial ?_
         · simp [b5C, vsC]
         · intro k hk _
           by_cases hkl : k < o.txns.length
           · obtain ⟨txn, htxn⟩ := c7z hkl
             have hwk := c8z (n := (k : Int) + 1) (by omega)
             have hcn := b6C (es := h.events) htxn
             have hcl := b8C (es := h.events) (o := o) (k := k) (by omega)
             have hvs : vsC (chT h.events o k) ++ [[ci txn, ci (c0I h.events txn o.table o.key)]] = vsC (chT h.events o (k + 1)) := by rw [hcn]; simp [vsC]
             simp -dsimp [a5a_l29, htxn, hwk, hcl, hvs]
             exact ⟨fun _ => ⟨by omega, by omega, hkl⟩, fun h => absurd h (by omega)⟩
           · have hke : k = o.txns.length := by omega
             subst hke
             rw [b7C]
             have hcl := b8C (es := h.events) (o := o) (k := o.txns.length) (by omega)
             rw [b7C] at hcl
             have htk : List.take (o.txns.length + 1) (vsC (chnI h.events o)) = vsC (chnI h.events o) := List.take_of_length_le (by simp [hcl])
             simp -dsimp [a5a_l29, htk, hgc, hwi]
             exact hil
       · have hie : i = h.order.length := by omega
         subst hie
         rw [List.take_length]
         simp -dsimp [a5a_l32]
         have htk : List.take (c3J h.events).length (c0A (b4J (c3J h.events))) = c0A (b4J (c3J h.events)) := List.take_of_length_le (by simp [b2C])
         exact ⟨[16, 17, 18, 19, 900, 21], by simp [EndV, AV.ivc, bkIV, htk]⟩
end Go.Rt
end

section
namespace Go.Rt
open Go.Vm
def rowB (es : List Ev) (table : Int) (k : Vl) (v : Vs) : Option (List Vl) := if v = ⟨0, 0⟩ then some [] else (c3H (Ev.isN v.txn table k v.n) es).map Ev.row
def chaB (es : List Ev) (os : List Ins) (table : Int) (k : Vl) : List Vs := match c3H (Ins.isO table k) os with
 | some o => chnI es o
 | none => [⟨0, 0⟩]
def plaB (es : List Ev) (os : List Ins) (table : Int) (k : Vl) (v : Vs) : Int := if (rowB es table k v).isNone then -1 else ixP (fun x => decide (x.txn = v.txn)) (chaB es os table k)
def hldB (es : List Ev) (table : Int) (k : Vl) (p : Pd) (v : Vs) : Bool := !((rowB es table k v).getD []).isEmpty && p.holds ((rowB es table k v).getD [])
def chgB (es : List Ev) (os : List Ins) (table : Int) (k : Vl) (b5A : Int) (p : Pd) : Bool :=
 if b5A < 1 ∨ (chaB es os table k).length ≤ b5A then false else hldB es table k p (((chaB es os table k)[(b5A - 1).toNat]?).getD ⟨0, 0⟩) != hldB es table k p (((chaB es os table k)[b5A.toNat]?).getD ⟨0, 0⟩)
theorem b4I {txn table : Int} {k : Vl} {m : Int} {e : Ev} (h : e.isN txn table k m = true) : e.kind = 3 := by
 simp only [Ev.isN, Bool.and_eq_true, Ev.isW_iff] at h
 exact h.1.1
section
variable (es : List Ev) (os : List Ins)
theorem b5I (hev : es.length < 2 ^ 40) : b9l prog false n_a6a [.iv (bkIV es os)] [] (.iv (c1A (b4J (c3J es)))) [] := by
 refine c0H a6a_is (by simp) (by decide) ?_
 have := c6J es
 simp -dsimp [a6a, bkIV]
 refine c4N (b4z (xs := c0A (b4J (c3J es))) (by simp [b2C]; omega)) rfl (by simp) (by simp) (by simp) (by simp) ?_
 simp -dsimp
 exact ⟨[2], by simp [EndV, AV.ivc, c1A]⟩
theorem b6I (table : Int) (k : Vl) (v : Vs) (hrow : b9C es) : b9l prog false n_a1d [.iv (bkIV es os), vi table, k.av, v.av] [] (.tup [.iv (.lst 3 (rowC ((rowB es table k v).getD []))), vb (rowB es table k v).isSome]) [] := by
 refine c6N (by decide) a1d_is (by simp) (by decide) ?_
 by_cases h0 : v = ⟨0, 0⟩
 · subst h0
   simp -dsimp [a1d, bkIV, rowB]
   exact ⟨[8, 6, 7], by simp [c5N, AV.ivc, rowC]⟩
 · have h1 : v.txn = 0 → ¬v.n = 0 := fun h h' => h0 (Vs.eq_iff.2 ⟨h, h'⟩)
   have h2 : rowB es table k v = (c3H (Ev.isN v.txn table k v.n) es).map Ev.row := by unfold rowB; rw [if_neg h0]
   rw [h2]
   simp -dsimp [a1d, bkIV, gRw]
   refine ⟨fun a b => absurd b (h1 a), fun _ => ?_⟩
   cases hl : c3H (Ev.isN v.txn table k v.n) es with
   | none =>
     simp -dsimp
     have hc : b9l prog false n_a3b [.iv (.lst 3 [])] [] (.iv (.lst 3 [])) [] := b6z (by simp)
     refine c4N hc rfl (by simp) (by simp) (by simp) (by simp) ?_
     simp -dsimp
     exact ⟨[6, 7], by simp [c5N, AV.ivc, rowC]⟩
   | some e =>
     have hc : b9l prog false n_a3b [.iv (.lst 3 (rowC e.row))] [] (.iv (.lst 3 (rowC e.row))) [] := b6z (by simpa using hrow e (c8H hl).1 (b4I (c8H hl).2))
     simp -dsimp
     refine c4N hc rfl (by simp) (by simp) (by simp) (by simp) ?_
     simp -dsimp
     exact ⟨[6, 7], by simp [c5N, AV.ivc]⟩
theorem b7I (table : Int) (k : Vl) : b9l prog false n_a3d [.iv (bkIV es os), vi table, k.av] [] (.iv (.lst 2 (vsC (chaB es os table k)))) [] := by
 refine c0H a3d_is (by simp) (by decide) ?_
 simp -dsimp [a4d_chain, bkIV, gCh, chaB]
 cases c3H (Ins.isO table k) os with
 | none =>
   simp -dsimp
   exact ⟨[23, 5], by simp [EndV, AV.ivc, vsC]⟩
 | some o =>
   simp -dsimp
   exact ⟨[5], by simp [EndV, AV.ivc]⟩
theorem b8I (table : Int) (k : Vl) (hc : (chaB es os table k).length < 2 ^ 42) : b9l prog false n_a7b [.iv (bkIV es os), vi table, k.av] [] (.iv (.lst 2 (vsC (chaB es os table k)))) [] := by
 refine c0H a7b_is (by simp) (by decide) ?_
 simp -dsimp [a7b, bkIV]
 refine c4N (b7I es os table k) rfl (by simp [bkIV]) (by simp) (by simp) (by simp) ?_
 simp -dsimp
 refine ⟨by omega, by omega, ?_⟩
 have ht : List.take (chaB es os table k).length (vsC (chaB es os table k)) = vsC (chaB es os table k) := List.take_of_length_le (by simp)
 refine ⟨?_, [17], by simp [EndV, AV.ivc, ht]⟩
 unfold chaB
 cases c3H (Ins.isO table k) os <;> simp [chnI]
theorem b9I : okFn prog n_a5d = true := by kernel_rfl
theorem b0J (x v : Vs) : b9l prog true n_a5d [x.av, .iv (.pt v.cells)] [] (vb (decide (x.txn = v.txn))) [] := by
 refine a9D a5d_is (by simp) (by decide) rfl ?_
 simp -dsimp [a5d]
 rfl
theorem b1J (l : List Vs) (hl : l.length < 2 ^ 63) (v : Vs) : b9l prog true n_a2d [.iv (.lst 2 (vsC l)), .fn n_a5d [] [.val (.pt v.cells)]] [] (vi (ixP (fun x => decide (x.txn = v.txn)) l)) [] := by
 refine a9D a2d_is (by simp) (by decide) rfl ?_
 simp -dsimp [a2d]
 refine a2E [] [] l.length (fun i => ⟨[(8, vi i), (7, vi l.length), (0, .iv (.lst 2 (vsC l))), (1, .fn n_a5d [] [.val (.pt v.cells)])], []⟩) (fun i => Upto i fun j => ∀ e, l[j]? = some e → decide (e.txn = v.txn) = false) ?_ c6z ?_
 · simp -dsimp
 · intro i hi hq
   simp -dsimp [a2d_l7]
   refine ⟨fun hlt => ?_, fun hge => ?_⟩
   · obtain ⟨e, he⟩ := c7z hlt
     have hw := c8z (n := (i : Int) + 1) (by omega)
     simp -dsimp [he, b0Q]
     refine ⟨b9I, a9G (b0J e v) (by simp) (by simp) (by simp) ?_⟩
     by_cases hf : e.txn = v.txn
     · have := b0A (p := fun x : Vs => decide (x.txn = v.txn)) he (by simpa using hf) hq
       simp -dsimp [hf, this]
     · simp -dsimp [hf, hw]
       exact ⟨hlt, Upto.succ (fun j hj y hy => by simpa using hq j hj y hy) fun y hy => by rw [he] at hy; cases hy; exact hf⟩
   · rw [b1A (b2A hge hq)]
theorem b2J (table : Int) (k : Vl) (v : Vs) (hrow : b9C es) (hc : (chaB es os table k).length < 2 ^ 42) : b9l prog true n_a6b [.iv (bkIV es os), vi table, k.av, v.av] [] (vi (plaB es os table k v)) [] := by
 refine a9D a6b_is (by simp) (by decide) rfl ?_
 simp -dsimp [a6b]
 refine c4N (b6I es os table k v hrow) rfl (by simp) (by simp) (by simp) (by simp) ?_
 unfold plaB
 cases hr : rowB es table k v with
 | none => simp -dsimp
 | some r =>
   simp -dsimp
   refine c4N (b7I es os table k) rfl (by simp) (by simp) (by simp) (by simp) ?_
   simp -dsimp
   refine a5C (b1J (chaB es os table k) (by omega) v) (by simp) (by simp) ?_
   simp -dsimp
end
end Go.Rt
end

section
namespace Go.Rt
open Go.Vm
theorem c1c : okFn prog n_a6d = true := by kernel_rfl
theorem c2c {es : List Ev} {table : Int} {k : Vl} {v : Vs} (hrow : b9C es) : ((rowB es table k v).getD []).length < 2 ^ 40 := by
 unfold rowB
 split
 · simp
 · cases h : c3H (Ev.isN v.txn table k v.n) es with
   | none => simp
   | some e => exact hrow e (c8H h).1 (b4I (c8H h).2)
set_option maxHeartbeats 4000000 in
theorem c3c (es : List Ev) (os : List Ins) (table : Int) (k : Vl) {p : Pd} (hp : p.Ok) (v : Vs) (hrow : b9C es) :
   b9l prog true n_a6d [v.av, .iv (.pt [bkIV es os]), .iv (.pt [ci table]), .iv (.pt k.cells), .iv (.pt p.cells)] [] (vb (hldB es table k p v)) [] := by
 refine a9D a6d_is (by simp) (by decide) rfl ?_
 simp -dsimp [a6d]
 refine c4N (b6I es os table k v hrow) rfl (by simp) (by simp) (by simp) (by simp) ?_
 have hl := c2c (table := table) (k := k) (v := v) hrow
 have hp9 : p.cells.length = 9 := by rw [Pd.cells_eq]; rfl
 unfold hldB
 generalize (rowB es table k v).getD [] = r at *
 cases r with
 | nil =>
   simp -dsimp [rowC]
 | cons a b =>
   have hne : 0 < (rowC (a :: b)).length := by simp
   simp -dsimp
   have ht : List.take 9 (p.cells.map AV.iv) = p.cells.map AV.iv := List.take_of_length_le (by simp [hp9])
   refine ⟨by omega, ?_⟩
   refine a5C (c9d hp (a :: b) (by omega)) (by simp [ht, Pd.av]) (by simp [Pd.av]) ?_
   simp -dsimp
theorem c4c (es : List Ev) (os : List Ins) (table : Int) (k : Vl) : 0 < (chaB es os table k).length := by
 unfold chaB; split <;> simp [chnI]
set_option maxHeartbeats 8000000 in
theorem c5c (es : List Ev) (os : List Ins) (table : Int) (k : Vl) (b5A : Int) {p : Pd} (hp : p.Ok) (hrow : b9C es) (hc : (chaB es os table k).length < 2 ^ 42) :
   b9l prog true n_a8b [.iv (bkIV es os), vi table, k.av, vi b5A, p.av] [] (vb (chgB es os table k b5A p)) [] := by
 refine a9D a8b_is (by simp) (by decide) rfl ?_
 have h1 := fun v => c3c es os table k hp v hrow
 have hch := b7I es os table k
 have hres : chgB es os table k b5A p = if b5A < 1 ∨ (chaB es os table k).length ≤ b5A then false else hldB es table k p (((chaB es os table k)[(b5A - 1).toNat]?).getD ⟨0, 0⟩) != hldB es table k p (((chaB es os table k)[b5A.toNat]?).getD ⟨0, 0⟩) := rfl
 generalize chgB es os table k b5A p = res at *
 generalize chaB es os table k = l at *
 simp -dsimp [a8b, Pd.av_eq, bkIV]
 refine c4N hch rfl (by simp [bkIV]) (by simp) (by simp) (by simp) ?_
 by_cases p1 : b5A < 1
 · rw [if_pos (.inl p1)] at hres
   subst hres
   simp -dsimp [p1]
 · by_cases p2 : (l.length : Int) ≤ b5A
   · rw [if_pos (.inr p2)] at hres
     subst hres
     simp -dsimp [p1, p2]
   · obtain ⟨q, rfl⟩ : ∃ q : Nat, b5A = ((q + 1 : Nat) : Int) := ⟨(b5A - 1).toNat, by omega⟩
     obtain ⟨x, hx⟩ : ∃ x, l[q]? = some x := c7z (by omega)
     obtain ⟨y, hy⟩ : ∃ y, l[q + 1]? = some y := c7z (by omega)
     have hw := c8z (n := ((q + 1 : Nat) : Int) - 1) (by omega)
     have hq : ((q + 1 : Nat) : Int) - 1 = q := by omega
     rw [if_neg (by omega), hq, Int.toNat_natCast, Int.toNat_natCast, hx, hy] at hres
     rw [hq] at hw
     subst hres
     have p1' : ¬((q : Int) + 1 < 1) := by omega
     have p2' : ¬((l.length : Int) ≤ (q : Int) + 1) := by omega
     have p0 : (0 : Int) ≤ (q : Int) + 1 := by omega
     have hw' : IntKind.i64.wrap (q : Int) = q := hw
     simp -dsimp [p1', p2', p0, hw', hx, hy, b0Q]
     refine ⟨⟨c1c, a9G (h1 x) (by simp) (by simp [bkIV, Pd.cells_eq]) (by simp) ?_⟩, ?_⟩
     · simp -dsimp [b0Q]
       refine ⟨c1c, a9G (h1 y) (by simp) (by simp [bkIV, Pd.cells_eq]) (by simp) ?_⟩
       simp -dsimp
     · refine ⟨c1c, a9G (h1 x) (by simp) (by simp [bkIV, Pd.cells_eq]) (by simp) ?_⟩
       simp -dsimp
       refine ⟨c1c, a9G (h1 y) (by simp) (by simp [bkIV, Pd.cells_eq]) (by simp) ?_⟩
       simp -dsimp
end Go.Rt
end

section
namespace Go.Rt
open Go.Vm
theorem b8d {α : Type} [DecidableEq α] : ∀ {l r : List α}, l.Nodup → (∀ x, x ∈ l → x ∈ r) → l.length ≤ r.length
 | [], _, _, _ => Nat.zero_le _
 | a :: l, r, hn, h => by
   have hn := List.nodup_cons.1 hn
   have ha := h a List.mem_cons_self
   have := b8d (l := l) (r := r.erase a) hn.2 fun x hx => by
     refine (List.mem_erase_of_ne ?_).2 (h x (List.mem_cons_of_mem _ hx))
     rintro rfl; exact hn.1 hx
   rw [List.length_erase_of_mem ha] at this
   have := List.length_pos_of_mem ha
   simp only [List.length_cons]; omega
theorem b9d {α : Type} {l : List α} (h : ∀ (i : Nat) (t : α), l[i]? = some t → t ∉ l.take i) : l.Nodup := by
 unfold List.Nodup
 rw [List.pairwise_iff_getElem]
 intro i j hi hj hij he
 refine h j l[j] (List.getElem?_eq_getElem hj) (List.mem_of_getElem? (i := i) ?_)
 rw [List.getElem?_take_of_lt hij, List.getElem?_eq_getElem hi, he]
section
variable {h : Hs}
theorem b0e {es : List Ev} {txn table : Int} {k : Vl} (hw : c2u es txn table k ≠ 0) : ∃ e, e ∈ es ∧ e.isW txn table k = true := by
 unfold c2u at hw
 obtain ⟨e, he⟩ := List.exists_mem_of_length_pos (Nat.pos_of_ne_zero hw)
 rw [List.mem_filter] at he
 exact ⟨e, he.1, he.2⟩
theorem b1e (hw : b1v h) {o : Ins} (ho : o ∈ h.order) : o.txns.Nodup := by
 obtain ⟨i, hi⟩ := List.getElem?_of_mem ho
 exact b9d fun j t hj => ((b1h hw hi).2.1 j (List.getElem?_eq_some_iff.1 hj).1 t hj).2.2
theorem b2e (hw : b1v h) {o : Ins} (ho : o ∈ h.order) {t : Int} (ht : t ∈ o.txns) : b8r h.events t = 5 ∧ c2u h.events t o.table o.key ≠ 0 := by
 obtain ⟨i, hi⟩ := List.getElem?_of_mem ho
 obtain ⟨j, hj⟩ := List.getElem?_of_mem ht
 have := (b1h hw hi).2.1 j (List.getElem?_eq_some_iff.1 hj).1 t hj
 exact ⟨this.1, this.2.1⟩
theorem b3e (hw : b1v h) {o : Ins} (ho : o ∈ h.order) : o.txns.length ≤ h.events.length := by
 have := b8d (l := o.txns) (r := h.events.map Ev.txn) (b1e hw ho) fun t ht => by
   obtain ⟨e, he, hk⟩ := b0e (b2e hw ho ht).2
   exact List.mem_map.2 ⟨e, he, (b3h hk).2.1⟩
 simpa using this
theorem b4e (hw : b1v h) {e : Ev} (he : e ∈ h.events) : 1 ≤ e.txn := by
 obtain ⟨i, hi⟩ := List.getElem?_of_mem he
 exact (b0h hw hi).1.1.1
theorem b5e {table : Int} {k : Vl} {o : Ins} : o.isO table k = true ↔ o.isOf table k := by
 unfold Ins.isO Ins.isOf
 rw [Bool.and_eq_true, decide_eq_true_eq, decide_eq_true_eq]
theorem b6e (hw : b1v h) {table : Int} {k : Vl} : ∀ (i j : Nat) (a b : Ins), h.order[i]? = some a → h.order[j]? = some b → a.isO table k = true → b.isO table k = true → i = j := by
 have key : ∀ (i j : Nat) (a b : Ins), i < j → h.order[i]? = some a → h.order[j]? = some b → a.isO table k = true → b.isO table k = true → False := by
   intro i j a b hij hi hj ha hb
   rw [b5e] at ha hb
   refine (b1h hw hj).1 a (List.mem_of_getElem? (i := i) ?_) ⟨ha.1.trans hb.1.symm, ha.2.trans hb.2.symm⟩
   rw [List.getElem?_take_of_lt hij]; exact hi
 intro i j a b hi hj ha hb
 rcases Nat.lt_trichotomy i j with g | g | g
 · exact (key i j a b g hi hj ha hb).elim
 · exact g
 · exact (key j i b a g hj hi hb ha).elim
theorem b7e (hw : b1v h) (table : Int) (k : Vl) : (chaB h.events h.order table k).length ≤ h.events.length + 1 := by
 unfold chaB
 cases ho : c3H (Ins.isO table k) h.order with
 | none => simp
 | some o =>
   have := b3e hw (c8H ho).1
   simp [chnI]; omega
end
end Go.Rt
end

section
namespace Go.Rt
open Go.Vm
section
variable {h : Hs}
theorem b4v {α : Type} {p : α → Bool} {l : List α} (hu : ∀ (i j : Nat) (a b : α), l[i]? = some a → l[j]? = some b → p a = true → p b = true → i = j) {e : α} (he : e ∈ l) (hp : p e = true) : c3H p l = some e := by
 cases hl : c3H p l with
 | none => rw [c7H] at hl; rw [hl e he] at hp; cases hp
 | some a =>
   obtain ⟨h1, h2⟩ := c8H hl
   obtain ⟨i, hi⟩ := List.getElem?_of_mem h1
   obtain ⟨j, hj⟩ := List.getElem?_of_mem he
   have := hu i j a e hi hj h2 hp
   subst this
   rw [hi] at hj; exact hj
end
end Go.Rt
end

section
namespace Go.Rt
open Go.Vm
theorem b3x : ∀ {es : List Ev} {t : Int}, b8r es t = 5 → ∃ e, e ∈ es ∧ e.txn = t ∧ e.kind = 5
 | [], _, h => by simp [b8r] at h
 | x :: r, t, h => by
   rw [b8r] at h
   by_cases hx : x.ends t
   · rw [if_pos hx] at h
     exact ⟨x, List.mem_cons_self, hx.1, h⟩
   · rw [if_neg hx] at h
     obtain ⟨e, h1, h2⟩ := b3x h
     exact ⟨e, List.mem_cons_of_mem _ h1, h2⟩
section
variable {h : Hs}
theorem b4x (hw : b1v h) {t : Int} (ht : t ∈ c3J h.events) : b8r h.events t = 5 := by
 unfold c3J at ht
 obtain ⟨e, he, rfl⟩ := List.mem_map.1 ht
 rw [List.mem_filter, decide_eq_true_eq] at he
 obtain ⟨i, hi⟩ := List.getElem?_of_mem he.1
 rw [b0s (i := i) (e := e) ?_ hi ⟨rfl, .inl he.2⟩, he.2]
 intro j hj x hx hxe
 have := (b0h hw hi).1.1.2.2.2.1 x (List.mem_of_getElem? (i := j) (by rw [List.getElem?_take_of_lt hj]; exact hx)) hxe.1
 rcases hxe.2 with g | g
 · exact this.1 g
 · exact this.2 g
theorem b5x {t : Int} (h5 : b8r h.events t = 5) : t ∈ c3J h.events := by
 obtain ⟨e, h1, h2, h3⟩ := b3x h5
 unfold c3J
 exact List.mem_map.2 ⟨e, List.mem_filter.2 ⟨h1, by simpa using h3⟩, h2⟩
def tsB (h : Hs) (table : Int) (k : Vl) : List Int := match c3H (Ins.isO table k) h.order with
 | some o => o.txns
 | none => []
variable {table : Int} {k : Vl}
theorem b6x (hw : b1v h) : chaB h.events h.order table k = ⟨0, 0⟩ :: (tsB h table k).map fun t => ⟨t, (c2u h.events t table k : Int)⟩ := by
 unfold chaB tsB
 cases ho : c3H (Ins.isO table k) h.order with
 | none => rfl
 | some o =>
   obtain ⟨h1, h2⟩ := c8H ho
   rw [b5e] at h2
   obtain ⟨h2, h3⟩ := h2
   simp only [chnI, b6h hw, h2, h3]
theorem b7x (hw : b1v h) {t : Int} : t ∈ tsB h table k ↔ t ∈ c3J h.events ∧ 1 ≤ c2u h.events t table k := by
 constructor
 · intro ht
   unfold tsB at ht
   cases ho : c3H (Ins.isO table k) h.order with
   | none => rw [ho] at ht; cases ht
   | some o =>
     rw [ho] at ht
     obtain ⟨h1, h2⟩ := c8H ho
     rw [b5e] at h2
     obtain ⟨h2, h3⟩ := h2
     obtain ⟨g1, g2⟩ := b2e hw h1 ht
     rw [h2, h3] at g2
     exact ⟨b5x g1, by omega⟩
 · rintro ⟨h1, h2⟩
   obtain ⟨e, he, hk⟩ := b0e (es := h.events) (txn := t) (table := table) (k := k) (by omega)
   obtain ⟨k3, rfl, rfl, rfl⟩ := b3h hk
   obtain ⟨i, hi⟩ := List.getElem?_of_mem he
   obtain ⟨o, ho, hof, hot⟩ := (b0h hw hi).2 k3 (b4x hw h1)
   unfold tsB
   rw [b4v (b6e hw) ho (b5e.2 hof)]
   exact hot
theorem b8x (hw : b1v h) {t : Int} (ht : t ∈ tsB h table k) : 1 ≤ t := by
 obtain ⟨_, h2⟩ := (b7x hw).1 ht
 obtain ⟨e, he, hk⟩ := b0e (es := h.events) (txn := t) (table := table) (k := k) (by omega)
 obtain ⟨_, rfl, _⟩ := b3h hk
 exact b4e hw he
end
end Go.Rt
end

section
namespace Go.Rt
open Go.Vm
instance decAt {α : Type} {l : List α} {i : Nat} {p : α → Prop} [∀ x, Decidable (p x)] : Decidable (∀ x, l[i]? = some x → p x) :=
 match h : l[i]? with
 | none => .isTrue fun x hx => by cases hx
 | some y => if hp : p y then .isTrue fun x hx => by cases hx; exact hp else .isFalse fun g => hp (g y rfl)
instance decEx {α : Type} {l : List α} {i : Nat} {p : α → Prop} [∀ x, Decidable (p x)] : Decidable (∃ x, l[i]? = some x ∧ p x) :=
 match h : l[i]? with
 | none => .isFalse fun ⟨x, hx, _⟩ => by cases hx
 | some y => if hp : p y then .isTrue ⟨y, rfl, hp⟩ else .isFalse fun ⟨x, hx, g⟩ => by cases hx; exact hp g
instance decUpto {n : Nat} {p : Nat → Prop} [∀ j, Decidable (p j)] : Decidable (Upto n p) := by unfold Upto; infer_instance
instance {es : List Ev} {t : Int} : Decidable (c9u es t) := by unfold c9u; infer_instance
instance {es : List Ev} {t : Int} : Decidable (c8u es t) := by unfold c8u; infer_instance
instance {es : List Ev} {e : Ev} : Decidable (c4v es e) := by unfold c4v; infer_instance
instance {t : Tb} : Decidable (TbOk t) := by unfold TbOk; infer_instance
instance {h : Hs} {table : Int} {k : Vl} : Decidable (b2s h table k) := by unfold b2s; infer_instance
instance {es : List Ev} {table : Int} {k : Vl} {v : Vs} : Decidable (b3s es table k v) := by unfold b3s; infer_instance
instance {t : Tb} {r : List Vl} {i : Nat} : Decidable (∀ (v : Vl) (c : Bool), r[i]? = some v → t[i]? = some c → v.text = c ∧ v.right = true) :=
 decidable_of_iff (∀ v, r[i]? = some v → ∀ c, t[i]? = some c → v.text = c ∧ v.right = true) ⟨fun h v c a b => h v a c b, fun h v a c b => h v c a b⟩
instance {t : Tb} {r : List Vl} {i : Nat} : Decidable (b8X t r i) := by unfold b8X; infer_instance
instance {t : Tb} {r : List Vl} : Decidable (Fits t r) := by unfold Fits; infer_instance
instance {h : Hs} {es : List Ev} {e : Ev} : Decidable (b5v h es e) := by unfold b5v; infer_instance
instance {h : Hs} {es : List Ev} {e : Ev} : Decidable (b6v h es e) := by unfold b6v; infer_instance
noncomputable instance {h : Hs} {es : List Ev} {e : Ev} : Decidable (b8v h es e) := Classical.propDecidable _
noncomputable instance {h : Hs} {es : List Ev} {e : Ev} : Decidable (b6u h es e) := by unfold b6u; infer_instance
instance {table : Int} {k : Vl} {o : Ins} : Decidable (o.isOf table k) := by unfold Ins.isOf; infer_instance
instance {h : Hs} {e : Ev} : Decidable (b8u h e) := by unfold b8u; infer_instance
instance {h : Hs} {a : Nat} {o : Ins} : Decidable (b9u h a o) := by unfold b9u; infer_instance
instance {h : Hs} : Decidable (h.TbsOk) := by unfold Hs.TbsOk; infer_instance
instance {h : Hs} : Decidable (b0v h) := by unfold b0v; infer_instance
noncomputable instance {h : Hs} : Decidable (b1v h) := by unfold b1v; infer_instance
def k5 : Vl := ⟨false, 5, ⟨#[]⟩⟩
def noPd : Pd := .mk 0 0 Vl.zero Vl.zero []
def exB (t l : Int) : Ev := ⟨t, 1, l, 0, Vl.zero, ⟨0, 0⟩, 0, [], noPd, [], false⟩
def exW (t n : Int) (r : List Vl) : Ev := ⟨t, 3, 0, 0, k5, ⟨0, 0⟩, n, r, noPd, [], false⟩
def exC (t : Int) : Ev := ⟨t, 5, 0, 0, Vl.zero, ⟨0, 0⟩, 0, [], noPd, [], false⟩
end Go.Rt
end

section
namespace Go.Rt
open Go.Vm
def b5k (l : List Rf) (k : Vl) : Vs := ((c3H (fun r : Rf => decide (r.key = k)) l).map Rf.frm).getD ⟨0, 0⟩
def wwE (o : Ins) : List Eg := (o.txns.zip o.txns.tail).map fun p => ⟨p.1, p.2, 1, o.table, o.key, false⟩
section
variable (h : Hs) (e : Ev)
def rd1 (p : Int) : List Eg := if 0 < p then [⟨e.frm.txn, e.txn, 2, e.table, e.key, e.cur⟩] else []
def rd2 (p : Int) (c : List Vs) : List Eg := if 0 ≤ p ∧ p + 1 < c.length ∧ e.frm.txn ≠ e.txn then [⟨e.txn, ((c[(p + 1).toNat]?).getD ⟨0, 0⟩).txn, 4, e.table, e.key, e.cur⟩] else []
def b6k : List Eg := rd1 e (plaB h.events h.order e.table e.key e.frm) ++ rd2 e (plaB h.events h.order e.table e.key e.frm) (chaB h.events h.order e.table e.key)
def b7k (k : Vl) (p : Int) (i : Nat) : List Eg := if chgB h.events h.order e.table k i e.pred = true then
 [if (i : Int) ≤ p then ⟨(((chaB h.events h.order e.table k)[i]?).getD ⟨0, 0⟩).txn, e.txn, 3, e.table, k, false⟩ else ⟨e.txn, (((chaB h.events h.order e.table k)[i]?).getD ⟨0, 0⟩).txn, 5, e.table, k, false⟩] else []
def b8k (k : Vl) : List Eg := if plaB h.events h.order e.table k (b5k e.refs k) < 0 ∨ (b5k e.refs k).txn = e.txn then [] else
 (List.range (chaB h.events h.order e.table k).length).flatMap (b7k h e k (plaB h.events h.order e.table k (b5k e.refs k)))
def b9k (o : Ins) : List Eg := if o.table = e.table then b8k h e o.key else []
def b0l : List Eg := h.order.flatMap (b9k h e)
def evE : List Eg := if b8r h.events e.txn = 5 then (if e.kind = 2 then b6k h e else if e.kind = 4 then b0l h e else []) else []
def b1l : List Eg := h.order.flatMap wwE ++ h.events.flatMap (evE h)
noncomputable def b2l : List Eg := if b1v h then (b1l h).foldl putE [] else []
end
theorem b3l {h : Hs} (hw : b1v h) {m : Eg} : m ∈ b2l h ↔ m ∈ b1l h ∧ m.frm ≠ m.to := by
 unfold b2l; rw [if_pos hw, b6j]; simp
theorem b4l {h : Hs} (hw : ¬b1v h) : b2l h = [] := by unfold b2l; rw [if_neg hw]
theorem b5l {o : Ins} {m : Eg} : m ∈ wwE o ↔ ∃ i a b, o.txns[i]? = some a ∧ o.txns[i + 1]? = some b ∧ m = ⟨a, b, 1, o.table, o.key, false⟩ := by
 unfold wwE
 rw [List.mem_map]
 constructor
 · rintro ⟨p, hp, rfl⟩
   obtain ⟨i, hi⟩ := List.getElem?_of_mem hp
   rw [List.getElem?_zip_eq_some] at hi
   rw [List.getElem?_tail] at hi
   exact ⟨i, p.1, p.2, hi.1, hi.2, rfl⟩
 · rintro ⟨i, a, b, h1, h2, rfl⟩
   refine ⟨(a, b), List.mem_of_getElem? (i := i) ?_, rfl⟩
   rw [List.getElem?_zip_eq_some, List.getElem?_tail]
   exact ⟨h1, h2⟩
/-! what is known of the ends and of the keys -/
section
variable {h : Hs}
def Hs.Rg (h : Hs) : Prop := ∀ e, e ∈ h.events → -(2 ^ 63) ≤ e.txn ∧ e.txn < 2 ^ 63
theorem b6l {table : Int} {k : Vl} (hk : b2s h table k) : k.right = true := by
 obtain ⟨_, t, _, h1, _⟩ := hk; exact h1
theorem b7l {table : Int} {k : Vl} (hw : b1v h) (hk : b2s h table k) : 0 ≤ table ∧ table < 3 := by
 obtain ⟨h0, t, h1, _⟩ := hk
 have h2 := (List.getElem?_eq_some_iff.1 h1).1
 have h3 := hw.1.1.2
 omega
theorem b8l (hw : b1v h) {table : Int} {k : Vl} {i : Nat} {v : Vs} (hv : (chaB h.events h.order table k)[i]? = some v) (hi : 0 < i) :
   v.txn ∈ c3J h.events ∧ 1 ≤ v.txn ∧ ∃ e, e ∈ h.events ∧ e.txn = v.txn ∧ e.kind = 3 ∧ e.table = table ∧ e.key = k := by
 rw [b6x hw] at hv
 cases i with
 | zero => omega
 | succ i =>
   rw [List.getElem?_cons_succ, List.getElem?_map, Option.map_eq_some_iff] at hv
   obtain ⟨t, ht, rfl⟩ := hv
   have hm := List.mem_of_getElem? ht
   have h1 := (b7x hw).1 hm
   refine ⟨h1.1, b8x hw hm, ?_⟩
   obtain ⟨e, he, hk⟩ := b0e (es := h.events) (txn := t) (table := table) (k := k) (by omega)
   obtain ⟨k3, g1, g2, g3⟩ := b3h hk
   exact ⟨e, he, g1, k3, g2, g3⟩
end
end Go.Rt
end

section
namespace Go.Vm
@[simp] theorem inns_gh {ks : List Nat} {Z : GZ} {vs : List Value} {cs : List AV} : Ob.inns ks (.gh Z vs cs) = cs.all (AV.inn ks) := rfl
theorem a1J {s : St} {id g i m : Nat} {cs : List AV} (ho : look s.hp id = some (.box cs)) (hi : cs[i]? = some (.mpr m)) (hg : look s.hp g = none) (hgl : g < 1000) :
   LeX s fun s' => ∃ x : Value, s' = (s.add id (.box (cs.set i (.iv (.v x))))).add g (.gh ZT [x] [.mpr m]) := by
 rintro E n a w ⟨ψ, h⟩
 obtain ⟨b, c, e, q1, q2, q3, q4⟩ := h.obs id _ ho
 have hm := q4 i _ hi
 obtain ⟨mb, hx⟩ : ∃ mb, c.getD i undef = .map (some mb) := by
   generalize c.getD i undef = v at hm
   cases hm; exact ⟨_, rfl⟩
 have h1 := h.chg (o' := .box (cs.set i (.iv (.v (c.getD i undef))))) (k := (0, c.size)) ho (Ob.le_none rfl) rfl (by simp [Ob.multi]) q1 (fun _ _ => rfl) rfl ⟨rfl, rfl, rfl, Nat.le_refl _⟩ fun tr _ => ⟨b, c, e, q1, q2, by simpa using q3, fun k y hy => by
   rw [List.getElem?_set] at hy
   split at hy
   · rename_i e1
     subst e1
     split at hy
     · cases hy
       rw [hx]; exact c2D rfl
     · cases hy
   · exact tr _ _ (q4 k y hy)⟩
 have hgi : id ≠ g := fun e => by subst e; rw [ho] at hg; cases hg
 have hno : look (s.add id (.box (cs.set i (.iv (.v (c.getD i undef)))))).hp g = none := by rw [c4G, if_neg hgi]; exact hg
 have h2 := h1.new (o := .gh ZT [c.getD i undef] [.mpr m]) (p := none) (w' := w) hgl hno (Ext.refl w) (fun b k e => by cases e) ⟨by simp [upd], fun _ _ _ _ _ _ _ => trivial, rfl, fun j y hy => by
   cases j with
   | succ j => simp at hy
   | zero =>
     simp only [List.getElem?_cons_zero, Option.some.injEq] at hy
     subst hy
     simp only [List.getD_cons_zero]
     generalize hv : c.getD i undef = v at hm
     cases hm with
     | mpr _ b' k' o' ho' hb' =>
       have hgm : g ≠ m := fun e => by subst e; rw [hg] at ho'; cases ho'
       have : ∃ o2, look (s.add id (.box (cs.set i (.iv (.v (.map (some b'))))))).hp m = some o2 := by
         rw [c4G]; split
         · exact ⟨_, rfl⟩
         · exact ⟨_, ho'⟩
       obtain ⟨o2, ho2⟩ := this
       refine .mpr m b' k' o2 (by rw [c4G, if_neg hgm]; exact ho2) (by simp only [upd]; rw [if_neg (Ne.symm hgm)]; exact hb')⟩
 exact ⟨_, ⟨_, rfl⟩, _, h2⟩
theorem a2J {s : St} {t g i : Nat} {x : Value} {Z : GZ} {vs : List Value} {cs : List AV} {y : AV} (ht : s.get t = .iv (.v x)) (hg : look s.hp g = some (.gh Z vs cs)) (hv : vs[i]? = some x) (hc : cs[i]? = some y) : Le s (s.set t y) := by
 rintro E n a w ⟨ψ, hs⟩
 refine ⟨ψ, { hs with frame := fun u => ?_ }⟩
 rw [St.get_set]
 split
 · rename_i e; subst e
   have h1 := hs.frame t
   rw [ht] at h1
   have h2 := b2o h1
   have h3 := (hs.obs g _ hg).2.2.2 i _ hc
   rw [List.getD_eq_getElem?_getD, hv] at h3
   rw [h2]; exact h3
 · exact hs.frame u
theorem LeX.to {s : St} {F G : St → Prop} (h : LeX s F) (k : ∀ s', F s' → LeX s' G) : LeX s G := fun E n a w hs => by
 obtain ⟨s', h1, h2⟩ := h E n a w hs
 exact k s' h1 E n a w h2
end Go.Vm
end

section
namespace Go.Rt
open Go.Vm
abbrev skE : Sk := (true, [.i .i64, .i .i64, .i .i64, .i .i64, .b, .i .i64, .s, .b], false)
open Classical in
noncomputable def gE (S : Eg → Prop) : List Value → Option (List IV)
 | [.int .i64 f, .int .i64 t, .int .i64 k, .int .i64 tb, .bool x, .int .i64 n, .string s, .bool c] => if S ⟨f, t, k, tb, ⟨x, n, s⟩, c⟩ then some [ci 1] else none
 | _ => none
theorem a6v : gE (fun _ => False) = fun _ => none := by
 funext q; unfold gE; split
 · rw [if_neg]; exact fun h => h
 · rfl
theorem a7v (S : Eg → Prop) (e : Eg) : gset (gE S) [.int .i64 e.frm, .int .i64 e.to, .int .i64 e.kind, .int .i64 e.table, .bool e.key.text, .int .i64 e.key.n, .string e.key.s, .bool e.cursor] (some [ci 1]) = gE (fun x => S x ∨ x = e) := by
 funext q
 simp only [gset]
 split
 · rename_i h; subst h
   simp only [gE]
   rw [if_pos]
   exact .inr rfl
 · rename_i hne
   unfold gE
   split
   · rename_i f t k tb x n s c
     have hn : ¬((⟨f, t, k, tb, ⟨x, n, s⟩, c⟩ : Eg) = e) := by rintro rfl; exact hne rfl
     by_cases hp : S ⟨f, t, k, tb, ⟨x, n, s⟩, c⟩
     · rw [if_pos hp, if_pos (.inl hp)]
     · rw [if_neg hp, if_neg fun g => g.elim hp hn]
   · rfl
def grIV (h : Hs) (x : Value) : IV := .pt [.lst 1 (tbsC h.tables), .lst 22 (evsC h.events), .lst 5 (insC h.order), bkIV h.events h.order, .v x]
noncomputable abbrev grH (S : Eg → Prop) (x : Value) : Hp := [(1001, .map skE (gE S)), (1002, .gh ZT [x] [.mpr 1001])]
def addE (S : Eg → Prop) (e : Eg) (m : Eg) : Prop := S m ∨ (m = e ∧ e.frm ≠ e.to)
set_option maxHeartbeats 4000000 in
theorem a8v (h : Hs) (S : Eg → Prop) (x : Value) (e : Eg) : b9l prog false n_a0h [.iv (grIV h x), e.av] (grH S x) (.tup []) (grH (addE S e) x) := by
 refine a5F a0h_is (by simp) (by decide) (by simp) (by simp [Ob.isLent]) ?_
 by_cases hft : e.frm = e.to
 · have hS : addE S e = S := by funext m; exact propext ⟨fun g => g.elim id fun g => absurd hft g.2, .inl⟩
   rw [hS]
   simp -dsimp [a1g_put, Eg.av, Eg.cells, hft]
 · have hS : addE S e = fun m => S m ∨ m = e := by funext m; exact propext ⟨fun g => g.elim .inl fun g => .inr g.1, fun g => g.elim .inl fun g => .inr ⟨g, hft⟩⟩
   have hge := (a7v S e).symm
   rw [hS]
   simp -dsimp [a1g_put, Eg.av, Eg.cells, hft, grIV, hge, St.unr, b9O, b8O]
def addL (S : Eg → Prop) (f : Nat → List Eg) (i : Nat) (m : Eg) : Prop := S m ∨ (m.frm ≠ m.to ∧ ∃ j, j < i ∧ m ∈ f j)
def addK {κ : Type} (S : Eg → Prop) (F : κ → List Eg) (ks : List κ) (m : Eg) : Prop := S m ∨ (m.frm ≠ m.to ∧ ∃ k, k ∈ ks ∧ m ∈ F k)
theorem a9v (S : Eg → Prop) (f : Nat → List Eg) : addL S f 0 = S := by
 funext m; exact propext ⟨fun g => g.elim id fun ⟨_, j, hj, _⟩ => absurd hj (Nat.not_lt_zero _), .inl⟩
theorem a0w {S : Eg → Prop} {f : Nat → List Eg} {i : Nat} (h : f i = []) : addL S f (i + 1) = addL S f i := by
 funext m
 refine propext ⟨fun g => g.imp id fun ⟨h1, j, hj, hm⟩ => ⟨h1, j, ?_, hm⟩, fun g => g.imp id fun ⟨h1, j, hj, hm⟩ => ⟨h1, j, by omega, hm⟩⟩
 rcases Nat.lt_or_ge j i with g | g
 · exact g
 · have : j = i := by omega
   subst this; rw [h] at hm; cases hm
theorem a1w {S : Eg → Prop} {f : Nat → List Eg} {i : Nat} {e : Eg} (h : f i = [e]) : addL S f (i + 1) = addE (addL S f i) e := by
 funext m
 refine propext ⟨fun g => ?_, fun g => ?_⟩
 · rcases g with g | ⟨h1, j, hj, hm⟩
   · exact .inl (.inl g)
   · rcases Nat.lt_or_ge j i with g | g
     · exact .inl (.inr ⟨h1, j, g, hm⟩)
     · have : j = i := by omega
       subst this
       rw [h, List.mem_singleton] at hm
       subst hm; exact .inr ⟨rfl, h1⟩
 · rcases g with (g | ⟨h1, j, hj, hm⟩) | ⟨rfl, h1⟩
   · exact .inl g
   · exact .inr ⟨h1, j, by omega, hm⟩
   · exact .inr ⟨h1, i, by omega, by rw [h]; exact List.mem_singleton.2 rfl⟩
theorem a2w {κ : Type} (S : Eg → Prop) (F : κ → List Eg) : addK S F [] = S := by
 funext m; exact propext ⟨fun g => g.elim id fun ⟨_, k, hk, _⟩ => (by cases hk), .inl⟩
theorem a3w {κ : Type} (S : Eg → Prop) (F : κ → List Eg) (ks : List κ) (k : κ) (f : Nat → List Eg) (n : Nat) (hf : ∀ m, m ∈ F k ↔ ∃ j, j < n ∧ m ∈ f j) : addK S F (ks ++ [k]) = addL (addK S F ks) f n := by
 funext m
 refine propext ⟨fun g => ?_, fun g => ?_⟩
 · rcases g with g | ⟨h1, k', hk, hm⟩
   · exact .inl (.inl g)
   · rcases List.mem_append.1 hk with g | g
     · exact .inl (.inr ⟨h1, k', g, hm⟩)
     · rw [List.mem_singleton.1 g] at hm
       exact .inr ⟨h1, (hf m).1 hm⟩
 · rcases g with (g | ⟨h1, k', hk, hm⟩) | ⟨h1, hm⟩
   · exact .inl g
   · exact .inr ⟨h1, k', List.mem_append_left _ hk, hm⟩
   · exact .inr ⟨h1, k, by simp, (hf m).2 hm⟩
theorem a4w {κ : Type} (S : Eg → Prop) (F : κ → List Eg) (ks : List κ) (k : κ) (hf : F k = []) : addK S F (ks ++ [k]) = addK S F ks := by
 rw [a3w S F ks k (fun _ => []) 0 (fun m => by rw [hf]; simp), a9v]
end Go.Rt
end

section
namespace Go.Rt
open Go.Vm
def rowO (h : Hs) (o : Ins) : List AV := [o.key.av, .iv (.lst 2 (vsC (chaB h.events h.order o.table o.key)))]
def b2r (h : Hs) (l : List Ins) : List (List AV) := l.map (rowO h)
def ofT (table : Int) (o : Ins) : Bool := decide (o.table = table)
def PreC (h : Hs) (table : Int) (pre : List (List AV)) (x : List AV) : Prop := ∃ (i : Nat) (o : Ins), h.order[i]? = some o ∧ o.table = table ∧ pre = b2r h ((h.order.take i).filter (ofT table)) ∧ x = rowO h o
def AllC (h : Hs) (table : Int) (xs : List (List AV)) : Prop := xs = b2r h (h.order.filter (ofT table))
theorem b3r {table : Int} {l : List Ins} {i : Nat} {o : Ins} (ho : l[i]? = some o) : (l.take (i + 1)).filter (ofT table) = (l.take i).filter (ofT table) ++ if o.table = table then [o] else [] := by
 rw [show l.take (i + 1) = l.take i ++ [o] by rw [List.take_add_one, ho]; rfl, List.filter_append]
 congr 1
 unfold ofT
 by_cases h : o.table = table <;> simp [h]
set_option maxHeartbeats 4000000 in
theorem b4r {h : Hs} (hol : h.order.length < 2 ^ 62) (table : Int) (x : Value) (hc : ∀ k, (chaB h.events h.order table k).length < 2 ^ 42) :
   b1g prog n_a3h [.pt [grIV h x], .pt [ci table]] (PreC h table) (AllC h table) := by
 intro l Zs Zx cont hy
 refine b0u a3h_is (by simp) (by decide) ?_
 simp -dsimp [a3h, grIV]
 refine a2E [] [5] h.order.length (fun i => ⟨[(12, vi i), (11, vi h.order.length), (10, .iv (.lst 5 (insC h.order))), (0, .iv (.v (.func (.yield l) #[] #[]))), (1, .iv (.pt [grIV h x])), (2, .iv (.pt [ci table]))],
   [(1000, .gh (Zs (b2r h ((h.order.take i).filter (ofT table)))) [] [])]⟩) (fun _ => True) ?_ trivial ?_
 · simp -dsimp [grIV, b2r]
 · intro i hi _
   simp -dsimp [a3h_l5]
   refine ⟨fun hlt => ?_, fun hge => ?_⟩
   · obtain ⟨o, ho⟩ := c7z hlt
     have hw := c8z (n := (i : Int) + 1) (by omega)
     have hst := b3r (table := table) ho
     by_cases ht : o.table = table
     · simp -dsimp [ho, Ins.cells_eq o, ht, grIV]
       rw [if_pos ht] at hst
       have hp : PreC h table (b2r h ((h.order.take i).filter (ofT table))) (rowO h o) := ⟨i, o, ho, ht, rfl, rfl⟩
       have hrow : b2r h ((h.order.take i).filter (ofT table)) ++ [rowO h o] = b2r h ((h.order.take (i + 1)).filter (ofT table)) := by
         rw [hst]; simp [b2r]
       have hro : rowO h o = [o.key.av, .iv (.lst 2 (vsC (chaB h.events h.order table o.key)))] := by unfold rowO; rw [ht]
       constructor
       all_goals refine c4N (b8I h.events h.order table o.key (hc o.key)) rfl (by simp) (by simp) (by simp) (by simp) ?_
       all_goals simp -dsimp
       all_goals refine b1u (g := 1000) (hy _ _ hp) (by simp) (by rw [hro]; simp) (by rw [hro]; rfl) ?_
       all_goals (
         cases hcn : cont (b2r h ((h.order.take i).filter (ofT table))) (rowO h o) with
         | true =>
           simp -dsimp [hcn, hrow, hw]
           exact ⟨hlt, rfl⟩
         | false =>
           simp -dsimp [hcn]
           exact ⟨Zx (b2r h ((h.order.take i).filter (ofT table))) (rowO h o), by simp, fun A B w hz => .inr ⟨_, _, hz⟩, by simp⟩)
     · rw [if_neg ht, List.append_nil] at hst
       simp -dsimp [ho, Ins.cells_eq o, ht, hw, grIV, hst]
       exact hlt
   · have : (h.order.take i) = h.order := List.take_of_length_le (by omega)
     rw [this]
     exact ⟨Zs (b2r h (h.order.filter (ofT table))), by simp, fun A B w hz => .inl ⟨_, rfl, hz⟩, by simp⟩
theorem b5r (h : Hs) (table : Int) (x : Value) : b0m prog false n_a9g [.iv (grIV h x), vi table] [] (fun r K => r = .fn n_a3h [] [.ptr 2 0, .ptr 3 0] ∧ K = [(3, .box [vi table]), (2, .box [.iv (grIV h x)])]) := by
 refine b3u _ a9g_is (by simp) (by decide) (fun x H' h => by
   obtain ⟨rfl, rfl⟩ := h
   refine ⟨fun id o ho => ?_, by simp⟩
   simp only [Vm.look] at ho
   split at ho
   · cases ho; rfl
   · split at ho
     · cases ho; rfl
     · cases ho) ?_
 simp -dsimp [a1g_chains]
 exact ⟨[], _, _, ⟨rfl, rfl⟩, by simp -dsimp⟩
theorem b6r (h : Hs) (table : Int) (x : Value) : b9l prog false n_a9g [.iv (grIV h x), vi table] [] (.fn n_a3h [] [.ptr 902 0, .ptr 903 0]) [(903, .box [vi table]), (902, .box [.iv (grIV h x)])] :=
 ((b5r h table x).one (fun _ _ e => e) (fun id o ho => by
   simp only [Vm.look] at ho
   split at ho
   · cases ho; rfl
   · split at ho
     · cases ho; rfl
     · cases ho)).ren (Ren.swaps [(2, 902), (3, 903)]) rfl
theorem b7r : okFn prog n_a3h = true := by kernel_rfl
end Go.Rt
end

section
namespace Go.Rt
open Go.Vm
def keyOfA : List AV → Vl
 | [.agg [.iv (.v (.bool t)), .iv (.v (.int _ n)), .iv (.v (.string s))], _] => ⟨t, n, s⟩
 | _ => Vl.zero
def b7z (p : List (List AV)) : List Vl := p.map keyOfA
theorem b8z (h : Hs) (l : List Ins) : b7z (b2r h l) = l.map Ins.key := by
 unfold b7z b2r
 rw [List.map_map]
 rfl
def wwAt (h : Hs) (table : Int) (k : Vl) (i : Nat) : List Eg := if 2 ≤ i then [⟨(((chaB h.events h.order table k)[i - 1]?).getD ⟨0, 0⟩).txn, (((chaB h.events h.order table k)[i]?).getD ⟨0, 0⟩).txn, 1, table, k, false⟩] else []
def wwK (h : Hs) (table : Int) (k : Vl) : List Eg := (List.range (chaB h.events h.order table k).length).flatMap (wwAt h table k)
theorem mem_range {n : Nat} {f : Nat → List Eg} {m : Eg} : m ∈ (List.range n).flatMap f ↔ ∃ j, j < n ∧ m ∈ f j := by
 rw [List.mem_flatMap]
 simp
set_option maxHeartbeats 8000000 in
theorem b9z {h : Hs} (hol : h.order.length < 2 ^ 62) (table : Int) (x : Value) (hc : ∀ k, (chaB h.events h.order table k).length < 2 ^ 42) (S : Eg → Prop) :
   b9l prog false n_a0g [.iv (grIV h x), vi table] (grH S x) (.tup []) (grH (addK S (wwK h table) ((h.order.filter (ofT table)).map Ins.key)) x) := by
 refine a5F a0g_is (by simp) (by decide) (by simp) (by simp [Ob.isLent]) ?_
 simp -dsimp [a1g_writes]
 refine c4N (b6r h table x) rfl (by simp) (by simp) (by simp) (by simp) ?_
 simp -dsimp
 refine b2u [902, 903] [4] 990 [(9, .fn n_a3h [] [.val (.pt [grIV h x]), .val (.pt [ci table])]), (3, .ptr 3 0), (2, .ptr 2 0)] (fun p => ∃ i, p = b2r h ((h.order.take i).filter (ofT table)))
   (fun p => (3, .box [vi table]) :: (2, .box [.iv (grIV h x)]) :: grH (addK S (wwK h table) (b7z p)) x) (b4r hol table x hc) ?_ (by simp) b7r (by decide) (by simp) (by simp) ?_ ⟨0, rfl⟩ ?_ ?_
 · simp -dsimp [b7z, a2w]
 · rintro pre _ ⟨i, o, _, _, _, rfl⟩
   rfl
 · rintro vs _ _ ⟨j, rfl⟩ ⟨i, o, ho, ht, hpre, rfl⟩
   have hst := b3r (table := table) ho
   rw [if_pos ht] at hst
   rw [hpre]
   have hrow : b2r h ((h.order.take i).filter (ofT table)) ++ [rowO h o] = b2r h ((h.order.take (i + 1)).filter (ofT table)) := by
     rw [hst]; simp [b2r]
   refine ⟨⟨i + 1, hrow⟩, ?_⟩
   have hks : b7z (b2r h ((h.order.take i).filter (ofT table)) ++ [rowO h o]) = b7z (b2r h ((h.order.take i).filter (ofT table))) ++ [o.key] := by
     unfold b7z; rw [List.map_append]; rfl
   have hro : rowO h o = [o.key.av, .iv (.lst 2 (vsC (chaB h.events h.order table o.key)))] := by unfold rowO; rw [ht]
   have hlen := hc o.key
   have hnext := a3w S (wwK h table) (b7z (b2r h ((h.order.take i).filter (ofT table)))) o.key (wwAt h table o.key) (chaB h.events h.order table o.key).length (fun m => mem_range)
   have hf : ∀ q, wwAt h table o.key q = if 2 ≤ q then [⟨(((chaB h.events h.order table o.key)[q - 1]?).getD ⟨0, 0⟩).txn, (((chaB h.events h.order table o.key)[q]?).getD ⟨0, 0⟩).txn, 1, table, o.key, false⟩] else [] := fun q => rfl
   rw [hks, hnext, hro]
   generalize addK S (wwK h table) (b7z (b2r h ((h.order.take i).filter (ofT table)))) = S0
   generalize wwAt h table o.key = f at hf ⊢
   generalize chaB h.events h.order table o.key = c at hf hlen ⊢
   simp -dsimp [a0g_a9, a0g_b10, parS, St.set_mk, frCs]
   have f0 : f 0 = [] := by rw [hf, if_neg (by omega)]
   have f1 : f 1 = [] := by rw [hf, if_neg (by omega)]
   refine a2E [] [] (c.length - 2) (fun q => ⟨[(6, vi ((q + 2 : Nat) : Int)), (5, .iv (.lst 2 (vsC c))), (4, .ptr 4 0), (3, .ptr 3 0), (2, .ptr 2 0)],
     [(4, .box (o.key.cells.map .iv)), (990, .gh ZT vs [.fn n_a3h [] [.val (.pt [grIV h x]), .val (.pt [ci table])], .ptr 3 0, .ptr 2 0]), (3, .box [vi table]), (2, .box [.iv (grIV h x)])] ++ grH (addL S0 f (q + 2)) x⟩) (fun _ => True) ?_ trivial ?_
   · have : addL S0 f (0 + 2) = S0 := by rw [a0w f1, a0w f0, a9v]
     simp -dsimp [this]
   · intro q hq _
     simp -dsimp [a0g_l8]
     refine ⟨fun hlt => ?_, fun hge => ?_⟩
     · obtain ⟨v, hv⟩ : ∃ v, c[q + 2]? = some v := c7z (by omega)
       obtain ⟨u, hu⟩ : ∃ u, c[q + 1]? = some u := c7z (by omega)
       have w1 : IntKind.i64.wrap ((q : Int) + 2 - 1) = ((q + 1 : Nat) : Int) := by rw [c8z (by omega)]; omega
       have w2 : IntKind.i64.wrap ((q : Int) + 2 + 1) = (q : Int) + 1 + 2 := by rw [c8z (by omega)]; omega
       have t1 : ((q : Int) + 2).toNat = q + 2 := by omega
       have p1 : (0 : Int) ≤ (q : Int) + 2 := by omega
       have hfq : f (q + 2) = [⟨u.txn, v.txn, 1, table, o.key, false⟩] := by
         rw [hf, if_pos (by omega), show q + 2 - 1 = q + 1 from rfl, hu, hv]; rfl
       have hadd := a1w (S := S0) hfq
       simp -dsimp [w1, t1, p1, hv, hu, b0Q]
       refine ⟨by omega, ?_⟩
       refine a8G (a8v h (addL S0 f (q + 2)) x ⟨u.txn, v.txn, 1, table, o.key, false⟩) rfl (by simp) (by simp [Eg.av, Eg.cells]) (by simp [Eg.av, Eg.cells]) (by simp) (by simp) (by simp) (by simp) ?_
       rw [← hadd]
       simp -dsimp [w2]
       omega
     · have hend : addL S0 f (q + 2) = addL S0 f c.length := by
         rcases Nat.lt_or_ge c.length 2 with g | g
         · have hq0 : q = 0 := by omega
           have h2 : addL S0 f (0 + 2) = S0 := by rw [a0w f1, a0w f0, a9v]
           rw [hq0, h2]
           have : c.length = 0 ∨ c.length = 1 := by omega
           rcases this with e | e <;> rw [e]
           · rw [a9v]
           · rw [a0w f0, a9v]
         · rw [show q + 2 = c.length by omega]
       rw [hend]
 · rintro vs _ _ hS
   rw [hS, b8z]
   simp -dsimp [frCs]
end Go.Rt
end

section
namespace Go.Rt
open Go.Vm
theorem b2v (es : List Ev) (os : List Ins) (table : Int) (k : Vl) (v : Vs) : plaB es os table k v < (chaB es os table k).length ∧ -1 ≤ plaB es os table k v := by
 unfold plaB
 split
 · have := c4c es os table k; omega
 · rcases b3A (fun x : Vs => decide (x.txn = v.txn)) (chaB es os table k) with ⟨i, x, g1, _, g3, _⟩ | ⟨_, g⟩
   · have := (List.getElem?_eq_some_iff.1 g1).1
     rw [g3]; omega
   · rw [g]; omega
def rdT (e : Ev) (p : Int) (c : List Vs) (S : Eg → Prop) (m : Eg) : Prop := S m ∨ (m.frm ≠ m.to ∧ m ∈ rd1 e p ++ rd2 e p c)
def rdU (e : Ev) (p : Int) (c : List Vs) (S : Eg → Prop) (m : Eg) : Prop := S m ∨ (m.frm ≠ m.to ∧ m ∈ rd2 e p c)
set_option maxHeartbeats 8000000 in
theorem b3v {h : Hs} (x : Value) (e : Ev) (hrow : b9C h.events) (hc : (chaB h.events h.order e.table e.key).length < 2 ^ 42) (S : Eg → Prop) :
   b9l prog false n_a2g [.iv (grIV h x), e.av] (grH S x) (.tup []) (grH (addK S (fun _ : Unit => b6k h e) [()]) x) := by
 have hP := b2J h.events h.order e.table e.key e.frm hrow hc
 have hC := b8I h.events h.order e.table e.key hc
 have hlt := b2v h.events h.order e.table e.key e.frm
 have hS : addK S (fun _ : Unit => b6k h e) [()] = rdT e (plaB h.events h.order e.table e.key e.frm) (chaB h.events h.order e.table e.key) S := by
   funext m; unfold addK b6k rdT; simp
 rw [hS]
 generalize plaB h.events h.order e.table e.key e.frm = p at *
 generalize chaB h.events h.order e.table e.key = c at *
 refine a5F a2g_is (by simp) (by decide) (by simp) (by simp [Ob.isLent]) ?_
 simp -dsimp [a1g_read, grIV, Ev.av, Ev.cells_eq e]
 refine a5C hP (by simp) (by simp) ?_
 simp -dsimp
 refine c4N hC rfl (by simp) (by simp) (by simp) (by simp) ?_
 simp -dsimp
 have hT1 : 0 < p → rdT e p c S = rdU e p c (addE S ⟨e.frm.txn, e.txn, 2, e.table, e.key, e.cur⟩) := by
   intro h1
   funext m
   unfold rdT rdU rd1 addE
   rw [if_pos h1]
   simp only [List.cons_append, List.nil_append, List.mem_cons, or_assoc, eq_iff_iff]
   constructor
   · rintro (g | ⟨g1, rfl | g2⟩)
     · exact .inl g
     · exact .inr (.inl ⟨rfl, g1⟩)
     · exact .inr (.inr ⟨g1, g2⟩)
   · rintro (g | ⟨rfl, g1⟩ | ⟨g1, g2⟩)
     · exact .inl g
     · exact .inr ⟨g1, .inl rfl⟩
     · exact .inr ⟨g1, .inr g2⟩
 have hT0 : ¬0 < p → rdT e p c S = rdU e p c S := by
   intro h1
   funext m
   unfold rdT rdU rd1
   rw [if_neg h1, List.nil_append]
 have hU1 : ∀ (S : Eg → Prop) (v : Vs), 0 ≤ p → c[(p + 1).toNat]? = some v → p + 1 < c.length → e.frm.txn ≠ e.txn → rdU e p c S = addE S ⟨e.txn, v.txn, 4, e.table, e.key, e.cur⟩ := by
   intro S v g1 g2 g3 g4
   funext m
   unfold rdU rd2 addE
   rw [if_pos ⟨g1, g3, g4⟩, g2, List.mem_singleton, eq_iff_iff]
   constructor
   · rintro (g | ⟨g1, rfl⟩)
     · exact .inl g
     · exact .inr ⟨rfl, g1⟩
   · rintro (g | ⟨rfl, g1⟩)
     · exact .inl g
     · exact .inr ⟨g1, rfl⟩
 have hU0 : ∀ (S : Eg → Prop), ¬(0 ≤ p ∧ p + 1 < c.length ∧ e.frm.txn ≠ e.txn) → rdU e p c S = S := by
   intro S g
   funext m
   unfold rdU rd2
   rw [if_neg g]; simp
 have hw : IntKind.i64.wrap (p + 1) = p + 1 := c8z (by omega)
 by_cases h1 : 0 < p
 · rw [hT1 h1]
   have h1' : ¬p ≤ 0 := by omega
   simp -dsimp [h1, h1']
   refine a8G (a8v h S x ⟨e.frm.txn, e.txn, 2, e.table, e.key, e.cur⟩) rfl (by simp) (by simp [Eg.av, Eg.cells, grIV]) (by simp [Eg.av, Eg.cells]) (by simp) (by simp) (by simp) (by simp) ?_
   generalize addE S ⟨e.frm.txn, e.txn, 2, e.table, e.key, e.cur⟩ = S1
   have h0 : 0 ≤ p := by omega
   by_cases h2 : p + 1 < c.length
   · by_cases h3 : e.frm.txn = e.txn
     · rw [hU0 S1 fun g => g.2.2 h3]
       simp -dsimp [h0, hw, h2, h3]
     · obtain ⟨v, hv⟩ : ∃ v, c[(p + 1).toNat]? = some v := c7z (by omega)
       rw [hU1 S1 v h0 hv h2 h3]
       have h4 : 0 ≤ p + 1 := by omega
       have hv' : ∀ hh, (vsC c)[(p + 1).toNat]'hh = v.cells := fun hh => (List.getElem?_eq_some_iff.1 (show (vsC c)[(p + 1).toNat]? = some v.cells by rw [c9H, hv]; rfl)).2
       simp -dsimp [h0, hw, h2, h3, hv', h4, b0Q]
       refine a8G (a8v h S1 x ⟨e.txn, v.txn, 4, e.table, e.key, e.cur⟩) rfl (by simp) (by simp [Eg.av, Eg.cells, grIV]) (by simp [Eg.av, Eg.cells]) (by simp) (by simp) (by simp) (by simp) ?_
       simp -dsimp
   · rw [hU0 S1 fun g => h2 g.2.1]
     simp -dsimp [h0, hw, h2]
 · rw [hT0 h1]
   have h1' : p ≤ 0 := by omega
   simp -dsimp [h1, h1']
   by_cases h0 : 0 ≤ p
   · obtain rfl : p = 0 := by omega
     have hw1 : IntKind.i64.wrap 1 = 1 := c8z (by omega)
     by_cases h2 : 1 < c.length
     · have h2' : (1 : Int) < c.length := by omega
       have h2n : ¬(c.length : Int) ≤ 1 := by omega
       by_cases h3 : e.frm.txn = e.txn
       · rw [hU0 S fun g => g.2.2 h3]
         simp -dsimp [hw1, h2, h2', h2n, h3]
       · obtain ⟨v, hv⟩ : ∃ v, c[1]? = some v := c7z h2
         rw [hU1 S v (by omega) (by simpa using hv) (by omega) h3]
         have hv' : ∀ hh, c[1]'hh = v := fun hh => (List.getElem?_eq_some_iff.1 hv).2
         simp -dsimp [hw1, h2, h2', h2n, h3, hv', b0Q]
         refine a8G (a8v h S x ⟨e.txn, v.txn, 4, e.table, e.key, e.cur⟩) rfl (by simp) (by simp [Eg.av, Eg.cells, grIV]) (by simp [Eg.av, Eg.cells]) (by simp) (by simp) (by simp) (by simp) ?_
         simp -dsimp
     · have h2' : ¬(1 : Int) < c.length := by omega
       rw [hU0 S fun g => h2' (by simpa using g.2.1)]
       simp -dsimp [hw1, h2, h2']
   · rw [hU0 S fun g => h0 g.1]
     simp -dsimp [h0]
end Go.Rt
end
