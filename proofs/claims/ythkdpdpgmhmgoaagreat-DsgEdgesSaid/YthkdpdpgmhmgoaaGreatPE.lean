/- Contracts of functions of the program, and what they lean on. Conditions: those of each theorem. -/
import Derived.Test.YthkdpdpgmhmgoaaGreatPD
import Derived.Test.YthkdpdpgmhmgoaaGreatPC

set_option linter.unusedVariables false
set_option linter.unusedSimpArgs false

section
namespace Go.Vm
section
variable {P : Program} {d id off : Nat} {s : St} {K : St → AV → Prop} {x y m k : Operand} {sk : Sk} {z : List AV} {ok : Bool}
abbrev Mo := Nat × Sk × Nat × (List Value → Option (List (List IV))) × Option (List Value)
def onZ (z : List AV) (K : Nat → Prop) [Tg K] : Prop := match z with | [.nil sz] => K sz | _ => False
@[simp] theorem c1C {sz : Nat} {K : Nat → Prop} : onZ [.nil sz] K ↔ K sz := ⟨fun h => h, fun h => h⟩
theorem c2C {z : List AV} {K : Nat → Prop} : onZ z K ↔ ∃ sz, z = [.nil sz] ∧ K sz := by
 unfold onZ; split <;> simp_all
def lkpK (d : Nat) (s : St) (sk : Sk) (z : List AV) (m k : Operand) (ok : Bool) (K : St → AV → Prop) [Tg K] : Option Mo → Prop
 | none => onS (s.mapOf (s.ev m)) fun p => onS (b7X (s.ev k)) fun q => p.1 = sk ∧ q.1 = (sk.1, sk.2.1) ∧ K s (lkR z sk.2.2 ok (p.2 q.2))
 | some (id, sk1, sz, g, hole) => onS (b7X ((s.drop d).ev k)) fun q => onZ z fun sz' => ok = false ∧ sk1 = sk ∧ q.1 = (sk.1, sk.2.1) ∧ sz' = sz ∧ hole = none ∧
     (g q.2 = none → K (s.drop d) (.nil sz)) ∧ ∀ xs, g q.2 = some xs → K (((s.drop d).add id (.mapo sk sz (gset g q.2 none) (some q.2))).add d (.lent id sz xs)) (.sl d sz 0 xs.length)
@[simp] theorem c3C : lkpK d s sk z m k ok K none ↔ onS (s.mapOf (s.ev m)) fun p => onS (b7X (s.ev k)) fun q => p.1 = sk ∧ q.1 = (sk.1, sk.2.1) ∧ K s (lkR z sk.2.2 ok (p.2 q.2)) := ⟨fun h => h, fun h => h⟩
@[simp] theorem c4C {sk1 sz g hole} : lkpK d s sk z m k ok K (some (id, sk1, sz, g, hole)) ↔ onS (b7X ((s.drop d).ev k)) fun q => onZ z fun sz' => ok = false ∧ sk1 = sk ∧ q.1 = (sk.1, sk.2.1) ∧ sz' = sz ∧ hole = none ∧
     (g q.2 = none → K (s.drop d) (.nil sz)) ∧ ∀ xs, g q.2 = some xs → K (((s.drop d).add id (.mapo sk sz (gset g q.2 none) (some q.2))).add d (.lent id sz xs)) (.sl d sz 0 xs.length) := ⟨fun h => h, fun h => h⟩
@[simp] theorem c5C : stp P d s K (.lkp sk z m k ok) ↔ lkpK d s sk z m k ok K ((s.drop d).moOf ((s.drop d).ev m)) := by
 simp only [stp]
 split
 · rename_i id sk1 sz g hole e
   rw [e]
   simp only [c4C]
   split
   · rename_i sk2 kk sz' e2
     rw [e2]
     simp only [a9Q, c1C]
     cases hg : g kk <;> simp
   · rename_i hn
     refine ⟨fun h => h.elim, fun h => ?_⟩
     obtain ⟨q, e2, h⟩ := a5S.1 h
     obtain ⟨sz', e3, h⟩ := c2C.1 h
     exact hn _ _ _ e2 e3
 · rename_i e
   rw [e]
   simp only [c3C]
   split
   · rename_i e1 e2; rw [e1, e2]; exact ⟨fun h => h, fun h => h⟩
   · rename_i hn
     refine ⟨fun h => h.elim, fun h => ?_⟩
     obtain ⟨q, e2, h⟩ := a5S.1 h
     obtain ⟨p, e3, h⟩ := a5S.1 h
     exact hn _ _ _ _ e2 e3
def onSl (x : AV) (K : Nat → Nat → Nat → Prop) [Tg K] : Prop := match x with | .sl id sz 0 len => K id sz len | _ => False
@[simp] theorem c6C {sz len : Nat} {K : Nat → Nat → Nat → Prop} : onSl (.sl id sz 0 len) K ↔ K id sz len := ⟨fun h => h, fun h => h⟩
theorem c7C {x : AV} {K : Nat → Nat → Nat → Prop} : onSl x K ↔ ∃ id sz len, x = .sl id sz 0 len ∧ K id sz len := by
 unfold onSl
 split
 · exact ⟨fun h => ⟨_, _, _, rfl, h⟩, fun ⟨_, _, _, e, h⟩ => by cases e; exact h⟩
 · rename_i hn; exact ⟨fun h => h.elim, fun ⟨_, _, _, e, h⟩ => (hn _ _ _ e).elim⟩
def msetK (s : St) (sk : Sk) (m k x : Operand) (K : St → AV → Prop) [Tg K] : Option Mo → Prop
 | none => a2Q ((s.frz [s.ev x]).unr ((s.frz [s.ev x]).ev m)) fun id => onS (b7X ((s.frz [s.ev x]).ev k)) fun q => onS (((s.frz [s.ev x]).ev x).cellsOf.bind fun cs => allO AV.iv? cs) fun c => a9P (look (s.frz [s.ev x]).hp id) fun sk1 g =>
     sk1 = sk ∧ q.1 = (sk.1, sk.2.1) ∧ b8X ((s.frz [s.ev x]).ev x) = sk.2.2 ∧ K ((s.frz [s.ev x]).add id (.map sk (gset g q.2 (some c)))) .un
 | some (id, sk1, sz, g, hole) => onS (b7X (s.ev k)) fun q => onSl (s.ev x) fun d' sz' len => onS (look s.hp d') fun o => onS o.els fun xs =>
     sk1 = sk ∧ q.1 = (sk.1, sk.2.1) ∧ sz' = sz ∧ d' < 1000 ∧ d' ≠ id ∧ len = xs.2.length ∧ (o.org? = none ∨ o.org? = some id) ∧
           (hole = some q.2 ∨ (hole = none ∧ g q.2 = none)) ∧ K ((s.kill d').add id (.mapo sk sz (gset g q.2 (some xs.2)) none)) .un
@[simp] theorem c8C : msetK s sk m k x K none ↔ a2Q ((s.frz [s.ev x]).unr ((s.frz [s.ev x]).ev m)) fun id => onS (b7X ((s.frz [s.ev x]).ev k)) fun q => onS (((s.frz [s.ev x]).ev x).cellsOf.bind fun cs => allO AV.iv? cs) fun c => a9P (look (s.frz [s.ev x]).hp id) fun sk1 g =>
     sk1 = sk ∧ q.1 = (sk.1, sk.2.1) ∧ b8X ((s.frz [s.ev x]).ev x) = sk.2.2 ∧ K ((s.frz [s.ev x]).add id (.map sk (gset g q.2 (some c)))) .un := ⟨fun h => h, fun h => h⟩
@[simp] theorem c9C {sk1 sz g hole} : msetK s sk m k x K (some (id, sk1, sz, g, hole)) ↔ onS (b7X (s.ev k)) fun q => onSl (s.ev x) fun d' sz' len => onS (look s.hp d') fun o => onS o.els fun xs =>
     sk1 = sk ∧ q.1 = (sk.1, sk.2.1) ∧ sz' = sz ∧ d' < 1000 ∧ d' ≠ id ∧ len = xs.2.length ∧ (o.org? = none ∨ o.org? = some id) ∧
           (hole = some q.2 ∨ (hole = none ∧ g q.2 = none)) ∧ K ((s.kill d').add id (.mapo sk sz (gset g q.2 (some xs.2)) none)) .un := ⟨fun h => h, fun h => h⟩
@[simp] theorem c0D : stp P d s K (.mset sk m k x) ↔ msetK s sk m k x K (s.moOf (s.ev m)) := by
 simp only [stp]
 split
 · rename_i id sk1 sz g hole e
   rw [e]
   simp only [c9C]
   split
   · rename_i sk2 kk d' sz' len e1 e2
     rw [e1, e2]
     simp only [a9Q, c6C]
     cases look s.hp d' with
     | none => simp
     | some o =>
       simp only [a9Q]
       cases o.els with
       | none => simp
       | some p => obtain ⟨_, xs⟩ := p; simp
   · rename_i hn
     refine ⟨fun h => h.elim, fun h => ?_⟩
     obtain ⟨q, e2, h⟩ := a5S.1 h
     obtain ⟨_, _, _, e3, h⟩ := c7C.1 h
     exact hn _ _ _ _ _ e2 e3
 · rename_i e
   rw [e]
   simp only [c8C, a4Z]
   split
   · rename_i id sk2 kk c e1 e2 e3
     rw [e1, e2, e3]
     simp only [a7R, a9Q]
     split
     · rename_i sk1 g e4; rw [e4]; simp
     · rename_i hn
       refine ⟨fun h => h.elim, fun h => ?_⟩
       obtain ⟨_, _, e4, h⟩ := a1T.1 h
       exact hn _ _ e4
   · rename_i hn
     refine ⟨fun h => h.elim, fun h => ?_⟩
     obtain ⟨id, e1, h⟩ := a3S.1 h
     obtain ⟨q, e2, h⟩ := a5S.1 h
     obtain ⟨c, e3, h⟩ := a5S.1 h
     exact hn _ _ _ _ e1 e2 e3
end
section
variable {id sz lo len i off : Nat} {x : IV} {cs : List AV} {f : FuncId} {a b : List CapV} {s : St}
@[simp] theorem c1D : AV.cellsOf (.agg cs) = some cs := rfl
@[simp] theorem c2D : AV.cellsOf (.iv x) = some [.iv x] := rfl
@[simp] theorem c3D : AV.cellsOf (.nil sz) = some [.nil sz] := rfl
@[simp] theorem c4D : AV.cellsOf (.sl id sz lo len) = some [.sl id sz lo len] := rfl
@[simp] theorem c5D : AV.cellsOf (.ptr id off) = some [.ptr id off] := rfl
@[simp] theorem c6D : AV.cellsOf (.ep id sz i off) = some [.ep id sz i off] := rfl
@[simp] theorem c7D : AV.cellsOf (.mpr id) = some [.mpr id] := rfl
@[simp] theorem c8D : AV.cellsOf (.fn f a b) = some [.fn f a b] := rfl
@[simp] theorem c9D : AV.one (.iv x) = true := rfl
@[simp] theorem one_nil : AV.one (.nil sz) = true := rfl
@[simp] theorem one_sl : AV.one (.sl id sz lo len) = true := rfl
@[simp] theorem one_ptr : AV.one (.ptr id off) = true := rfl
@[simp] theorem one_ep : AV.one (.ep id sz i off) = true := rfl
@[simp] theorem one_mpr : AV.one (.mpr id) = true := rfl
@[simp] theorem one_fn : AV.one (.fn f a b) = true := rfl
@[simp] theorem ivq_iv : AV.iv? (.iv x) = some x := rfl
@[simp] theorem ivq_nil : AV.iv? (.nil sz) = some (.lst sz []) := rfl
@[simp] theorem ivc_iv : AV.ivc (.iv x) = some x := rfl
@[simp] theorem ivc_nil : AV.ivc (.nil sz) = some (.lst sz []) := rfl
@[simp] theorem ivc_sl : AV.ivc (.sl id sz lo len) = none := rfl
@[simp] theorem ivc_ptr : AV.ivc (.ptr id off) = none := rfl
@[simp] theorem ivc_mpr : AV.ivc (.mpr id) = none := rfl
@[simp] theorem ivc_fn : AV.ivc (.fn f a b) = none := rfl
@[simp] theorem c0E : b6N [] = some [] := rfl
@[simp] theorem ivAll_iv : b6N (.iv x :: cs) = (b6N cs).map fun l => x :: l := rfl
@[simp] theorem ivAll_ni : b6N (.nil sz :: cs) = (b6N cs).map fun l => .lst sz [] :: l := rfl
@[simp] theorem ivAll_sl : b6N (.sl id sz lo len :: cs) = none := rfl
@[simp] theorem c1E : b6N (.mpr id :: cs) = none := rfl
@[simp] theorem c2E : b6N (.ptr id off :: cs) = none := rfl
@[simp] theorem ivAll_fn : b6N (.fn f a b :: cs) = none := rfl
@[simp] theorem c3E {l : List IV} : b6N (l.map .iv) = some l := by
 induction l with
 | nil => rfl
 | cons x l ih => simp [ih]
@[simp] theorem allO_nil {α β : Type} {g : α → Option β} : allO g [] = some [] := rfl
@[simp] theorem allO_ivs {l : List IV} : allO AV.iv? (l.map .iv) = some l := by
 induction l with
 | nil => rfl
 | cons x l ih => simp [allO, ih]
@[simp] theorem allO_iv : allO AV.iv? (.iv x :: cs) = (allO AV.iv? cs).map fun l => x :: l := rfl
@[simp] theorem allO_niv : allO AV.iv? (.nil sz :: cs) = (allO AV.iv? cs).map fun l => .lst sz [] :: l := rfl
@[simp] theorem c4E : allO AV.cap (.ptr id off :: cs) = (allO AV.cap cs).map fun l => .ptr id off :: l := rfl
@[simp] theorem c5E : allO AV.cap (.iv x :: cs) = (allO AV.cap cs).map fun l => .val x :: l := rfl
@[simp] theorem c6E : allO AV.cap (.nil sz :: cs) = (allO AV.cap cs).map fun l => .val (.lst sz []) :: l := rfl
@[simp] theorem c7E : CapV.av (.ptr id off) = .ptr id off := rfl
@[simp] theorem c8E : CapV.av (.val x) = .iv x := rfl
@[simp] theorem c9E : b8X (.agg cs) = true := rfl
@[simp] theorem isAgg_iv : b8X (.iv x) = false := rfl
@[simp] theorem c0F : b8X (.nil sz) = false := rfl
@[simp] theorem pack_t : b9X true cs = .agg cs := rfl
@[simp] theorem pack_f {y : AV} : b9X false [y] = y := rfl
@[simp] theorem lkR_s {z : List AV} {ag ok : Bool} {c : List IV} : lkR z ag ok (some c) = if ok then .tup [b9X ag (c.map .iv), .iv (.v (.bool true))] else b9X ag (c.map .iv) := rfl
@[simp] theorem lkR_n {z : List AV} {ag ok : Bool} : lkR z ag ok none = if ok then .tup [b9X ag z, .iv (.v (.bool false))] else b9X ag z := rfl
@[simp] theorem kd_b {b : Bool} : kdOf (.bool b) = some .b := rfl
@[simp] theorem kd_i {k : IntKind} {n : Int} : kdOf (.int k n) = some (.i k) := rfl
@[simp] theorem kd_s {t : ByteArray} : kdOf (.string t) = some .s := rfl
@[simp] theorem keyAV_b {b : Bool} : b7X (.iv (.v (.bool b))) = some ((false, [.b]), [.bool b]) := rfl
@[simp] theorem keyAV_i {k : IntKind} {n : Int} : b7X (.iv (.v (.int k n))) = some ((false, [.i k]), [.int k n]) := rfl
@[simp] theorem keyAV_s {t : ByteArray} : b7X (.iv (.v (.string t))) = some ((false, [.s]), [.string t]) := rfl
@[simp] theorem c1F : b7X (.agg cs) = (allO b6X cs).map fun l => ((true, l.map (·.1)), l.map (·.2)) := by simp [b7X, a4Z]
@[simp] theorem c2F {b : Bool} : allO b6X (.iv (.v (.bool b)) :: cs) = (allO b6X cs).map fun l => (.b, .bool b) :: l := rfl
@[simp] theorem c3F {k : IntKind} {n : Int} : allO b6X (.iv (.v (.int k n)) :: cs) = (allO b6X cs).map fun l => (.i k, .int k n) :: l := rfl
@[simp] theorem c4F {t : ByteArray} : allO b6X (.iv (.v (.string t)) :: cs) = (allO b6X cs).map fun l => (.s, .string t) :: l := rfl
theorem c5F (a b : ByteArray) : (a == b) = decide (a = b) := by
 cases a with | mk x => cases b with | mk y =>
 rw [Bool.eq_iff_iff, decide_eq_true_eq, ByteArray.mk.injEq, ← beq_iff_eq (a := x) (b := y)]
 exact ⟨fun h => h, fun h => h⟩
@[simp] theorem c6F : b8Z [] [] [] = some true := rfl
@[simp] theorem c7F {ks : List Kd} {a b : Bool} {r q : List AV} : b8Z (.b :: ks) (.iv (.v (.bool a)) :: r) (.iv (.v (.bool b)) :: q) = (b8Z ks r q).map fun y => (a == b) && y := rfl
@[simp] theorem c8F {ks : List Kd} {k : IntKind} {a b : Int} {r q : List AV} : b8Z (.i k :: ks) (.iv (.v (.int .i64 a)) :: r) (.iv (.v (.int .i64 b)) :: q) = (b8Z ks r q).map fun y => (a == b) && y := rfl
@[simp] theorem c9F {ks : List Kd} {a b : ByteArray} {r q : List AV} : b8Z (.s :: ks) (.iv (.v (.string a)) :: r) (.iv (.v (.string b)) :: q) = (b8Z ks r q).map fun y => decide (a = b) && y := by rw [← c5F]; rfl
theorem c0G {a b : ByteArray} : b5Z a b = decide (a = b) := by
 unfold b5Z
 rw [Bool.eq_iff_iff]
 simp only [beq_iff_eq, decide_eq_true_eq]
 constructor
 · intro h
   have e : a.data.toList = b.data.toList := by simpa [ByteArray.toList_eq] using h
   cases a; cases b
   simp only at e
   congr 1
   exact Array.toList_inj.1 e
 · rintro rfl; rfl
@[simp] theorem bin_add {k k' : IntKind} {m n : Int} : binV .add (.int .i64 m) (.int .i64 n) = some (.int .i64 (IntKind.i64.wrap (m + n))) := rfl
@[simp] theorem bin_sub {m n : Int} : binV .sub (.int .i64 m) (.int .i64 n) = some (.int .i64 (IntKind.i64.wrap (m - n))) := rfl
@[simp] theorem bin_mul {m n : Int} : binV .mul (.int .i64 m) (.int .i64 n) = some (.int .i64 (IntKind.i64.wrap (m * n))) := rfl
@[simp] theorem bin_rem {m n : Int} : binV .rem (.int .i64 m) (.int .i64 n) = if n = 0 then none else some (.int .i64 (m.tmod n)) := rfl
@[simp] theorem bin_and {m n : Int} : binV .and (.int .i64 m) (.int .i64 n) = some (.int .i64 (b3Z .and .i64 m n)) := rfl
@[simp] theorem bin_eql {k : IntKind} {m n : Int} : binV .eql (.int k m) (.int k n) = some (.bool (m == n)) := by simp [binV, binI]
@[simp] theorem bin_neq {k : IntKind} {m n : Int} : binV .neq (.int k m) (.int k n) = some (.bool (m != n)) := by simp [binV, binI]
@[simp] theorem bin_lss {k : IntKind} {m n : Int} : binV .lss (.int k m) (.int k n) = some (.bool (decide (m < n))) := by simp [binV, binI]
@[simp] theorem bin_leq {k : IntKind} {m n : Int} : binV .leq (.int k m) (.int k n) = some (.bool (decide (m ≤ n))) := by simp [binV, binI]
@[simp] theorem bin_gtr {k : IntKind} {m n : Int} : binV .gtr (.int k m) (.int k n) = some (.bool (decide (n < m))) := by simp [binV, binI]
@[simp] theorem bin_geq {k : IntKind} {m n : Int} : binV .geq (.int k m) (.int k n) = some (.bool (decide (n ≤ m))) := by simp [binV, binI]
@[simp] theorem bins_eql {m n : ByteArray} : binV .eql (.string m) (.string n) = some (.bool (decide (m = n))) := by rw [← c0G]; rfl
@[simp] theorem bins_neq {m n : ByteArray} : binV .neq (.string m) (.string n) = some (.bool !(decide (m = n))) := by rw [← c0G]; rfl
@[simp] theorem bins_lss {m n : ByteArray} : binV .lss (.string m) (.string n) = some (.bool (b6Z m n)) := rfl
@[simp] theorem bins_leq {m n : ByteArray} : binV .leq (.string m) (.string n) = some (.bool (b6Z m n || decide (m = n))) := by rw [← c0G]; rfl
@[simp] theorem bins_gtr {m n : ByteArray} : binV .gtr (.string m) (.string n) = some (.bool !(b6Z m n || decide (m = n))) := by rw [← c0G]; rfl
@[simp] theorem un_not {b : Bool} : unV .not (.bool b) = some (.bool (!b)) := rfl
@[simp] theorem un_neg {n : Int} : unV .neg (.int .i64 n) = some (.int .i64 (IntKind.i64.wrap (0 - n))) := rfl
@[simp] theorem bound_n {d : Nat} : s.bound d none = some (d : Int) := rfl
def AV.int? : AV → Option Int
 | .iv (.v (.int _ n)) => some n
 | _ => none
@[simp] theorem int?_i {k : IntKind} {n : Int} : AV.int? (.iv (.v (.int k n))) = some n := rfl
@[simp] theorem bound_s {d : Nat} {x : Operand} : s.bound d (some x) = (s.ev x).int? := by
 simp only [St.bound]
 cases s.ev x with
 | iv x => cases x with
   | v u => cases u <;> rfl
   | _ => rfl
 | _ => rfl
@[simp] theorem ev_tmp {t : Nat} : s.ev (.tmp t) = s.get t := rfl
@[simp] theorem ev_b {b : Bool} : s.ev (.const (.bool b)) = .iv (.v (.bool b)) := rfl
@[simp] theorem ev_i {k : IntKind} {n : Int} : s.ev (.const (.int k n)) = .iv (.v (.int k n)) := rfl
@[simp] theorem ev_s {t : ByteArray} : s.ev (.const (.string t)) = .iv (.v (.string t)) := rfl
@[simp] theorem ev_f {f : FuncId} : s.ev (.func f) = .fn f [] [] := rfl
@[simp] theorem elems_iv {xs : List (List IV)} : s.elems (.iv (.lst sz xs)) = some (sz, xs) := rfl
@[simp] theorem c1G : s.elems (.nil sz) = some (sz, []) := rfl
@[simp] theorem elems_sl : s.elems (.sl id sz lo len) = ((look s.hp id).bind Ob.els).map fun p => (sz, (p.2.drop lo).take len) := by
 simp only [St.elems]
 cases look s.hp id with
 | none => rfl
 | some o => cases h : o.els <;> simp [h]
@[simp] theorem els_list {xs : List (List IV)} : Ob.els (.list sz xs) = some (sz, xs) := rfl
@[simp] theorem els_lent {xs : List (List IV)} : Ob.els (.lent id sz xs) = some (sz, xs) := rfl
@[simp] theorem c2G {z : Nat} {xs ys : List (List IV)} : Ob.setEls (.list z ys) sz xs = .list sz xs := rfl
@[simp] theorem c3G {z : Nat} {xs ys : List (List IV)} : Ob.setEls (.lent id z ys) sz xs = .lent id sz xs := rfl
@[simp] theorem org_list {xs : List (List IV)} : Ob.org? (.list sz xs) = none := rfl
@[simp] theorem org_lent {xs : List (List IV)} : Ob.org? (.lent id sz xs) = some id := rfl
def moH (id : Nat) : Option Ob → Option Mo
 | some (.mapo sk sz g hole) => some (id, sk, sz, g, hole)
 | _ => none
def maH : Option Ob → Option (Sk × (List Value → Option (List IV)))
 | some (.map sk g) => some (sk, g)
 | some (.mapS sk g _ _) => some (sk, g)
 | _ => none
@[simp] theorem moH_mapo {sk g hole} : moH id (some (.mapo sk sz g hole)) = some (id, sk, sz, g, hole) := rfl
@[simp] theorem moH_map {sk g} : moH id (some (.map sk g)) = none := rfl
@[simp] theorem moH_mapS {sk g n k} : moH id (some (.mapS sk g n k)) = none := rfl
@[simp] theorem maH_map {sk g} : maH (some (.map sk g)) = some (sk, g) := rfl
@[simp] theorem maH_mapS {sk g n k} : maH (some (.mapS sk g n k)) = some (sk, g) := rfl
@[simp] theorem c4G : s.mapOf (.mpr id) = maH (look s.hp id) := rfl
@[simp] theorem mapOf_mp {sk g} : s.mapOf (.iv (.mp sk g)) = some (sk, g) := rfl
@[simp] theorem moOf_mpr : s.moOf (.mpr id) = moH id (look s.hp id) := rfl
@[simp] theorem moOf_iv : s.moOf (.iv x) = none := rfl
@[simp] theorem ids_iv : AV.ids (.iv x) = [] := rfl
@[simp] theorem ids_nil : AV.ids (.nil sz) = [] := rfl
@[simp] theorem ids_un : AV.ids .un = [] := rfl
@[simp] theorem ids_ptr : AV.ids (.ptr id off) = [] := rfl
@[simp] theorem ids_fn : AV.ids (.fn f a b) = [] := rfl
@[simp] theorem ids_sl : AV.ids (.sl id sz lo len) = [id] := rfl
@[simp] theorem ids_mpr : AV.ids (.mpr id) = [id] := rfl
@[simp] theorem frz_nil : s.frz [] = s := rfl
@[simp] theorem frz_iv {l : List AV} : s.frz (.iv x :: l) = s.frz l := rfl
@[simp] theorem frz_ni {l : List AV} : s.frz (.nil sz :: l) = s.frz l := rfl
@[simp] theorem frz_ptr {l : List AV} : s.frz (.ptr id off :: l) = s.frz l := rfl
@[simp] theorem frz_fn {l : List AV} : s.frz (.fn f a b :: l) = s.frz l := rfl
@[simp] theorem frz_sl {l : List AV} : s.frz (.sl id sz lo len :: l) = (if id < 1000 then s.drop id else s).frz l := rfl
@[simp] theorem frz_mpr {l : List AV} : s.frz (.mpr id :: l) = (if id < 1000 then s.drop id else s).frz l := rfl
@[simp] theorem frz_ivs {l : List IV} {r : List AV} : s.frz (.agg (l.map .iv) :: r) = s.frz r := by
 have : AV.ids (.agg (l.map .iv)) = [] := by
   simp only [AV.ids]
   induction l with
   | nil => rfl
   | cons x l ih => simp [ih]
 simp [St.frz, this]
@[simp] theorem c5G {r : List AV} : s.frz (.agg [] :: r) = s.frz r := rfl
@[simp] theorem c6G {l r : List AV} : s.frz (.agg (.iv x :: l) :: r) = s.frz (.agg l :: r) := rfl
@[simp] theorem c7G {l r : List AV} : s.frz (.agg (.nil sz :: l) :: r) = s.frz (.agg l :: r) := rfl
@[simp] theorem c8G {l r : List AV} : s.frz (.agg (.fn f a b :: l) :: r) = s.frz (.agg l :: r) := rfl
@[simp] theorem c9G {l r : List AV} : s.frz (.agg (.sl id sz lo len :: l) :: r) = (if id < 1000 then s.drop id else s).frz (.agg l :: r) := rfl
@[simp] theorem look_n {α : Type} {k : Nat} : look ([] : List (Nat × α)) k = none := rfl
@[simp] theorem look_c {α : Type} {j k : Nat} {y : α} {r : List (Nat × α)} : look ((j, y) :: r) k = if j = k then some y else look r k := rfl
@[simp] theorem c0H {z : List AV} : b7Q s z [] = some z := rfl
@[simp] theorem litA_nil : litA s sz [] = some [] := rfl
@[simp] theorem mm_i {mx : Bool} {k : IntKind} {n : Int} {r : List AV} : c0a mx (.iv (.v (.int k n)) :: r) = b9Z mx k n r := rfl
@[simp] theorem mmf_nil {mx : Bool} {k : IntKind} {n : Int} : b9Z mx k n [] = some (k, n) := rfl
@[simp] theorem mmf_i {mx : Bool} {k j : IntKind} {n m : Int} {r : List AV} : b9Z mx k n (.iv (.v (.int j m)) :: r) = b9Z mx k (if mx then max n m else min n m) r := rfl
@[simp] theorem kc_iv {p : Nat → Bool} : AV.kc p (.iv x) = .iv x := rfl
@[simp] theorem kc_nil {p : Nat → Bool} : AV.kc p (.nil sz) = .nil sz := rfl
@[simp] theorem kc_un {p : Nat → Bool} : AV.kc p .un = .un := rfl
@[simp] theorem kc_junk {p : Nat → Bool} : AV.kc p .junk = .junk := rfl
@[simp] theorem kc_ptr {p : Nat → Bool} : AV.kc p (.ptr id off) = if p id then .junk else .ptr id off := rfl
@[simp] theorem kc_sl {p : Nat → Bool} : AV.kc p (.sl id sz lo len) = if p id then .junk else .sl id sz lo len := rfl
@[simp] theorem kc_ep {p : Nat → Bool} : AV.kc p (.ep id sz i off) = if p id then .junk else .ep id sz i off := rfl
@[simp] theorem kc_mpr {p : Nat → Bool} : AV.kc p (.mpr id) = if p id then .junk else .mpr id := rfl
@[simp] theorem kc_fn {p : Nat → Bool} : AV.kc p (.fn f a b) = if a.any (CapV.of p) || b.any (CapV.of p) then .junk else .fn f a b := rfl
@[simp] theorem kc_aggj {p : Nat → Bool} : AV.kc p (.agg cs) = .junk := rfl
@[simp] theorem kc_tupj {p : Nat → Bool} : AV.kc p (.tup cs) = .junk := rfl
@[simp] theorem cof_ptr {p : Nat → Bool} : CapV.of p (.ptr id off) = p id := rfl
@[simp] theorem cof_val {p : Nat → Bool} : CapV.of p (.val x) = false := rfl
@[simp] theorem mapc_iv {g : AV → AV} : AV.mapc g (.iv x) = g (.iv x) := rfl
@[simp] theorem mapc_ni {g : AV → AV} : AV.mapc g (.nil sz) = g (.nil sz) := rfl
@[simp] theorem mapc_un {g : AV → AV} : AV.mapc g .un = g .un := rfl
@[simp] theorem c1H {g : AV → AV} : AV.mapc g .junk = g .junk := rfl
@[simp] theorem mapc_ptr {g : AV → AV} : AV.mapc g (.ptr id off) = g (.ptr id off) := rfl
@[simp] theorem mapc_sl {g : AV → AV} : AV.mapc g (.sl id sz lo len) = g (.sl id sz lo len) := rfl
@[simp] theorem mapc_ep {g : AV → AV} : AV.mapc g (.ep id sz i off) = g (.ep id sz i off) := rfl
@[simp] theorem mapc_mpr {g : AV → AV} : AV.mapc g (.mpr id) = g (.mpr id) := rfl
@[simp] theorem mapc_fn {g : AV → AV} : AV.mapc g (.fn f a b) = g (.fn f a b) := rfl
@[simp] theorem mapc_agg {g : AV → AV} : AV.mapc g (.agg cs) = .agg (cs.map g) := rfl
@[simp] theorem mapc_tup {g : AV → AV} : AV.mapc g (.tup cs) = .tup (cs.map (AV.map1 g)) := rfl
@[simp] theorem map1_iv {g : AV → AV} : AV.map1 g (.iv x) = g (.iv x) := rfl
@[simp] theorem map1_agg {g : AV → AV} : AV.map1 g (.agg cs) = .agg (cs.map g) := rfl
@[simp] theorem c2H {g : AV → AV} : Ob.mapc g (.box cs) = .box (cs.map g) := rfl
@[simp] theorem c3H {g : AV → AV} {xs : List (List IV)} : Ob.mapc g (.list sz xs) = .list sz xs := rfl
@[simp] theorem c4H {g : AV → AV} {xs : List (List IV)} : Ob.mapc g (.lent id sz xs) = .lent id sz xs := rfl
@[simp] theorem c5H {g : AV → AV} {sk h} : Ob.mapc g (.map sk h) = .map sk h := rfl
@[simp] theorem c6H {g : AV → AV} {sk h n k} : Ob.mapc g (.mapS sk h n k) = .mapS sk h n k := rfl
@[simp] theorem c7H {g : AV → AV} {sk h k} : Ob.mapc g (.mapo sk sz h k) = .mapo sk sz h k := rfl
@[simp] theorem c8H {g : AV → AV} {sk h l k} : Ob.mapc g (.iter sk h l k) = .iter sk h l k := rfl
end
def gone (id : Nat) (o : Ob) (x : AV) : AV := (x.fc id o).kc (· == id)
def goneP (off : Nat) : Option (List IV) → AV
 | some l => .iv (.pt (l.drop off))
 | none => .junk
def gonF (id : Nat) (o : Ob) : List (Nat × AV) → List (Nat × AV)
 | [] => []
 | (t, x) :: r => (t, x.mapc (gone id o)) :: gonF id o r
def gonH (id : Nat) (o : Ob) : Hp → Hp
 | [] => []
 | (j, q) :: r => if j = id then gonH id o r else (j, q.mapc (gone id o)) :: gonH id o r
def dropH (id : Nat) (fr : List (Nat × AV)) (hp : Hp) : Option Ob → St
 | none => ⟨fr, hp⟩
 | some o => ⟨gonF id o fr, gonH id o hp⟩
section
variable {id : Nat} {o : Ob}
@[simp] theorem goneP_s {off : Nat} {l : List IV} : goneP off (some l) = .iv (.pt (l.drop off)) := rfl
@[simp] theorem goneP_n {off : Nat} : goneP off none = .junk := rfl
@[simp] theorem gonF_nil : gonF id o [] = [] := rfl
@[simp] theorem c9H {t : Nat} {x : AV} {r : List (Nat × AV)} : gonF id o ((t, x) :: r) = (t, x.mapc (gone id o)) :: gonF id o r := rfl
@[simp] theorem gonH_nil : gonH id o [] = [] := rfl
@[simp] theorem c0I {j : Nat} {q : Ob} {r : Hp} : gonH id o ((j, q) :: r) = if j = id then gonH id o r else (j, q.mapc (gone id o)) :: gonH id o r := rfl
@[simp] theorem dropH_n {fr : List (Nat × AV)} {hp : Hp} : dropH id fr hp none = ⟨fr, hp⟩ := rfl
@[simp] theorem dropH_s {fr : List (Nat × AV)} {hp : Hp} : dropH id fr hp (some o) = ⟨gonF id o fr, gonH id o hp⟩ := rfl
theorem c1I (fr : List (Nat × AV)) : gonF id o fr = fr.map fun (t, x) => (t, x.mapc fun x => (x.fc id o).kc (· == id)) := by
 induction fr with
 | nil => rfl
 | cons p r ih => obtain ⟨t, x⟩ := p; simp only [gonF, List.map_cons, ih]; rfl
theorem c2I (hp : Hp) : gonH id o hp = (hp.map fun (t, x) => (t, x.mapc fun x => (x.fc id o).kc (· == id))).filter (·.1 != id) := by
 induction hp with
 | nil => rfl
 | cons p r ih =>
   obtain ⟨t, x⟩ := p
   simp only [gonH, List.map_cons, List.filter_cons, ih]
   by_cases h : t = id
   · simp [h]
   · simp [h]; rfl
@[simp] theorem drop_mk {fr : List (Nat × AV)} {hp : Hp} : St.drop id ⟨fr, hp⟩ = dropH id fr hp (look hp id) := by
 simp only [St.drop]
 cases look hp id with
 | none => rfl
 | some o => simp only [dropH, c1I, c2I]; rfl
@[simp] theorem c3I {x : IV} : gone id o (.iv x) = .iv x := rfl
@[simp] theorem gone_nil {sz : Nat} : gone id o (.nil sz) = .nil sz := rfl
@[simp] theorem gone_un : gone id o .un = .un := rfl
@[simp] theorem c4I : gone id o .junk = .junk := rfl
@[simp] theorem gone_fn {f : FuncId} {a b : List CapV} : gone id o (.fn f a b) = AV.kc (· == id) (.fn f (a.map (CapV.fc id o)) (b.map (CapV.fc id o))) := rfl
@[simp] theorem c5I {x : IV} : CapV.fc id o (.val x) = .val x := rfl
def capP (j off : Nat) : Option (List IV) → CapV
 | some l => .val (.pt (l.drop off))
 | none => .ptr j off
@[simp] theorem capP_s {j off : Nat} {l : List IV} : capP j off (some l) = .val (.pt (l.drop off)) := rfl
@[simp] theorem capP_n {j off : Nat} : capP j off none = .ptr j off := rfl
@[simp] theorem c6I {cs : List AV} {j off : Nat} : CapV.fc id (.box cs) (.ptr j off) = if j = id then capP j off (b6N cs) else .ptr j off := by
 simp only [CapV.fc]; split
 · cases b6N cs <;> rfl
 · rfl
@[simp] theorem c7I {cs : List AV} {j sz2 lo len : Nat} : gone id (.box cs) (.sl j sz2 lo len) = if j = id then .junk else .sl j sz2 lo len := by
 by_cases h : j = id <;> simp [gone, AV.fc, h]
@[simp] theorem c8I {cs : List AV} {j sz2 i off : Nat} : gone id (.box cs) (.ep j sz2 i off) = if j = id then .junk else .ep j sz2 i off := by
 by_cases h : j = id <;> simp [gone, AV.fc, h]
@[simp] theorem c9I {cs : List AV} {j : Nat} : gone id (.box cs) (.mpr j) = if j = id then .junk else .mpr j := by
 by_cases h : j = id <;> simp [gone, AV.fc, h]
@[simp] theorem c0J {cs : List AV} {j off : Nat} : gone id (.box cs) (.ptr j off) = if j = id then goneP off (b6N cs) else .ptr j off := by
 by_cases h : j = id <;> simp [gone, AV.fc, h]
 cases b6N cs <;> simp
@[simp] theorem c1J {sz : Nat} {xs : List (List IV)} {j off : Nat} : CapV.fc id (.list sz xs) (.ptr j off) = .ptr j off := by
 simp only [CapV.fc, ite_self]
@[simp] theorem c2J {sz : Nat} {xs : List (List IV)} {j sz2 lo len : Nat} : gone id (.list sz xs) (.sl j sz2 lo len) = if j = id then .iv (.lst sz2 ((xs.drop lo).take len)) else .sl j sz2 lo len := by
 by_cases h : j = id <;> simp [gone, AV.fc, h]
@[simp] theorem c3J {sz : Nat} {xs : List (List IV)} {j sz2 i off : Nat} : gone id (.list sz xs) (.ep j sz2 i off) = if j = id then .iv (.pt ((xs.getD i []).drop off)) else .ep j sz2 i off := by
 by_cases h : j = id <;> simp [gone, AV.fc, h]
@[simp] theorem c4J {sz : Nat} {xs : List (List IV)} {j : Nat} : gone id (.list sz xs) (.mpr j) = if j = id then .junk else .mpr j := by
 by_cases h : j = id <;> simp [gone, AV.fc, h]
@[simp] theorem c5J {sz : Nat} {xs : List (List IV)} {j off : Nat} : gone id (.list sz xs) (.ptr j off) = if j = id then .junk else .ptr j off := by
 by_cases h : j = id <;> simp [gone, AV.fc, h]
@[simp] theorem c6J {sk : Sk} {g : List Value → Option (List IV)} {j off : Nat} : CapV.fc id (.map sk g) (.ptr j off) = .ptr j off := by
 simp only [CapV.fc, ite_self]
attribute [simp] c3z
@[simp] theorem c7J {Z : GZ} {vs : List Value} {cs : List AV} {j sz2 lo len : Nat} : gone id (.gh Z vs cs) (.sl j sz2 lo len) = if j = id then .junk else .sl j sz2 lo len := by
 by_cases h : j = id <;> simp [gone, AV.fc, h]
@[simp] theorem c8J {Z : GZ} {vs : List Value} {cs : List AV} {j sz2 i off : Nat} : gone id (.gh Z vs cs) (.ep j sz2 i off) = if j = id then .junk else .ep j sz2 i off := by
 by_cases h : j = id <;> simp [gone, AV.fc, h]
@[simp] theorem c9J {Z : GZ} {vs : List Value} {cs : List AV} {j : Nat} : gone id (.gh Z vs cs) (.mpr j) = if j = id then .junk else .mpr j := by
 by_cases h : j = id <;> simp [gone, AV.fc, h]
@[simp] theorem c0K {Z : GZ} {vs : List Value} {cs : List AV} {j off : Nat} : gone id (.gh Z vs cs) (.ptr j off) = if j = id then .junk else .ptr j off := by
 by_cases h : j = id <;> simp [gone, AV.fc, h]
@[simp] theorem c1K {sk : Sk} {g : List Value → Option (List IV)} {j sz2 lo len : Nat} : gone id (.map sk g) (.sl j sz2 lo len) = if j = id then .junk else .sl j sz2 lo len := by
 by_cases h : j = id <;> simp [gone, AV.fc, h]
@[simp] theorem c2K {sk : Sk} {g : List Value → Option (List IV)} {j sz2 i off : Nat} : gone id (.map sk g) (.ep j sz2 i off) = if j = id then .junk else .ep j sz2 i off := by
 by_cases h : j = id <;> simp [gone, AV.fc, h]
@[simp] theorem c3K {sk : Sk} {g : List Value → Option (List IV)} {j : Nat} : gone id (.map sk g) (.mpr j) = if j = id then .iv (.mp sk g) else .mpr j := by
 by_cases h : j = id <;> simp [gone, AV.fc, h]
@[simp] theorem c4K {sk : Sk} {g : List Value → Option (List IV)} {j off : Nat} : gone id (.map sk g) (.ptr j off) = if j = id then .junk else .ptr j off := by
 by_cases h : j = id <;> simp [gone, AV.fc, h]
@[simp] theorem c5K {sk : Sk} {g : List Value → Option (List IV)} {n : Int} {k : List Value} {j off : Nat} : CapV.fc id (.mapS sk g n k) (.ptr j off) = .ptr j off := by
 simp only [CapV.fc, ite_self]
@[simp] theorem c6K {sk : Sk} {g : List Value → Option (List IV)} {n : Int} {k : List Value} {j sz2 lo len : Nat} : gone id (.mapS sk g n k) (.sl j sz2 lo len) = if j = id then .junk else .sl j sz2 lo len := by
 by_cases h : j = id <;> simp [gone, AV.fc, h]
@[simp] theorem c7K {sk : Sk} {g : List Value → Option (List IV)} {n : Int} {k : List Value} {j sz2 i off : Nat} : gone id (.mapS sk g n k) (.ep j sz2 i off) = if j = id then .junk else .ep j sz2 i off := by
 by_cases h : j = id <;> simp [gone, AV.fc, h]
@[simp] theorem c8K {sk : Sk} {g : List Value → Option (List IV)} {n : Int} {k : List Value} {j : Nat} : gone id (.mapS sk g n k) (.mpr j) = if j = id then .junk else .mpr j := by
 by_cases h : j = id <;> simp [gone, AV.fc, h]
@[simp] theorem c9K {sk : Sk} {g : List Value → Option (List IV)} {n : Int} {k : List Value} {j off : Nat} : gone id (.mapS sk g n k) (.ptr j off) = if j = id then .junk else .ptr j off := by
 by_cases h : j = id <;> simp [gone, AV.fc, h]
@[simp] theorem c0L {n sz : Nat} {xs : List (List IV)} {j off : Nat} : CapV.fc id (.lent n sz xs) (.ptr j off) = .ptr j off := by
 simp only [CapV.fc, ite_self]
@[simp] theorem c1L {n sz : Nat} {xs : List (List IV)} {j sz2 lo len : Nat} : gone id (.lent n sz xs) (.sl j sz2 lo len) = if j = id then .junk else .sl j sz2 lo len := by
 by_cases h : j = id <;> simp [gone, AV.fc, h]
@[simp] theorem c2L {n sz : Nat} {xs : List (List IV)} {j sz2 i off : Nat} : gone id (.lent n sz xs) (.ep j sz2 i off) = if j = id then .junk else .ep j sz2 i off := by
 by_cases h : j = id <;> simp [gone, AV.fc, h]
@[simp] theorem c3L {n sz : Nat} {xs : List (List IV)} {j : Nat} : gone id (.lent n sz xs) (.mpr j) = if j = id then .junk else .mpr j := by
 by_cases h : j = id <;> simp [gone, AV.fc, h]
@[simp] theorem c4L {n sz : Nat} {xs : List (List IV)} {j off : Nat} : gone id (.lent n sz xs) (.ptr j off) = if j = id then .junk else .ptr j off := by
 by_cases h : j = id <;> simp [gone, AV.fc, h]
@[simp] theorem c5L {sk : Sk} {sz : Nat} {h : List Value → Option (List (List IV))} {hole : Option (List Value)} {j off : Nat} : CapV.fc id (.mapo sk sz h hole) (.ptr j off) = .ptr j off := by
 simp only [CapV.fc, ite_self]
@[simp] theorem c6L {sk : Sk} {sz : Nat} {h : List Value → Option (List (List IV))} {hole : Option (List Value)} {j sz2 lo len : Nat} : gone id (.mapo sk sz h hole) (.sl j sz2 lo len) = if j = id then .junk else .sl j sz2 lo len := by
 by_cases h : j = id <;> simp [gone, AV.fc, h]
@[simp] theorem c7L {sk : Sk} {sz : Nat} {h : List Value → Option (List (List IV))} {hole : Option (List Value)} {j sz2 i off : Nat} : gone id (.mapo sk sz h hole) (.ep j sz2 i off) = if j = id then .junk else .ep j sz2 i off := by
 by_cases h : j = id <;> simp [gone, AV.fc, h]
@[simp] theorem c8L {sk : Sk} {sz : Nat} {h : List Value → Option (List (List IV))} {hole : Option (List Value)} {j off : Nat} : gone id (.mapo sk sz h hole) (.ptr j off) = if j = id then .junk else .ptr j off := by
 by_cases h : j = id <;> simp [gone, AV.fc, h]
@[simp] theorem c9L {sz : Nat} {ys : List (List (List IV))} {hole : Option Nat} {j off : Nat} : CapV.fc id (.listo sz ys hole) (.ptr j off) = .ptr j off := by
 simp only [CapV.fc, ite_self]
@[simp] theorem c0M {sz : Nat} {ys : List (List (List IV))} {hole : Option Nat} {j sz2 i off : Nat} : gone id (.listo sz ys hole) (.ep j sz2 i off) = if j = id then .junk else .ep j sz2 i off := by
 by_cases h : j = id <;> simp [gone, AV.fc, h]
@[simp] theorem c1M {sz : Nat} {ys : List (List (List IV))} {hole : Option Nat} {j : Nat} : gone id (.listo sz ys hole) (.mpr j) = if j = id then .junk else .mpr j := by
 by_cases h : j = id <;> simp [gone, AV.fc, h]
@[simp] theorem c2M {sz : Nat} {ys : List (List (List IV))} {hole : Option Nat} {j off : Nat} : gone id (.listo sz ys hole) (.ptr j off) = if j = id then .junk else .ptr j off := by
 by_cases h : j = id <;> simp [gone, AV.fc, h]
@[simp] theorem c3M {sk : Sk} {g : List Value → Option (List IV)} {left : List (List Value)} {last : Option (List Value)} {j off : Nat} : CapV.fc id (.iter sk g left last) (.ptr j off) = .ptr j off := by
 simp only [CapV.fc, ite_self]
@[simp] theorem c4M {sk : Sk} {g : List Value → Option (List IV)} {left : List (List Value)} {last : Option (List Value)} {j sz2 lo len : Nat} : gone id (.iter sk g left last) (.sl j sz2 lo len) = if j = id then .junk else .sl j sz2 lo len := by
 by_cases h : j = id <;> simp [gone, AV.fc, h]
@[simp] theorem c5M {sk : Sk} {g : List Value → Option (List IV)} {left : List (List Value)} {last : Option (List Value)} {j sz2 i off : Nat} : gone id (.iter sk g left last) (.ep j sz2 i off) = if j = id then .junk else .ep j sz2 i off := by
 by_cases h : j = id <;> simp [gone, AV.fc, h]
@[simp] theorem c6M {sk : Sk} {g : List Value → Option (List IV)} {left : List (List Value)} {last : Option (List Value)} {j : Nat} : gone id (.iter sk g left last) (.mpr j) = if j = id then .junk else .mpr j := by
 by_cases h : j = id <;> simp [gone, AV.fc, h]
@[simp] theorem c7M {sk : Sk} {g : List Value → Option (List IV)} {left : List (List Value)} {last : Option (List Value)} {j off : Nat} : gone id (.iter sk g left last) (.ptr j off) = if j = id then .junk else .ptr j off := by
 by_cases h : j = id <;> simp [gone, AV.fc, h]
@[simp] theorem c8M {sz : Nat} {ys : List (List (List IV))} {j sz2 lo len : Nat} : gone id (.listo sz ys none) (.sl j sz2 lo len) = if j = id then .iv (.lst 1 (((ys.map fun x => [IV.lst sz x]).drop lo).take len)) else .sl j sz2 lo len := by
 by_cases h : j = id <;> simp [gone, AV.fc, h]
@[simp] theorem c9M {sk : Sk} {sz : Nat} {h : List Value → Option (List (List IV))} {j : Nat} : gone id (.mapo sk sz h none) (.mpr j) = if j = id then .iv (.mp sk fun k => (h k).map fun xs => [IV.lst sz xs]) else .mpr j := by
 by_cases h : j = id <;> simp [gone, AV.fc, h]
end
section
variable {s : St} {id : Nat} {fr : List (Nat × AV)} {hp : Hp}
@[simp] theorem c0N {z : List AV} {off n : Nat} {x : Operand} {r : List (Nat × Nat × Operand)} : b7Q s z ((off, n, x) :: r) = (s.ev x).cellsOf.bind fun cs => if cs.length = n ∧ off + n ≤ z.length then b7Q s (b2Z z off cs) r else none := by
 simp only [b7Q]
 cases (s.ev x).cellsOf <;> rfl
@[simp] theorem c1N {sz i : Nat} {x : Operand} {r : List (Nat × Operand)} : litA s sz ((i, x) :: r) = ((s.ev x).cellsOf.bind fun cs => allO AV.iv? cs).bind fun c => if c.length = sz then (litA s sz r).map fun q => c :: q else none := by
 simp only [litA, a4Z]
 cases ((s.ev x).cellsOf.bind fun cs => allO AV.iv? cs) <;> rfl
@[simp] theorem c2N {α : Type} {z cs : List α} {off : Nat} : b2Z z off cs = z.take off ++ cs ++ z.drop (off + cs.length) := rfl
@[simp] theorem add_mk {o : Ob} : St.add ⟨fr, hp⟩ id o = ⟨fr, (id, o) :: hp⟩ := rfl
@[simp] theorem join_mk {H : Hp} : St.join ⟨fr, hp⟩ H = ⟨fr, H ++ hp⟩ := rfl
@[simp] theorem put_s {d : Nat} {x : AV} : St.put ⟨fr, hp⟩ (some d) x = ⟨(d, x) :: fr, hp⟩ := rfl
@[simp] theorem put_n {x : AV} : St.put ⟨fr, hp⟩ none x = ⟨fr, hp⟩ := rfl
@[simp] theorem get_mk' {t : Nat} : St.get ⟨fr, hp⟩ t = (look fr t).getD .junk := rfl
def loF (id : Nat) : List (Nat × AV) → List (Nat × AV)
 | [] => []
 | (t, x) :: r => (t, x.mapc (AV.kc (· == id))) :: loF id r
def loH (id : Nat) : Hp → Hp
 | [] => []
 | (t, x) :: r => (t, x.mapc (AV.kc (· == id))) :: loH id r
def kiH (id : Nat) : Hp → Hp
 | [] => []
 | (t, x) :: r => if t = id then kiH id r else (t, x.mapc (AV.kc (· == id))) :: kiH id r
@[simp] theorem loF_nil : loF id [] = [] := rfl
@[simp] theorem loF_cons {t : Nat} {x : AV} {r : List (Nat × AV)} : loF id ((t, x) :: r) = (t, x.mapc (AV.kc (· == id))) :: loF id r := rfl
@[simp] theorem loH_nil : loH id [] = [] := rfl
@[simp] theorem loH_cons {t : Nat} {x : Ob} {r : Hp} : loH id ((t, x) :: r) = (t, x.mapc (AV.kc (· == id))) :: loH id r := rfl
@[simp] theorem kiH_nil : kiH id [] = [] := rfl
@[simp] theorem kiH_cons {t : Nat} {x : Ob} {r : Hp} : kiH id ((t, x) :: r) = if t = id then kiH id r else (t, x.mapc (AV.kc (· == id))) :: kiH id r := rfl
theorem c3N (fr : List (Nat × AV)) : loF id fr = fr.map fun (t, x) => (t, x.mapc (AV.kc (· == id))) := by
 induction fr with
 | nil => rfl
 | cons p r ih => obtain ⟨t, x⟩ := p; simp only [loF, List.map_cons, ih]
theorem c4N (fr : Hp) : loH id fr = fr.map fun (t, x) => (t, x.mapc (AV.kc (· == id))) := by
 induction fr with
 | nil => rfl
 | cons p r ih => obtain ⟨t, x⟩ := p; simp only [loH, List.map_cons, ih]
theorem c5N (fr : Hp) : kiH id fr = (fr.map fun (t, x) => (t, x.mapc (AV.kc (· == id)))).filter (·.1 != id) := by
 induction fr with
 | nil => rfl
 | cons p r ih =>
   obtain ⟨t, x⟩ := p
   simp only [kiH, List.map_cons, List.filter_cons, ih]
   by_cases h : t = id <;> simp [h]
@[simp] theorem lone_mk : St.lone id ⟨fr, hp⟩ = ⟨loF id fr, loH id hp⟩ := by
 simp only [St.lone, St.mapc, c3N, c4N]
@[simp] theorem kill_mk : St.kill id ⟨fr, hp⟩ = ⟨loF id fr, kiH id hp⟩ := by
 simp only [St.kill, St.mapc, c3N, c5N]
end
@[simp] theorem c6N {i : Nat} : c6j i [] = [] := rfl
@[simp] theorem c7N {i : Nat} {x : AV} {r : List AV} : c6j i (x :: r) = (i, x) :: c6j (i + 1) r := rfl
def wL (sz lo len : Nat) : Option Ob → Option IV
 | some (.list _ xs) => some (.lst sz ((xs.drop lo).take len))
 | some (.listo sz' xs none) => some (.lst 1 (((xs.map fun x => [IV.lst sz' x]).drop lo).take len))
 | _ => none
def wM : Option Ob → Option IV
 | some (.map sk g) => some (.mp sk g)
 | some (.mapo sk sz g none) => some (.mp sk fun k => (g k).map fun xs => [IV.lst sz xs])
 | _ => none
def wB (off : Nat) (f : List AV → Option (List IV)) : Option Ob → Option IV
 | some (.box cs) => (f cs).map fun l => .pt (l.drop off)
 | _ => none
def IV.or (y : Option IV) (x : AV) : AV := match y with | some y => .iv y | none => x
def IV.orC (y : Option IV) (x : CapV) : CapV := match y with | some y => .val y | none => x
section
variable {s : St} {ids : List Nat} {d id sz lo len i off : Nat} {x : IV} {cs : List AV} {f : FuncId} {a b : List CapV} {fr : Bool}
@[simp] theorem wL_list {z : Nat} {xs : List (List IV)} : wL sz lo len (some (.list z xs)) = some (.lst sz ((xs.drop lo).take len)) := rfl
@[simp] theorem wL_listo {z : Nat} {xs : List (List (List IV))} : wL sz lo len (some (.listo z xs none)) = some (.lst 1 (((xs.map fun x => [IV.lst z x]).drop lo).take len)) := rfl
@[simp] theorem wM_map {sk g} : wM (some (.map sk g)) = some (.mp sk g) := rfl
@[simp] theorem wM_mapo {sk g} : wM (some (.mapo sk sz g none)) = some (.mp sk fun k => (g k).map fun xs => [IV.lst sz xs]) := rfl
@[simp] theorem wB_box {g : List AV → Option (List IV)} : wB off g (some (.box cs)) = (g cs).map fun l => .pt (l.drop off) := rfl
@[simp] theorem or_s {y : IV} {x : AV} : IV.or (some y) x = .iv y := rfl
@[simp] theorem or_n {x : AV} : IV.or none x = x := rfl
@[simp] theorem orC_s {y : IV} {x : CapV} : IV.orC (some y) x = .val y := rfl
@[simp] theorem orC_n {x : CapV} : IV.orC none x = x := rfl
@[simp] theorem ivW_iv : s.ivW ids d (.iv x) = some x := by cases d <;> rfl
@[simp] theorem ivW_nil : s.ivW ids d (.nil sz) = some (.lst sz []) := by cases d <;> rfl
@[simp] theorem ivW_sl : s.ivW ids d (.sl id sz lo len) = if ids.contains id then none else wL sz lo len (look s.hp id) := by cases d <;> rfl
@[simp] theorem ivW_mpr : s.ivW ids d (.mpr id) = if ids.contains id then none else wM (look s.hp id) := by cases d <;> rfl
@[simp] theorem ivW_ptr3 : s.ivW ids 3 (.ptr id off) = if ids.contains id then none else wB off (fun cs => allO (s.ivW ids 2) cs) (look s.hp id) := rfl
@[simp] theorem ivW_ptr2 : s.ivW ids 2 (.ptr id off) = if ids.contains id then none else wB off (fun cs => allO (s.ivW ids 1) cs) (look s.hp id) := rfl
@[simp] theorem ivW_ptr1 : s.ivW ids 1 (.ptr id off) = if ids.contains id then none else wB off (fun cs => allO (s.ivW ids 0) cs) (look s.hp id) := rfl
@[simp] theorem c8N : allO (s.ivW ids d) (.iv x :: cs) = (allO (s.ivW ids d) cs).map fun l => x :: l := by simp [allO]
@[simp] theorem c9N : allO (s.ivW ids d) (.nil sz :: cs) = (allO (s.ivW ids d) cs).map fun l => .lst sz [] :: l := by simp [allO]
@[simp] theorem c0O : allO (s.ivW ids d) (.sl id sz lo len :: cs) = (s.ivW ids d (.sl id sz lo len)).bind fun y => (allO (s.ivW ids d) cs).map fun l => y :: l := by
 simp only [allO]; cases s.ivW ids d (.sl id sz lo len) <;> rfl
@[simp] theorem c1O : allO (s.ivW ids d) (.mpr id :: cs) = (s.ivW ids d (.mpr id)).bind fun y => (allO (s.ivW ids d) cs).map fun l => y :: l := by
 simp only [allO]; cases s.ivW ids d (.mpr id) <;> rfl
@[simp] theorem c2O : allO (s.ivW ids d) (.ptr id off :: cs) = (s.ivW ids d (.ptr id off)).bind fun y => (allO (s.ivW ids d) cs).map fun l => y :: l := by
 simp only [allO]; cases s.ivW ids d (.ptr id off) <;> rfl
@[simp] theorem c3O {l : List IV} : allO (s.ivW ids d) (l.map .iv) = some l := by
 induction l with
 | nil => rfl
 | cons x l ih => simp [ih]
@[simp] theorem bor_ptr : CapV.bor s ids (.ptr id off) = IV.orC (s.ivW ids 3 (.ptr id off)) (.ptr id off) := by
 simp only [CapV.bor]; cases s.ivW ids 3 (.ptr id off) <;> rfl
@[simp] theorem bor_val : CapV.bor s ids (.val x) = .val x := rfl
@[simp] theorem c4O : CapV.inn ids (.ptr id off) = ids.contains id := rfl
@[simp] theorem c5O : CapV.inn ids (.val x) = true := rfl
@[simp] theorem c6O : AV.inn ids (.iv x) = true := rfl
@[simp] theorem inn_nil : AV.inn ids (.nil sz) = true := rfl
@[simp] theorem inn_sl : AV.inn ids (.sl id sz lo len) = ids.contains id := rfl
@[simp] theorem inn_ptr : AV.inn ids (.ptr id off) = ids.contains id := rfl
@[simp] theorem inn_ep : AV.inn ids (.ep id sz i off) = ids.contains id := rfl
@[simp] theorem inn_mpr : AV.inn ids (.mpr id) = ids.contains id := rfl
@[simp] theorem inn_fn : AV.inn ids (.fn f a b) = (a.all (CapV.inn ids) && b.all (CapV.inn ids)) := rfl
@[simp] theorem inns_agg : AV.inns ids (.agg cs) = cs.all (AV.inn ids) := rfl
@[simp] theorem inns_iv : AV.inns ids (.iv x) = true := rfl
@[simp] theorem inns_nil : AV.inns ids (.nil sz) = true := rfl
@[simp] theorem inns_sl : AV.inns ids (.sl id sz lo len) = ids.contains id := rfl
@[simp] theorem inns_ptr : AV.inns ids (.ptr id off) = ids.contains id := rfl
@[simp] theorem inns_mpr : AV.inns ids (.mpr id) = ids.contains id := rfl
@[simp] theorem inns_fn : AV.inns ids (.fn f a b) = (a.all (CapV.inn ids) && b.all (CapV.inn ids)) := rfl
@[simp] theorem arg1_iv : s.arg1 fr ids (.iv x) = .iv x := rfl
@[simp] theorem arg1_nil : s.arg1 fr ids (.nil sz) = .iv (.lst sz []) := rfl
@[simp] theorem arg1_fn : s.arg1 fr ids (.fn f a b) = if fr && !((AV.fn f a b).inn ids) then .fn f (a.map (CapV.bor s ids)) (b.map (CapV.bor s ids)) else .fn f a b := rfl
@[simp] theorem arg1_sl : s.arg1 fr ids (.sl id sz lo len) = if fr && !(ids.contains id) then IV.or (s.ivW ids 3 (.sl id sz lo len)) (.sl id sz lo len) else .sl id sz lo len := rfl
@[simp] theorem arg1_mpr : s.arg1 fr ids (.mpr id) = if fr && !(ids.contains id) then IV.or (s.ivW ids 3 (.mpr id)) (.mpr id) else .mpr id := rfl
@[simp] theorem arg1_ptr : s.arg1 fr ids (.ptr id off) = if fr && !(ids.contains id) then IV.or (s.ivW ids 3 (.ptr id off)) (.ptr id off) else .ptr id off := rfl
@[simp] theorem arg_iv : s.arg fr ids (.iv x) = .iv x := rfl
@[simp] theorem arg_nil : s.arg fr ids (.nil sz) = .iv (.lst sz []) := rfl
@[simp] theorem arg_fn : s.arg fr ids (.fn f a b) = s.arg1 fr ids (.fn f a b) := rfl
@[simp] theorem arg_sl : s.arg fr ids (.sl id sz lo len) = s.arg1 fr ids (.sl id sz lo len) := rfl
@[simp] theorem arg_mpr : s.arg fr ids (.mpr id) = s.arg1 fr ids (.mpr id) := rfl
@[simp] theorem arg_ptr : s.arg fr ids (.ptr id off) = s.arg1 fr ids (.ptr id off) := rfl
@[simp] theorem c7O {l : List IV} : s.arg fr ids (.agg (l.map .iv)) = .agg (l.map .iv) := by
 simp only [St.arg, List.map_map]
 congr 1
@[simp] theorem arg_agg : s.arg fr ids (.agg cs) = .agg (cs.map (s.arg1 fr ids)) := rfl
@[simp] theorem args_d {pre : List CapV} {ops : List Operand} {post : List CapV} : s.args pre ops post = pre.map CapV.av ++ ops.map s.ev ++ post.map CapV.av := rfl
end
@[simp] theorem c8O {id : Nat} {o : Ob} {l : List IV} : (l.map AV.iv).map (gone id o) = l.map AV.iv := by
 induction l with
 | nil => rfl
 | cons x l ih => rw [List.map_cons, List.map_cons, ih, c3I]
@[simp] theorem c9O {p : Nat → Bool} {l : List IV} : (l.map AV.iv).map (AV.kc p) = l.map AV.iv := by
 induction l with
 | nil => rfl
 | cons x l ih => rw [List.map_cons, List.map_cons, ih, kc_iv]
@[simp] theorem c0P {ids : List Nat} {l : List IV} : (l.map AV.iv).all (AV.inn ids) = true := by
 induction l with
 | nil => rfl
 | cons x l ih => rw [List.map_cons, List.all_cons, ih, c6O]; rfl
@[simp] theorem c1P {l : List IV} : (l.map AV.iv).all AV.one = true := by
 induction l with
 | nil => rfl
 | cons x l ih => rw [List.map_cons, List.all_cons, ih, c9D]; rfl
attribute [simp ↓] c1C c3C c4C c5C c6C c8C c9C c0D
end Go.Vm
end

section
namespace Go.Vm
attribute [simp] St.lit St.pure1 St.pure St.ivOf at2 vtrue
@[simp] theorem a3F {α : Type} (l : List α) (i : Nat) (x : α) : (l.getD i x) = (l[i]?).getD x := rfl
theorem a4F {f : AV → AV} {s : St} {t : Nat} {x : IV} (hf : ∀ x, f (.iv x) = .iv x) (h : s.get t = .iv x) : (s.mapc f).get t = .iv x := by
 simp only [St.get, St.mapc] at h ⊢
 rw [b7N (AV.mapc f)]
 cases hl : look s.fr t with
 | none => rw [hl] at h; cases h
 | some y => rw [hl] at h; simp only [Option.getD_some] at h; subst h; simp [AV.mapc, hf]
theorem a5F {s : St} {t id : Nat} {x : IV} (h : s.get t = .iv x) : (s.drop id).get t = .iv x := by
 unfold St.drop
 split
 · exact h
 · rename_i o _
   exact a4F (f := fun x => (x.fc id o).kc (· == id)) (fun _ => rfl) h
theorem a6F (D : List Nat) : ∀ {s : St} {t : Nat} {x : IV}, s.get t = .iv x → (s.drops D).get t = .iv x := by
 induction D with
 | nil => intro s t x h; exact h
 | cons i D ih => intro s t x h; exact ih (a5F h)
theorem a7F {s : St} {id k : Nat} (h : look s.hp k = none) : look (s.drop id).hp k = none := by
 unfold St.drop
 split
 · exact h
 · simp only [b8N, c2z, h, Option.map_none]; split <;> rfl
theorem a8F (D : List Nat) : ∀ {s : St} {k : Nat}, (k ∈ D ∨ look s.hp k = none) → look (s.drops D).hp k = none := by
 induction D with
 | nil => intro s k h; rcases h with h | h; · cases h
          · exact h
 | cons i D ih =>
   intro s k h
   refine ih (s := s.drop i) ?_
   rcases h with h | h
   · rcases List.mem_cons.1 h with rfl | h
     · exact .inr (a2C s k)
     · exact .inl h
   · exact .inr (a7F h)
theorem a9F {t : Nat} {x : IV} {s : St} (h : s.get t = .iv x) (hf : x.flat = true) (hb : (s.hp.map (·.1)).all (· < 1000) = true) : Ends true [.tmp t] (.iv x) [] s := by
 refine ⟨s.drops (s.hp.map (·.1)), [.iv x], c3t _ hb s, ?_, rfl, fun id => ?_, fun _ => ⟨hf, fun _ _ h => by cases h⟩⟩
 · simp [resV, a6F _ h]
 · refine a8F _ ?_
   cases hl : look s.hp id with
   | none => exact .inr rfl
   | some o => exact .inl (List.contains_iff_mem.1 (b5v hl))
theorem a0G {P : Program} {d : Nat} {f : FuncId} {ops : List Operand} {s : St} {K : St → AV → Prop} {args : List AV} {res : AV} (h : b1v P true f args [] res [])
   (ha : (((s.drop d).args [] ops []).map ((s.drop d).arg true [])) = args) (hr : args.all (AV.inns []) = true) (hk : K (s.drop d) res) : a1P P d f [] ops [] none s K := by
 refine b6Q ⟨s, Le.refl s, true, [], res, [], s.drop d, rfl, trivial, { spec := ?_, refs := ?_, sub := fun _ _ h => ?_, own := fun _ _ h => ?_, keep := fun _ _ h => ?_, new := fun _ _ h => ?_ }, hk⟩
 all_goals first | (rw [List.map_nil, ha]; assumption) | cases h
def a1G : Hp → Bool
 | [] => true
 | (i, _) :: r => decide (i < 1000) && a1G r
@[simp] theorem a2G : a1G [] = true := rfl
@[simp] theorem a3G {i : Nat} {o : Ob} {r : Hp} : a1G ((i, o) :: r) = (decide (i < 1000) && a1G r) := rfl
theorem a4G : ∀ {h : Hp}, a1G h = true → (h.map (·.1)).all (· < 1000) = true
 | [], _ => rfl
 | (i, _) :: r, h => by
   simp only [a1G, Bool.and_eq_true] at h
   simp only [List.map_cons, List.all_cons, Bool.and_eq_true]
   exact ⟨h.1, a4G h.2⟩
def a5G : Hp → List Nat → Bool
 | [], _ => true
 | (i, _) :: r, ks => ks.contains i && a5G r ks
@[simp] theorem a6G {ks : List Nat} : a5G [] ks = true := rfl
@[simp] theorem a7G {i : Nat} {o : Ob} {r : Hp} {ks : List Nat} : a5G ((i, o) :: r) ks = (ks.contains i && a5G r ks) := rfl
theorem a8G : ∀ {h l : Hp}, a5G h (l.map (·.1)) = true → c8t h l = true
 | [], _, _ => rfl
 | (i, _) :: r, l, h => by
   simp only [a5G, Bool.and_eq_true] at h
   have h2 := a8G h.2
   unfold c8t at h2 ⊢
   simp only [List.all_cons, Bool.and_eq_true]
   refine ⟨?_, h2⟩
   have := List.contains_iff_mem.1 h.1
   obtain ⟨q, hq, e⟩ := List.mem_map.1 this
   exact List.any_eq_true.2 ⟨q, hq, by simp [e]⟩
def a9G : Hp → List Nat
 | [] => []
 | (i, _) :: r => i :: a9G r
@[simp] theorem a0H : a9G [] = [] := rfl
@[simp] theorem a1H {i : Nat} {o : Ob} {r : Hp} : a9G ((i, o) :: r) = i :: a9G r := rfl
theorem a2H (h : Hp) : a9G h = h.map (·.1) := by
 induction h with
 | nil => rfl
 | cons p r ih => obtain ⟨i, o⟩ := p; simp [ih]
def End1 (t : Nat) (x : IV) (s : St) : Prop := s.get t = .iv x ∧ a1G s.hp = true
def End2 (t u : Nat) (x y : IV) (s : St) : Prop := s.get t = .iv x ∧ s.get u = .iv y ∧ a1G s.hp = true
def outs (r : St → Prop) : Outs := ⟨r, fun _ _ => False, r, fun _ _ => False⟩
theorem a3H {P : Program} {n : Nat} {c : VCode} {s : St} {r r' : St → Prop} (h : VC P n c s (outs r)) (hr : ∀ s, r s → r' s) : VC P n c s (outs r') :=
 h.mono hr (fun _ _ h => h) hr (fun _ _ h => h)
theorem a4H {P : Program} {f : FuncId} {args : List AV} {x : IV} {n t : Nat} {c : VCode} (hf : fnV P f = some (n, c, [.tmp t]))
   (hargs : args.length ≤ n) (hn : n ≤ 999) (hx : x.flat = true) (h : wpV P c ⟨c6j 0 args, []⟩ ⟨End1 t x, fun _ _ => False, End1 t x, fun _ _ => False⟩) : b1v P true f args [] (.iv x) [] :=
 d3a hf hargs rfl rfl (a3H (c3s hn _ _ _ h) fun _ h => a9F h.1 hx (a4G h.2))
def LeTo (D : List Nat) (s s' : St) : Prop := D.all (· < 1000) = true ∧ frLe (s.drops D) s'.fr ∧ hpLe (s.drops D).hp s'.hp ∧ a5G (s.drops D).hp (a9G s'.hp) = true
theorem LeTo.le {D : List Nat} {s s' : St} (h : LeTo D s s') : Le s s' := le_to D h.1 h.2.1 h.2.2.1 (a8G (by rw [← a2H]; exact h.2.2.2))
theorem a5H {P : Program} {c : VCode} {s : St} {O : Outs} (I : Nat → St → Prop) (hi : ∃ k s', Le s s' ∧ I k s')
   (hs : ∀ k s', I k s' → wpV P c s' { O with n := fun s2 => ∃ m s3, m < k ∧ Le s2 s3 ∧ I m s3 }) : a3P P c s O := ⟨I, by obtain ⟨k, s', h1, h2⟩ := hi; exact h1.x ⟨k, h2⟩, hs⟩
theorem a6H {P : Program} {c : VCode} {s : St} {O : Outs} (I : Nat → St → Prop) (hi : LeX s fun s' => ∃ k, I k s')
   (hs : ∀ k s', I k s' → wpV P c s' { O with n := fun s2 => ∃ m s3, m < k ∧ Le s2 s3 ∧ I m s3 }) : a3P P c s O := ⟨I, hi, hs⟩
theorem a7H {P : Program} {c : VCode} {s : St} {O : Outs} (D D' : List Nat) (n : Nat) (S : Nat → St) (Q : Nat → Prop) (h0 : LeTo D s (S 0)) (q0 : Q 0)
   (hs : ∀ i, i ≤ n → Q i → wpV P c (S i) { O with n := fun s2 => i < n ∧ LeTo D' s2 (S (i + 1)) ∧ Q (i + 1) }) : a3P P c s O := by
 refine ⟨fun k s => ∃ i, i ≤ n ∧ k = n - i ∧ s = S i ∧ Q i, h0.le.x ⟨_, 0, Nat.zero_le _, rfl, rfl, q0⟩, ?_⟩
 rintro k s' ⟨i, hi, rfl, rfl, hq⟩
 refine c0c c (O := { O with n := fun s2 => i < n ∧ LeTo D' s2 (S (i + 1)) ∧ Q (i + 1) }) (fun s2 h => ?_) (fun _ _ h => h) (fun _ h => h) (fun _ _ h => h) (hs i hi hq)
 obtain ⟨hlt, hle, hq'⟩ := h
 exact ⟨_, _, by omega, hle.le, i + 1, hlt, rfl, rfl, hq'⟩
@[simp] theorem a8H {s : St} : s.drops [] = s := rfl
@[simp] theorem a9H {s : St} {i : Nat} {D : List Nat} : s.drops (i :: D) = (s.drop i).drops D := rfl
@[simp] theorem frLe_nil {s : St} : frLe s [] ↔ True := ⟨fun h => h, fun h => h⟩
@[simp] theorem a0I {s : St} {t : Nat} {x : AV} {r : List (Nat × AV)} : frLe s ((t, x) :: r) ↔ s.get t = x ∧ frLe s r := ⟨fun h => h, fun h => h⟩
@[simp] theorem hpLe_nil {H : Hp} : hpLe H [] ↔ True := ⟨fun h => h, fun h => h⟩
@[simp] theorem a1I {H : Hp} {t : Nat} {x : Ob} {r : Hp} : hpLe H ((t, x) :: r) ↔ look H t = some x ∧ hpLe H r := ⟨fun h => h, fun h => h⟩
attribute [simp] End1 End2 LeTo
/-! ### Functions and calls that change what they are handed -/
def CapV.hi : CapV → Bool
 | .ptr id _ => decide (1000 ≤ id)
 | .val _ => true
def AV.hi : AV → Bool
 | .iv _ | .nil _ | .un | .junk => true
 | .sl id _ _ _ | .ptr id _ | .ep id _ _ _ | .mpr id => decide (1000 ≤ id)
 | .fn _ a b => a.all CapV.hi && b.all CapV.hi
 | .agg _ | .tup _ => false
def Ob.hi : Ob → Bool
 | .box cs => cs.all AV.hi
 | .gh _ _ cs => cs.all AV.hi
 | _ => true
@[simp] theorem ohi_gh {Z : GZ} {vs : List Value} {cs : List AV} : Ob.hi (.gh Z vs cs) = cs.all AV.hi := rfl
@[simp] theorem hi_iv {x : IV} : AV.hi (.iv x) = true := rfl
@[simp] theorem hi_nil {sz : Nat} : AV.hi (.nil sz) = true := rfl
@[simp] theorem hi_ptr {id off : Nat} : AV.hi (.ptr id off) = decide (1000 ≤ id) := rfl
@[simp] theorem hi_mpr {id : Nat} : AV.hi (.mpr id) = decide (1000 ≤ id) := rfl
@[simp] theorem hi_sl {id sz lo len : Nat} : AV.hi (.sl id sz lo len) = decide (1000 ≤ id) := rfl
@[simp] theorem hi_ivs {l : List IV} : (l.map AV.iv).all AV.hi = true := by simp
@[simp] theorem ohi_box {cs : List AV} : Ob.hi (.box cs) = cs.all AV.hi := rfl
@[simp] theorem ohi_list {sz : Nat} {xs : List (List IV)} : Ob.hi (.list sz xs) = true := rfl
@[simp] theorem ohi_map {sk g} : Ob.hi (.map sk g) = true := rfl
@[simp] theorem ohi_mapo {sk sz g h} : Ob.hi (.mapo sk sz g h) = true := rfl
theorem a2I {id : Nat} {o : Ob} (hid : id < 1000) {a : List CapV} (h : a.all CapV.hi = true) : a.map (CapV.fc id o) = a ∧ a.any (CapV.of (· == id)) = false := by
 induction a with
 | nil => exact ⟨rfl, rfl⟩
 | cons c a ih =>
   simp only [List.all_cons, Bool.and_eq_true] at h
   obtain ⟨i1, i2⟩ := ih h.2
   cases c with
   | ptr j off =>
     have hj : j ≠ id := by have := of_decide_eq_true h.1; omega
     refine ⟨?_, ?_⟩
     · simp only [List.map_cons, i1, CapV.fc, if_neg hj]
     · simp only [List.any_cons, i2, CapV.of, Bool.or_false, beq_eq_false_iff_ne]; exact hj
   | val x => exact ⟨by simp only [List.map_cons, i1, CapV.fc], by simp only [List.any_cons, i2, CapV.of, Bool.or_false]⟩
theorem a3I {id : Nat} {o : Ob} (hid : id < 1000) {x : AV} (h : x.hi = true) : gone id o x = x := by
 cases x with
 | agg _ => cases h
 | tup _ => cases h
 | fn f a b =>
   simp only [AV.hi, Bool.and_eq_true] at h
   obtain ⟨a1, a2⟩ := a2I (o := o) hid h.1
   obtain ⟨b1, b2⟩ := a2I (o := o) hid h.2
   simp only [gone, AV.fc, a1, b1, AV.kc, a2, b2, Bool.or_false, Bool.false_eq_true, if_false]
 | iv _ => rfl
 | nil _ => rfl
 | un => rfl
 | junk => rfl
 | _ =>
   have hj := of_decide_eq_true h
   simp only [gone, AV.fc, AV.kc]
   rw [if_neg (by omega)]
   simp only [AV.kc]
   rw [if_neg (by simp only [beq_iff_eq]; omega)]
theorem a4I {id : Nat} {o q : Ob} (hid : id < 1000) (h : q.hi = true) : q.mapc (gone id o) = q := by
 cases q with
 | box cs =>
   simp only [Ob.hi, List.all_eq_true] at h
   simp only [Ob.mapc]
   congr 1
   exact List.map_congr_left (fun x hx => a3I hid (h x hx)) |>.trans (List.map_id _)
 | gh Z vs cs =>
   simp only [Ob.hi, List.all_eq_true] at h
   simp only [Ob.mapc]
   congr 1
   refine (List.map_congr_left fun x hx => ?_).trans (List.map_id _)
   have hx' := h x hx
   have : AV.mapc (gone id o) x = gone id o x := by cases x <;> first | rfl | cases hx'
   rw [this]; exact a3I hid hx'
 | _ => rfl
theorem a5I {s : St} {id k : Nat} {q : Ob} (hid : id < 1000) (hk : 1000 ≤ k) (hq : q.hi = true) (h : look s.hp k = some q) : look (s.drop id).hp k = some q := by
 unfold St.drop
 split
 · exact h
 · simp only [b8N, c2z, h, Option.map_some]
   rw [if_neg (by omega)]
   exact congrArg some (a4I hid hq)
theorem a6I (D : List Nat) (hD : D.all (· < 1000) = true) : ∀ {s : St} {k : Nat} {q : Ob}, 1000 ≤ k → q.hi = true → look s.hp k = some q → look (s.drops D).hp k = some q := by
 induction D with
 | nil => intro s k q _ _ h; exact h
 | cons i D ih =>
   intro s k q hk hq h
   simp only [List.all_cons, Bool.and_eq_true, decide_eq_true_eq] at hD
   exact ih hD.2 hk hq (a5I hD.1 hk hq h)
def hiH : Hp → Bool
 | [] => true
 | (i, o) :: r => decide (1000 ≤ i) && o.hi && hiH r
@[simp] theorem hiH_nil : hiH [] = true := rfl
@[simp] theorem hiH_cons {i : Nat} {o : Ob} {r : Hp} : hiH ((i, o) :: r) = (decide (1000 ≤ i) && o.hi && hiH r) := rfl
def ownH : Hp → List Nat → Bool
 | [], _ => true
 | (i, _) :: r, ks => (decide (i < 1000) || ks.contains i) && ownH r ks
@[simp] theorem ownH_nil {ks : List Nat} : ownH [] ks = true := rfl
@[simp] theorem a7I {i : Nat} {o : Ob} {r : Hp} {ks : List Nat} : ownH ((i, o) :: r) ks = ((decide (i < 1000) || ks.contains i) && ownH r ks) := rfl
theorem a8I {α : Type} {H : List (Nat × α)} {id : Nat} {o : α} (h : look H id = some o) : id ∈ H.map (·.1) := List.contains_iff_mem.1 (b5v h)
theorem a9I {s : St} {H' : Hp} (h1 : hpLe s.hp H') (h2 : ownH s.hp (a9G H') = true) (h3 : hiH H' = true) :
   ∃ D : List Nat, D.all (· < 1000) = true ∧ ∀ id, look (s.drops D).hp id = look H' id := by
 have hall : ((s.hp.map (·.1)).filter (· < 1000)).all (· < 1000) = true := by simp
 have hhi : ∀ {H : Hp}, hiH H = true → ∀ id o, look H id = some o → 1000 ≤ id ∧ o.hi = true := by
   intro H
   induction H with
   | nil => intro _ id o h; cases h
   | cons p r ih =>
     obtain ⟨i, q⟩ := p
     intro h id o ho
     simp only [hiH, Bool.and_eq_true, decide_eq_true_eq] at h
     simp only [look] at ho
     split at ho
     · rename_i e; subst e; cases ho; exact h.1
     · exact ih h.2 id o ho
 have hown : ∀ {H : Hp} {ks : List Nat}, ownH H ks = true → ∀ id o, look H id = some o → id < 1000 ∨ id ∈ ks := by
   intro H ks
   induction H with
   | nil => intro _ id o h; cases h
   | cons p r ih =>
     obtain ⟨i, q⟩ := p
     intro h id o ho
     simp only [ownH, Bool.and_eq_true, Bool.or_eq_true, decide_eq_true_eq] at h
     simp only [look] at ho
     split at ho
     · rename_i e; subst e
       rcases h.1 with g | g
       · exact .inl g
       · exact .inr (List.contains_iff_mem.1 g)
     · exact ih h.2 id o ho
 refine ⟨(s.hp.map (·.1)).filter (· < 1000), hall, fun id => ?_⟩
 cases hl : look H' id with
 | some o =>
   obtain ⟨g1, g2⟩ := hhi h3 id o hl
   exact a6I _ hall g1 g2 (c7t h1 _ (d1a hl))
 | none =>
   refine a8F _ ?_
   cases hs : look s.hp id with
   | none => exact .inr rfl
   | some o =>
     left
     rcases hown h2 id o hs with g | g
     · exact List.mem_filter.2 ⟨a8I hs, by simpa using g⟩
     · rw [a2H] at g
       obtain ⟨q, hq⟩ := d0a g
       rw [hl] at hq; cases hq
def EndM (H' : Hp) (s : St) : Prop := hpLe s.hp H' ∧ ownH s.hp (a9G H') = true ∧ hiH H' = true
def EndM1 (t : Nat) (x : IV) (H' : Hp) (s : St) : Prop := s.get t = .iv x ∧ EndM H' s
attribute [simp] EndM EndM1
theorem a0J {P : Program} {f : FuncId} {args : List AV} {H H' : Hp} {n : Nat} {c : VCode} (hf : fnV P f = some (n, c, []))
   (hargs : args.length ≤ n) (hn : n ≤ 999) (hbig : (H.map (·.1)).all (1000 ≤ ·) = true) (hlent : ((H ++ H').all fun p => !p.2.isLent) = true)
   (h : wpV P c ⟨c6j 0 args, H⟩ ⟨EndM H', fun _ _ => False, EndM H', fun _ _ => False⟩) : b1v P false f args H (.tup []) H' :=
 d3a hf hargs hbig hlent (a3H (c3s hn _ _ _ h) fun s h => by
   obtain ⟨D, g1, g2⟩ := a9I h.1 h.2.1 h.2.2
   exact ⟨s.drops D, [], c3t D g1 s, rfl, rfl, g2, fun h => by cases h⟩)
theorem a1J {P : Program} {f : FuncId} {args : List AV} {H H' : Hp} {n t : Nat} {x : IV} {c : VCode} (hf : fnV P f = some (n, c, [.tmp t]))
   (hargs : args.length ≤ n) (hn : n ≤ 999) (hbig : (H.map (·.1)).all (1000 ≤ ·) = true) (hlent : ((H ++ H').all fun p => !p.2.isLent) = true)
   (h : wpV P c ⟨c6j 0 args, H⟩ ⟨EndM1 t x H', fun _ _ => False, EndM1 t x H', fun _ _ => False⟩) : b1v P false f args H (.iv x) H' :=
 d3a hf hargs hbig hlent (a3H (c3s hn _ _ _ h) fun s h => by
   obtain ⟨D, g1, g2⟩ := a9I h.2.1 h.2.2.1 h.2.2.2
   exact ⟨s.drops D, [.iv x], c3t D g1 s, by simp [resV, a6F _ h.1], rfl, g2, fun h => by cases h⟩)
def a2J : Hp → Hp → Prop
 | [], _ => True
 | (id, o) :: r, H' => (∃ o', look H' id = some o' ∧ o.le o') ∧ a2J r H'
@[simp] theorem a3J {H' : Hp} : a2J [] H' ↔ True := ⟨fun h => h, fun h => h⟩
@[simp] theorem a4J {id : Nat} {o : Ob} {r H' : Hp} : a2J ((id, o) :: r) H' ↔ (∃ o', look H' id = some o' ∧ o.le o') ∧ a2J r H' := ⟨fun h => h, fun h => h⟩
@[simp] theorem le_box {cs : List AV} {o : Ob} : (Ob.box cs).le o := Ob.le_none rfl
@[simp] theorem le_gh {Z : GZ} {vs : List Value} {cs : List AV} {o : Ob} : (Ob.gh Z vs cs).le o := Ob.le_none rfl
@[simp] theorem le_map {sk g} {o : Ob} : (Ob.map sk g).le o := Ob.le_none rfl
@[simp] theorem le_mapo' {sk sz g h} {o : Ob} : (Ob.mapo sk sz g h).le o := Ob.le_none rfl
theorem a5J : ∀ {H H' : Hp}, a2J H H' → ∀ id o, look H id = some o → ∃ o', look H' id = some o' ∧ o.le o'
 | [], _, _, id, o, h => by cases h
 | (i, q) :: r, H', h, id, o, ho => by
   simp only [look] at ho
   split at ho
   · rename_i e; subst e; cases ho; exact h.1
   · exact a5J h.2 id o ho
theorem a6J : ∀ {H : Hp} {ks : List Nat}, a5G H ks = true → ∀ id o, look H id = some o → id ∈ ks
 | [], _, _, id, o, h => by cases h
 | (i, q) :: r, ks, h, id, o, ho => by
   simp only [a5G, Bool.and_eq_true] at h
   simp only [look] at ho
   split at ho
   · rename_i e; subst e; exact List.contains_iff_mem.1 h.1
   · exact a6J h.2 id o ho
def a7J : Hp → List Nat → Bool
 | [], _ => true
 | (_, o) :: r, ks => o.inns ks && a7J r ks
@[simp] theorem a8J {ks : List Nat} : a7J [] ks = true := rfl
@[simp] theorem a9J {i : Nat} {o : Ob} {r : Hp} {ks : List Nat} : a7J ((i, o) :: r) ks = (o.inns ks && a7J r ks) := rfl
@[simp] theorem inns_box {ks : List Nat} {cs : List AV} : Ob.inns ks (.box cs) = cs.all (AV.inn ks) := rfl
@[simp] theorem a0K {ks : List Nat} {sz : Nat} {xs : List (List IV)} : Ob.inns ks (.list sz xs) = true := rfl
@[simp] theorem inns_map {ks : List Nat} {sk g} : Ob.inns ks (.map sk g) = true := rfl
@[simp] theorem a1K {ks : List Nat} {sk sz g h} : Ob.inns ks (.mapo sk sz g h) = true := rfl
theorem a2K : ∀ {H : Hp} {ks : List Nat}, a7J H ks = true → ∀ id o, look H id = some o → o.inns ks = true
 | [], _, _, id, o, h => by cases h
 | (i, q) :: r, ks, h, id, o, ho => by
   simp only [a7J, Bool.and_eq_true] at h
   simp only [look] at ho
   split at ho
   · cases ho; exact h.1
   · exact a2K h.2 id o ho
theorem a3K {P : Program} {d : Nat} {f : FuncId} {pre post : List CapV} {ops : List Operand} {y : Option Operand} {s s1 : St} {K : St → AV → Prop} {args : List AV} {res : AV} {H H' : Hp}
   (h : b1v P false f args H res H') (hs1 : (s.frz ((s.args pre ops post).filter fun x => !x.inns (a9G H))).drop d = s1)
   (hy : ∀ z, y = some z → s1.ev z = .fn f pre post) (ha : (s1.args pre ops post).map (s1.arg false (a9G H)) = args) (hr : args.all (AV.inns (a9G H)) = true)
   (hs : hpLe s1.hp H) (ho : a7J H (a9G H) = true) (hkp : a2J H H') (hn : a5G H' (a9G H) = true) (hk : K (s1.join H') res) : a1P P d f pre ops post y s K := by
 rw [a2H] at *
 refine b6Q ⟨s, Le.refl s, false, H, res, H', s1, hs1.symm, ?_, { spec := ?_, refs := ?_, sub := fun id o h => c7t hs _ (d1a h), own := a2K ho, keep := a5J hkp, new := fun id o h1 h2 => ?_ }, hk⟩
 · cases y with
   | none => trivial
   | some z => exact hy z rfl
 · rw [ha]; exact h
 · rw [ha]; exact hr
 · have := a6J hn id o h1
   obtain ⟨o', h'⟩ := d0a this
   rw [h2] at h'; cases h'
theorem a4K {P : Program} {d : Nat} {f : FuncId} {pre post : List CapV} {ops : List Operand} {z : Operand} {s : St} {K : St → AV → Prop} {args : List AV} {res : AV} (h : b1v P true f args [] res [])
   (hy : (s.drop d).ev z = .fn f pre post) (ha : (((s.drop d).args pre ops post).map ((s.drop d).arg true [])) = args) (hr : args.all (AV.inns []) = true) (hk : K (s.drop d) res) : a1P P d f pre ops post (some z) s K := by
 refine b6Q ⟨s, Le.refl s, true, [], res, [], s.drop d, rfl, hy, { spec := ?_, refs := ?_, sub := fun _ _ h => ?_, own := fun _ _ h => ?_, keep := fun _ _ h => ?_, new := fun _ _ h => ?_ }, hk⟩
 all_goals first | (rw [List.map_nil, ha]; assumption) | cases h
@[simp] theorem kc_comp {p : Nat → Bool} : AV.kc p ∘ AV.iv = AV.iv := funext fun _ => by simp
@[simp] theorem a5K {id : Nat} {o : Ob} : gone id o ∘ AV.iv = AV.iv := funext fun _ => by simp
end Go.Vm
end

section
namespace Go.Rt
open Go.Vm
abbrev ci (i : Int) : IV := .v (.int .i64 i)
abbrev cb (b : Bool) : IV := .v (.bool b)
abbrev vi (i : Int) : AV := .iv (ci i)
abbrev vb (b : Bool) : AV := .iv (cb b)
noncomputable def ofP (p : Prop) : Bool := @decide p (Classical.propDecidable p)
@[simp] theorem c2Y {p : Prop} : ofP p = true ↔ p := by unfold ofP; exact @decide_eq_true_iff p (Classical.propDecidable p)
@[simp] theorem c3Y {p : Prop} : ofP p = false ↔ ¬p := by unfold ofP; exact @decide_eq_false_iff_not p (Classical.propDecidable p)
theorem c4Y {p : Prop} {b : Bool} : b = ofP p ↔ (b = true ↔ p) := by
 rw [Bool.eq_iff_iff, c2Y]
@[simp] theorem c5Y {p : Prop} : true = ofP p ↔ p := by rw [eq_comm, c2Y]
@[simp] theorem c6Y {p : Prop} : false = ofP p ↔ ¬p := by rw [eq_comm, c3Y]
def Upto (n : Nat) (p : Nat → Prop) : Prop := ∀ j, j < n → p j
@[simp] theorem c7Y {p : Nat → Prop} : Upto 0 p := fun _ h => absurd h (Nat.not_lt_zero _)
theorem Upto.succ {n : Nat} {p : Nat → Prop} (h : Upto n p) (hp : p n) : Upto (n + 1) p := fun j hj => by
 rcases Nat.lt_or_ge j n with h1 | h1
 · exact h j h1
 · have : j = n := by omega
   subst this; exact hp
theorem c8Y {α : Type} {l : List α} {i : Nat} (h : i < l.length) : ∃ x, l[i]? = some x := ⟨_, List.getElem?_eq_getElem h⟩
theorem c9Y {n : Int} (h : -(2 ^ 63) ≤ n ∧ n < 2 ^ 63) : IntKind.i64.wrap n = n := by rw [IntKind.wrap_i64]; omega
@[ext] structure Vl where
 text : Bool
 n : Int
 s : ByteArray
@[simp] def Vl.cells (v : Vl) : List IV := [cb v.text, ci v.n, .v (.string v.s)]
def Vl.zero : Vl := ⟨false, 0, ⟨#[]⟩⟩
abbrev Vl.av (v : Vl) : AV := .agg (v.cells.map .iv)
@[simp] theorem Vl.eta (v : Vl) : Vl.mk v.text v.n v.s = v := rfl
@[simp] theorem Vl.mk_text (t : Bool) (n : Int) (s : ByteArray) : (Vl.mk t n s).text = t := rfl
@[simp] theorem Vl.mk_n (t : Bool) (n : Int) (s : ByteArray) : (Vl.mk t n s).n = n := rfl
@[simp] theorem Vl.mk_s (t : Bool) (n : Int) (s : ByteArray) : (Vl.mk t n s).s = s := rfl
abbrev Tb := List Bool
def c0Z (l : List Bool) : List (List IV) := l.map fun b => [cb b]
def tbIV (t : Tb) : IV := .lst 1 (c0Z t)
def tbAV (t : Tb) : AV := .agg [.iv (tbIV t)]
def c1Z (l : List Int) : List (List IV) := l.map fun i => [ci i]
def c2Z (l : List Int) : IV := .lst 1 (c1Z l)
def c3Z (r : List Vl) : IV := .lst 3 (r.map Vl.cells)
@[simp] theorem c4Z (l : List Bool) : (c0Z l).length = l.length := by simp [c0Z]
@[simp] theorem c5Z (l : List Bool) (i : Nat) : (c0Z l)[i]? = (l[i]?).map fun b => [cb b] := by simp [c0Z]
@[simp] theorem c6Z (l : List Int) : (c1Z l).length = l.length := by simp [c1Z]
@[simp] theorem c7Z (l : List Int) (i : Nat) : (c1Z l)[i]? = (l[i]?).map fun b => [ci b] := by simp [c1Z]
inductive Pd where
 | mk (op col : Int) (v w : Vl) (l : List Pd)
def Pd.op : Pd → Int
 | .mk o _ _ _ _ => o
def Pd.col : Pd → Int
 | .mk _ c _ _ _ => c
def Pd.v : Pd → Vl
 | .mk _ _ v _ _ => v
def Pd.w : Pd → Vl
 | .mk _ _ _ w _ => w
def Pd.l : Pd → List Pd
 | .mk _ _ _ _ l => l
mutual
def Pd.cells : Pd → List IV
 | .mk o c v w l => [ci o, ci c, cb v.text, ci v.n, .v (.string v.s), cb w.text, ci w.n, .v (.string w.s), .lst 9 (Pd.cellsL l)]
def Pd.cellsL : List Pd → List (List IV)
 | [] => []
 | p :: r => p.cells :: Pd.cellsL r
end
theorem Pd.cellsL_map : ∀ l : List Pd, Pd.cellsL l = l.map Pd.cells
 | [] => by simp [Pd.cellsL]
 | p :: r => by simp [Pd.cellsL, Pd.cellsL_map r]
theorem Pd.cells_eq (p : Pd) : p.cells = [ci p.op, ci p.col, cb p.v.text, ci p.v.n, .v (.string p.v.s), cb p.w.text, ci p.w.n, .v (.string p.w.s), .lst 9 (p.l.map Pd.cells)] := by
 cases p with | mk o c v w l => rw [Pd.cells, Pd.cellsL_map]; rfl
def Pd.av (p : Pd) : AV := .agg (p.cells.map .iv)
theorem Pd.av_eq (p : Pd) : p.av = .agg [.iv (ci p.op), .iv (ci p.col), .iv (cb p.v.text), .iv (ci p.v.n), .iv (.v (.string p.v.s)), .iv (cb p.w.text), .iv (ci p.w.n), .iv (.v (.string p.w.s)), .iv (.lst 9 (p.l.map Pd.cells))] := by
 unfold Pd.av; rw [Pd.cells_eq]; rfl
inductive Pd.Ok : Pd → Prop where
 | mk (p : Pd) (h : p.l.length < 2 ^ 63) (hv : p.v.s.size < 2 ^ 63) (hw : p.w.s.size < 2 ^ 63) (hl : ∀ q, q ∈ p.l → q.Ok) : p.Ok
mutual
def Pd.size : Pd → Int
 | .mk _ _ _ _ l => 1 + Pd.sizes l
def Pd.sizes : List Pd → Int
 | [] => 0
 | p :: r => p.size + Pd.sizes r
end
theorem Pd.size_eq (p : Pd) : p.size = 1 + Pd.sizes p.l := by cases p; rw [Pd.size]; rfl
@[simp] theorem Pd.sizes_nil : Pd.sizes [] = 0 := by rw [Pd.sizes]
theorem Pd.sizes_take {l : List Pd} {i : Nat} {p : Pd} (h : l[i]? = some p) : Pd.sizes (l.take (i + 1)) = Pd.sizes (l.take i) + p.size := by
 induction l generalizing i with
 | nil => cases h
 | cons q r ih =>
   cases i with
   | zero => simp only [List.getElem?_cons_zero, Option.some.injEq] at h; subst h; simp [Pd.sizes]
   | succ i =>
     simp only [List.getElem?_cons_succ] at h
     simp only [List.take_succ_cons, Pd.sizes, ih h]
     omega
theorem c8Z (a b : Int) : IntKind.i64.wrap (IntKind.i64.wrap a + IntKind.i64.wrap b) = IntKind.i64.wrap (a + b) := by
 simp only [IntKind.wrap_i64]; omega
theorem c9Z (a b : Int) : IntKind.i64.wrap (IntKind.i64.wrap a + b) = IntKind.i64.wrap (a + b) := by
 simp only [IntKind.wrap_i64]; omega
end Go.Rt
end

section
namespace Go.Rt
open Go.Vm
def Vl.right (v : Vl) : Bool := if v.text then decide (v.n = 0) && decide (v.s.size ≤ 12) else decide (v.s = ⟨#[]⟩)
theorem d5b (v : Vl) : b1v prog true n_a4h [v.av] [] (vb v.right) [] := by
 refine a4H a4h_is (by simp) (by decide) rfl ?_
 simp -dsimp [a4h, Vl.right]
 grind
def TbOk (t : Tb) : Prop := 1 ≤ t.length ∧ t.length ≤ 4
noncomputable def d6b (t : Tb) : Int := if ofP (TbOk t) = true then 0 else 1
@[simp] theorem d7b (t : Tb) : (d6b t != 0) = !ofP (TbOk t) := by
 unfold d6b; cases ofP (TbOk t) <;> rfl
@[simp] theorem d8b (t : Tb) : (d6b t == 0) = ofP (TbOk t) := by
 unfold d6b; cases ofP (TbOk t) <;> rfl
theorem d9b {t : Tb} (h : TbOk t) : d6b t = 0 := by unfold d6b; rw [if_pos (c2Y.2 h)]
theorem d0c {t : Tb} (h : ¬TbOk t) : d6b t = 1 := by unfold d6b; rw [if_neg (by simpa using h)]
theorem d1c (t : Tb) : b1v prog true n_a2e [tbAV t] [] (vi (d6b t)) [] := by
 refine a4H a2e_is (by simp) (by decide) rfl ?_
 by_cases h : TbOk t
 · have h' := h
   unfold TbOk at h'
   simp -dsimp [a2e, tbAV, tbIV, d9b h]
   omega
 · have h' := h
   unfold TbOk at h'
   simp -dsimp [a2e, tbAV, tbIV, d0c h]
   omega
def d2c (t : Tb) (r : List Vl) (i : Nat) : Prop := ∀ (v : Vl) (c : Bool), r[i]? = some v → t[i]? = some c → v.text = c ∧ v.right = true
def Fits (t : Tb) (r : List Vl) : Prop := TbOk t ∧ r.length = t.length ∧ Upto r.length (d2c t r)
theorem d3c {t : Tb} {r : List Vl} {i : Nat} {v : Vl} {c : Bool} (hv : r[i]? = some v) (hc : t[i]? = some c) (h : ¬(v.text = c ∧ v.right = true)) : ¬Fits t r :=
 fun hf => h (hf.2.2 i (List.getElem?_eq_some_iff.1 hv).1 v c hv hc)
theorem d4c {t : Tb} {r : List Vl} {i : Nat} {v : Vl} {c : Bool} (hv : r[i]? = some v) (hc : t[i]? = some c) (h : v.text = c ∧ v.right = true) : d2c t r i := by
 intro v' c' h1 h2; rw [hv] at h1; rw [hc] at h2; cases h1; cases h2; exact h
theorem d5c (t : Tb) (r : List Vl) : b1v prog true n_a3g [tbAV t, .iv (c3Z r)] [] (vb (ofP (Fits t r))) [] := by
 refine a4H a3g_is (by simp) (by decide) rfl ?_
 simp -dsimp [a3g, tbAV]
 refine a0G (d1c t) (by simp [tbAV]) rfl ?_
 simp -dsimp [tbIV, c3Z, -List.length_eq_zero_iff]
 refine ⟨fun h1 => ⟨fun h3 h => by have := h.2.1; omega, fun h3 => ?_⟩, fun h h' => h h'.1⟩
 refine a7H [] [6] r.length (fun i => ⟨[(20, vi i), (19, vi r.length), (18, .iv (.lst 3 (r.map Vl.cells))), (2, .ptr 2 0)], [(2, .box [.iv (.lst 1 (c0Z t))])]⟩)
   (fun i => Upto i (d2c t r)) ?_ ?_ ?_
 · simp -dsimp
 · simp -dsimp
 · intro i hi hq
   simp -dsimp [a3g_l9]
   refine ⟨fun hlt => ?_, fun hge => ?_⟩
   · obtain ⟨v, hv⟩ := c8Y hlt
     obtain ⟨c, hc⟩ : ∃ c, t[i]? = some c := c8Y (by omega)
     simp -dsimp [hv, hc]
     refine ⟨fun e => a0G (d5b v) (by simp) rfl ?_, fun e => d3c hv hc fun h => e h.1⟩
     simp -dsimp
     have h2 := h1.2
     exact ⟨fun e2 => d3c hv hc (by simp [e2]), fun e2 => ⟨hlt, c9Y (by omega), hq.succ (d4c hv hc ⟨e, e2⟩)⟩⟩
   · exact ⟨h1, by omega, fun j hj => hq j (by omega)⟩
end Go.Rt
end

section
namespace Go.Rt
open Go.Vm
def icmp (a b : Int) : Int := if a < b then -1 else if b < a then 1 else 0
def scmp (a b : ByteArray) : Int := if b6Z a b = true then -1 else if a = b then 0 else 1
def Vl.cmp (a b : Vl) : Int := if a.text = true then (if b.text = true then scmp a.s b.s else 1) else if b.text = true then -1 else icmp a.n b.n
theorem b7m (a : ByteArray) : b1v prog true n_a8g [.iv (.v (.string a))] [] (vb false) [] := by
 refine a4H a8g_is (by simp) (by decide) rfl ?_
 simp -dsimp [a9g_string]
theorem b8m (a : Int) : b1v prog true n_a0h [vi a] [] (vb false) [] := by
 refine a4H a0h_is (by simp) (by decide) rfl ?_
 simp -dsimp [a9g_int64]
theorem b9m (a : ByteArray) : b6Z a a = false := by
 unfold b6Z
 generalize a.toList = x
 induction x with
 | nil => rfl
 | cons c x ih => simp [Op.bytesLess, ih]
theorem cmpS (a b : ByteArray) : b1v prog true n_a0f [.iv (.v (.string a)), .iv (.v (.string b))] [] (vi (scmp a b)) [] := by
 refine a4H a0f_is (by simp) (by decide) rfl ?_
 simp -dsimp [a1f_string]
 refine a0G (b7m a) (by simp) rfl ?_
 simp -dsimp
 refine a0G (b7m b) (by simp) rfl ?_
 simp -dsimp [scmp]
 grind
theorem cmpI (a b : Int) : b1v prog true n_a2f [vi a, vi b] [] (vi (icmp a b)) [] := by
 refine a4H a2f_is (by simp) (by decide) rfl ?_
 simp -dsimp [a1f_int64]
 refine a0G (b8m a) (by simp) rfl ?_
 simp -dsimp
 refine a0G (b8m b) (by simp) rfl ?_
 simp -dsimp [icmp]
 grind
theorem b0n (a b : Vl) : b1v prog true n_a6c [a.av, b.av] [] (vi (a.cmp b)) [] := by
 refine a4H a6c_is (by simp) (by decide) rfl ?_
 cases ha : a.text <;> cases hb : b.text <;> simp -dsimp [a6c, ha, hb, Vl.cmp]
 · exact a0G (cmpI a.n b.n) (by simp) rfl (by simp)
 · exact a0G (cmpS a.s b.s) (by simp) rfl (by simp)
theorem b1n : ∀ (p x y : List UInt8), Op.bytesLess (p ++ x) (p ++ y) = Op.bytesLess x y
 | [], x, y => rfl
 | c :: p, x, y => by simp [Op.bytesLess, b1n p x y]
theorem b2n (a : ByteArray) : a.toList = a.data.toList := by simp [ByteArray.toList_eq]
def b3n (a b : ByteArray) (i : Nat) : Prop := i ≤ a.size ∧ i ≤ b.size ∧ ∀ j, j < i → a[j]? = b[j]?
theorem b4n (a : ByteArray) (i : Nat) : a[i]? = a.data.toList[i]? := by
 simp only [Array.getElem?_toList]
 rfl
theorem b3n.split {a b : ByteArray} {i : Nat} (h : b3n a b i) : ∃ p, a.toList = p ++ a.data.toList.drop i ∧ b.toList = p ++ b.data.toList.drop i := by
 refine ⟨a.data.toList.take i, by rw [b2n, List.take_append_drop], ?_⟩
 have : a.data.toList.take i = b.data.toList.take i := by
   apply List.ext_getElem?
   intro j
   simp only [List.getElem?_take]
   split
   · rename_i hj; rw [← b4n, ← b4n]; exact h.2.2 j hj
   · rfl
 rw [this, b2n, List.take_append_drop]
theorem b5n {l : List UInt8} {i : Nat} {c : UInt8} (h : l[i]? = some c) : l.drop i = c :: l.drop (i + 1) := by
 have hi := (List.getElem?_eq_some_iff.1 h).1
 rw [List.drop_eq_getElem_cons hi, (List.getElem?_eq_some_iff.1 h).2]
theorem b3n.lt {a b : ByteArray} {i : Nat} (h : b3n a b i) {c d : UInt8} (h1 : a[i]? = some c) (h2 : b[i]? = some d) (hcd : c < d) : scmp a b = -1 := by
 obtain ⟨p, e1, e2⟩ := h.split
 rw [b4n] at h1 h2
 have : b6Z a b = true := by
   unfold b6Z
   rw [e1, e2, b1n, b5n h1, b5n h2]
   simp -dsimp [Op.bytesLess, hcd]
 simp -dsimp [scmp, this]
theorem b3n.gt {a b : ByteArray} {i : Nat} (h : b3n a b i) {c d : UInt8} (h1 : a[i]? = some c) (h2 : b[i]? = some d) (hcd : d < c) : scmp a b = 1 := by
 obtain ⟨p, e1, e2⟩ := h.split
 have hne : a ≠ b := by
   rintro rfl
   rw [h1] at h2
   cases h2
   exact absurd hcd (by simp)
 rw [b4n] at h1 h2
 have : b6Z a b = false := by
   unfold b6Z
   rw [e1, e2, b1n, b5n h1, b5n h2]
   have : ¬ c < d := by
     have := UInt8.lt_iff_toNat_lt.1 hcd
     rw [UInt8.lt_iff_toNat_lt]; omega
   have h3 : ¬ c = d := by rintro rfl; exact absurd hcd (by simp)
   simp -dsimp [Op.bytesLess, this, h3]
 simp -dsimp [scmp, this, hne]
theorem b6n (a : ByteArray) : a.size = a.data.toList.length := by rw [Array.length_toList]; rfl
theorem b3n.endA {a b : ByteArray} (h : b3n a b a.size) (hl : a.size < b.size) : scmp a b = -1 := by
 obtain ⟨p, e1, e2⟩ := h.split
 have : b6Z a b = true := by
   unfold b6Z
   rw [e1, e2, b1n]
   rw [b6n] at hl ⊢
   simp only [List.drop_length]
   rw [b6n] at hl
   cases hd : b.data.toList.drop a.data.toList.length with
   | nil => have := congrArg List.length hd; simp at this; simp at hl; omega
   | cons x y => rfl
 simp -dsimp [scmp, this]
theorem b3n.endB {a b : ByteArray} (h : b3n a b b.size) (hl : b.size < a.size) : scmp a b = 1 := by
 obtain ⟨p, e1, e2⟩ := h.split
 have hne : a ≠ b := by rintro rfl; omega
 have : b6Z a b = false := by
   unfold b6Z
   rw [e1, e2, b1n]
   rw [b6n]
   simp only [List.drop_length]
   cases (a.data.toList.drop b.data.toList.length) <;> rfl
 simp -dsimp [scmp, this, hne]
theorem b3n.endE {a b : ByteArray} (h : b3n a b a.size) (hl : b.size = a.size) : scmp a b = 0 := by
 obtain ⟨p, e1, e2⟩ := h.split
 have : a = b := by
   have e : a.data.toList = b.data.toList := by
     rw [← b2n, ← b2n, e1, e2]
     congr 1
     rw [b6n]
     rw [b6n, b6n] at hl
     rw [List.drop_length, ← hl, List.drop_length]
   cases a; cases b
   simp only at e
   congr 1
   exact Array.toList_inj.1 e
 subst this
 simp -dsimp [scmp, b9m]
theorem b7n (a b : Vl) (hla : a.s.size < 2 ^ 63) : b1v prog true n_a3f [a.av, b.av] [] (vi (a.cmp b)) [] := by
 refine a4H a3f_is (by simp) (by decide) rfl ?_
 cases ha : a.text <;> cases hb : b.text <;> simp -dsimp [a3f, ha, hb, Vl.cmp]
 · simp -dsimp [icmp]; grind
 · refine a7H [] [] (min a.s.size b.s.size) (fun i => ⟨[(5, vi i), (2, .ptr 2 0), (3, .ptr 3 0)], [(3, .box [.iv (cb true), .iv (ci b.n), .iv (.v (.string b.s))]), (2, .box [.iv (cb true), .iv (ci a.n), .iv (.v (.string a.s))])]⟩)
     (fun i => b3n a.s b.s i) ?_ ?_ ?_
   · simp -dsimp
   · exact ⟨Nat.zero_le _, Nat.zero_le _, fun j hj => absurd hj (Nat.not_lt_zero _)⟩
   · intro i hi hq
     simp -dsimp [a3f_l18]
     have hE : ∀ h : a.s.size ≤ i ∨ b.s.size ≤ i, (a.s.size < b.s.size → -1 = scmp a.s b.s) ∧
           (b.s.size ≤ a.s.size → (b.s.size < a.s.size → 1 = scmp a.s b.s) ∧ (a.s.size ≤ b.s.size → 0 = scmp a.s b.s)) := by
       intro h
       have h1 := hq.1
       have h2 := hq.2.1
       refine ⟨fun g => ?_, fun g => ⟨fun g2 => ?_, fun g2 => ?_⟩⟩
       · have e : i = a.s.size := by omega
         subst e; exact hq.endA g |>.symm
       · have e : i = b.s.size := by omega
         subst e; exact hq.endB g2 |>.symm
       · have e : i = a.s.size := by omega
         subst e; exact (hq.endE (by omega)).symm
     refine ⟨fun h1 => ⟨fun h2 => ?_, fun h2 => hE (.inr h2)⟩, fun h => hE (.inl h)⟩
     obtain ⟨c, hc⟩ : ∃ c, a.s[i]? = some c := ⟨_, getElem?_pos a.s i h1⟩
     obtain ⟨d, hd⟩ : ∃ c, b.s[i]? = some c := ⟨_, getElem?_pos b.s i h2⟩
     simp -dsimp [hc, hd]
     refine ⟨fun g => (hq.lt hc hd (UInt8.lt_iff_toNat_lt.2 g)).symm, fun g => ⟨fun g2 => (hq.gt hc hd (UInt8.lt_iff_toNat_lt.2 g2)).symm, fun g2 => ⟨by omega, c9Y (by omega), by omega, by omega, fun j hj => ?_⟩⟩⟩
     by_cases e : j = i
     · subst e; rw [hc, hd]; congr 1; exact UInt8.toNat_inj.1 (by omega)
     · exact hq.2.2 j (by omega)
end Go.Rt
end

section
namespace Go.Rt
open Go.Vm
def Pd.box (p : Pd) : Ob := .box [.iv (ci p.op), .iv (ci p.col), .iv (cb p.v.text), .iv (ci p.v.n), .iv (.v (.string p.v.s)), .iv (cb p.w.text), .iv (ci p.w.n), .iv (.v (.string p.w.s)), .iv (.lst 9 (p.l.map Pd.cells))]
theorem b3t {p : Pd} (h : p.Ok) : b1v prog true n_a8b [p.av] [] (vi (IntKind.i64.wrap p.size)) [] := by
 induction h with
 | mk p hl _ _ hq ih =>
 refine a4H a8b_is (by simp) (by decide) rfl ?_
 simp -dsimp [a8b, Pd.av_eq]
 refine a7H [] [] p.l.length (fun i => ⟨[(4, vi i), (3, vi (IntKind.i64.wrap (1 + Pd.sizes (p.l.take i)))), (1, .ptr 1 0)], [(1, p.box)]⟩)
     (fun _ => True) ?_ trivial ?_
 · simp -dsimp [Pd.box]; rfl
 · intro i hi _
   simp -dsimp [a8b_l6, Pd.box]
   refine ⟨fun hlt => ?_, fun hge => ?_⟩
   · obtain ⟨q, hqi⟩ := c8Y hlt
     simp -dsimp [hqi, Pd.cells_eq q]
     refine a0G (ih q (List.mem_of_getElem? hqi)) (by simp [Pd.av_eq]) (by simp [Pd.av_eq]) ?_
     simp -dsimp
     refine ⟨hlt, c9Y (by omega), ?_⟩
     rw [c8Z, Pd.sizes_take hqi, Int.add_assoc]
   · rw [Pd.size_eq, List.take_of_length_le hge]
mutual
def Pd.fold {σ : Type} (F : Pd → σ → σ) : Pd → σ → σ
 | .mk o c v w l, st => Pd.foldL F l (F (.mk o c v w l) st)
def Pd.foldL {σ : Type} (F : Pd → σ → σ) : List Pd → σ → σ
 | [], st => st
 | p :: r, st => Pd.foldL F r (p.fold F st)
end
theorem Pd.fold_eq {σ : Type} (F : Pd → σ → σ) (p : Pd) (st : σ) : p.fold F st = Pd.foldL F p.l (F p st) := by cases p; rw [Pd.fold]; rfl
theorem Pd.foldL_nil {σ : Type} (F : Pd → σ → σ) (st : σ) : Pd.foldL F [] st = st := by rw [Pd.foldL]
theorem Pd.foldL_take {σ : Type} (F : Pd → σ → σ) : ∀ {l : List Pd} {i : Nat} {p : Pd} (st : σ), l[i]? = some p → Pd.foldL F (l.take (i + 1)) st = p.fold F (Pd.foldL F (l.take i) st)
 | [], i, p, st, h => by cases h
 | q :: r, 0, p, st, h => by
   simp only [List.getElem?_cons_zero, Option.some.injEq] at h; subst h
   simp -dsimp [Pd.foldL]
 | q :: r, i + 1, p, st, h => by
   simp only [List.getElem?_cons_succ] at h
   simp only [List.take_succ_cons, Pd.foldL]
   exact Pd.foldL_take F _ h
theorem b4t {σ : Type} (f : FuncId) (b : Bool) (F : Pd → σ → σ) (cs : σ → List IV) (hf : okFn prog f = true)
   (hdo : ∀ (p : Pd) (st : σ), b1v prog false f (bif b then [.ptr 1000 0, p.av] else [p.av, .ptr 1000 0]) [(1000, .box ((cs st).map .iv))] (.tup []) [(1000, .box ((cs (F p st)).map .iv))]) {p : Pd} (h : p.Ok) :
   ∀ st : σ, b1v prog false n_a7h [p.av, .fn f (bif b then [.ptr 1000 0] else []) (bif b then [] else [.ptr 1000 0])] [(1000, .box ((cs st).map .iv))] (.tup []) [(1000, .box ((cs (p.fold F st)).map .iv))] := by
 induction h with
 | mk p hl _ _ hq ih =>
 intro st
 refine a0J a7h_is (by simp) (by decide) (by simp) rfl ?_
 have hgo : ∀ (i : Nat) (q : Pd), p.l[i]? = some q → IntKind.i64.wrap ((i : Int) + 1) = (i : Int) + 1 := fun i q h => c9Y (by have := (List.getElem?_eq_some_iff.1 h).1; omega)
 cases b
 all_goals
   simp -dsimp [b3S, Pd.av_eq, hf]
   refine a3K (hdo p st) rfl (by simp) (by simp [Pd.av_eq]) (by simp [Pd.av_eq]) (by simp) (by simp) (by simp) (by simp) ?_
   simp -dsimp
 · refine a7H [2] [5] p.l.length (fun i => ⟨[(12, vi i), (11, vi p.l.length), (10, .iv (.lst 9 (p.l.map Pd.cells))), (1, .fn f [] [.ptr 1000 0])], [(1000, .box ((cs (Pd.foldL F (p.l.take i) (F p st))).map .iv))]⟩)
     (fun _ => True) ?_ trivial ?_
   · simp -dsimp [Pd.foldL_nil]
   · intro i hi _
     simp -dsimp [a7h_l7]
     refine ⟨fun hlt => ?_, fun hge => ?_⟩
     · obtain ⟨q, hqi⟩ := c8Y hlt
       simp -dsimp [hqi, Pd.cells_eq q]
       refine a3K (ih q (List.mem_of_getElem? hqi) (Pd.foldL F (p.l.take i) (F p st))) rfl (by simp) (by simp [Pd.av_eq]) (by simp [Pd.av_eq]) (by simp) (by simp) (by simp) (by simp) ?_
       simp -dsimp [hlt, hgo i q hqi, Pd.foldL_take F _ hqi]
     · simp -dsimp [Pd.fold_eq, List.take_of_length_le hge]
 · refine a7H [2] [5] p.l.length (fun i => ⟨[(12, vi i), (11, vi p.l.length), (10, .iv (.lst 9 (p.l.map Pd.cells))), (1, .fn f [.ptr 1000 0] [])], [(1000, .box ((cs (Pd.foldL F (p.l.take i) (F p st))).map .iv))]⟩)
     (fun _ => True) ?_ trivial ?_
   · simp -dsimp [Pd.foldL_nil]
   · intro i hi _
     simp -dsimp [a7h_l7]
     refine ⟨fun hlt => ?_, fun hge => ?_⟩
     · obtain ⟨q, hqi⟩ := c8Y hlt
       simp -dsimp [hqi, Pd.cells_eq q]
       refine a3K (ih q (List.mem_of_getElem? hqi) (Pd.foldL F (p.l.take i) (F p st))) rfl (by simp) (by simp [Pd.av_eq]) (by simp [Pd.av_eq]) (by simp) (by simp) (by simp) (by simp) ?_
       simp -dsimp [hlt, hgo i q hqi, Pd.foldL_take F _ hqi]
     · simp -dsimp [Pd.fold_eq, List.take_of_length_le hge]
theorem b5t (p : Pd) (n : Int) : b1v prog false n_a3i [p.av, .ptr 1000 0] [(1000, .box [vi n])] (.tup []) [(1000, .box [vi (IntKind.i64.wrap (n + 1))])] := by
 refine a0J a3i_is (by simp) (by decide) (by simp) rfl ?_
 simp -dsimp [a3i, Pd.av_eq]
def b6t (_ : Pd) (n : Int) : Int := IntKind.i64.wrap (n + 1)
mutual
theorem b7t : ∀ (p : Pd) (n : Int), p.fold b6t (IntKind.i64.wrap n) = IntKind.i64.wrap (n + p.size)
 | .mk o c v w l, n => by
   rw [Pd.fold, b6t, c9Z, b8t l, Pd.size, Int.add_assoc]
theorem b8t : ∀ (l : List Pd) (n : Int), Pd.foldL b6t l (IntKind.i64.wrap n) = IntKind.i64.wrap (n + Pd.sizes l)
 | [], n => by rw [Pd.foldL, Pd.sizes, Int.add_zero]
 | p :: r, n => by rw [Pd.foldL, b7t p, b8t r, Pd.sizes, Int.add_assoc]
end
theorem b9t {p : Pd} (h : p.Ok) : b1v prog true n_a8h [p.av] [] (vi (IntKind.i64.wrap p.size)) [] := by
 refine a4H a8h_is (by simp) (by decide) rfl ?_
 have he := b4t n_a3i false b6t (fun n : Int => [ci n]) (by kernel_rfl) (fun p n => b5t p n) h 0
 rw [Pd.av_eq] at he
 have hr : b1v prog false n_a7h [p.av, .fn n_a3i [] [.ptr 3 0]] [(3, .box [vi 0])] (.tup []) [(3, .box [vi (p.fold b6t 0)])] := by
   rw [Pd.av_eq]; exact he.ren (Ren.swaps [(1000, 3)]) rfl
 have hc : p.fold b6t 0 = IntKind.i64.wrap p.size := by
   have := b7t p 0
   rwa [Int.zero_add, show IntKind.i64.wrap 0 = 0 from rfl] at this
 simp -dsimp [a8h, Pd.av_eq]
 refine a3K hr rfl (by simp) (by simp [Pd.av_eq]) (by simp [Pd.av_eq]) (by simp) (by simp) (by simp) (by simp) ?_
 simp -dsimp [hc]
def b0u (t : Tb) (i : Int) (v : Vl) : Prop := 0 ≤ i ∧ i < t.length ∧ t[i.toNat]? = some v.text ∧ v.right = true
theorem b1u {t : Tb} {k : Nat} {v : Vl} {c : Bool} (hc : t[k]? = some c) : b0u t k v ↔ v.text = c ∧ v.right = true := by
 have hk := (List.getElem?_eq_some_iff.1 hc).1
 unfold b0u
 rw [show (k : Int).toNat = k from rfl, hc]
 constructor
 · rintro ⟨_, _, h, h2⟩; cases h; exact ⟨rfl, h2⟩
 · rintro ⟨h, h2⟩; exact ⟨by omega, by omega, by rw [h], h2⟩
theorem b2u (t : Tb) (w : Bool) (i : Int) (v : Vl) : b1v prog true n_a2i [.iv (.pt [tbIV t, cb w]), vi i, v.av] [] (vb (ofP (b0u t i v))) [] := by
 refine a4H a2i_is (by simp) (by decide) rfl ?_
 simp -dsimp [a6h_of, tbIV]
 refine ⟨fun h1 => ⟨fun h2 => ⟨h1, ?_⟩, fun h2 h => by have := h.2.1; omega⟩, fun h1 h => by have := h.1; omega⟩
 obtain ⟨k, rfl⟩ := Int.eq_ofNat_of_zero_le h1
 obtain ⟨c, hc⟩ : ∃ c, t[k]? = some c := c8Y (by omega)
 simp -dsimp [hc]
 refine ⟨fun h3 => a0G (d5b v) (by simp) rfl ?_, fun h3 => ?_⟩
 · simp -dsimp [c4Y, b1u hc, h3]
 · simp -dsimp [b1u hc, h3]
def b3u (t : Tb) (p : Pd) : Prop :=
 if p.op = 1 ∨ p.op = 2 then p.l.length = 0
 else if 3 ≤ p.op ∧ p.op ≤ 8 then p.l.length = 0 ∧ b0u t p.col p.v
 else if p.op = 9 then p.l.length = 0 ∧ b0u t p.col p.v ∧ b0u t p.col p.w
 else if p.op = 10 then p.l.length = 1
 else if p.op = 11 ∨ p.op = 12 then 0 < p.l.length
 else False
theorem b4u (t : Tb) (p : Pd) (w : Bool) : b1v prog false n_a5h [.ptr 1000 0, p.av] [(1000, .box [.iv (tbIV t), vb w])] (.tup []) [(1000, .box [.iv (tbIV t), vb (w || !ofP (b3u t p))])] := by
 refine a0J a5h_is (by simp) (by decide) (by simp) rfl ?_
 have hop : (p.op = 1 ∨ p.op = 2) ∨ (p.op = 3 ∨ p.op = 4 ∨ p.op = 5 ∨ p.op = 6 ∨ p.op = 7 ∨ p.op = 8) ∨ p.op = 9 ∨ p.op = 10 ∨ (p.op = 11 ∨ p.op = 12) ∨ (p.op < 1 ∨ 12 < p.op) := by omega
 have len0 : ((p.l.length : Int) == 0) = ofP (p.l.length = 0) := by rw [c4Y, beq_iff_eq]; omega
 have len1 : ((p.l.length : Int) == 1) = ofP (p.l.length = 1) := by rw [c4Y, beq_iff_eq]; omega
 have lenp : (decide (0 < (p.l.length : Int))) = ofP (0 < p.l.length) := by rw [c4Y, decide_eq_true_eq]; omega
 rcases hop with h | h | h | h | h | h
 · have e : b3u t p ↔ p.l.length = 0 := by unfold b3u; rw [if_pos h]
   rcases h with h | h <;> simp -dsimp [a6h_part, Pd.av_eq, h, len0, e] <;> cases w <;> simp
 · have e : b3u t p ↔ p.l.length = 0 ∧ b0u t p.col p.v := by
     unfold b3u; rw [if_neg (by omega), if_pos (by omega)]
   rcases h with h | h | h | h | h | h
   all_goals
     simp -dsimp [a6h_part, Pd.av_eq, h, len0, e]
     refine ⟨fun h0 => ?_, fun h0 => ?_⟩
     · refine a0G (b2u t w p.col p.v) (by simp) (by simp) ?_
       simp -dsimp [h0]
       cases w <;> simp
     · simp -dsimp [h0]
       try (cases w <;> simp)
 · have e : b3u t p ↔ p.l.length = 0 ∧ b0u t p.col p.v ∧ b0u t p.col p.w := by
     unfold b3u; rw [if_neg (by omega), if_neg (by omega), if_pos (by omega)]
   simp -dsimp [a6h_part, Pd.av_eq, h, len0, e]
   refine ⟨fun h0 => ?_, fun h0 => ?_⟩
   · refine a0G (b2u t w p.col p.v) (by simp) (by simp) ?_
     simp -dsimp
     refine ⟨fun h1 => ?_, fun h1 => ?_⟩
     · refine a0G (b2u t w p.col p.w) (by simp) (by simp) ?_
       simp -dsimp [h0, h1]
       cases w <;> simp
     · simp -dsimp [h0, h1]
       try (cases w <;> simp)
   · simp -dsimp [h0]
     try (cases w <;> simp)
 · have e : b3u t p ↔ p.l.length = 1 := by
     unfold b3u; rw [if_neg (by omega), if_neg (by omega), if_neg (by omega), if_pos h]
   simp -dsimp [a6h_part, Pd.av_eq, h, len1, e]
   cases w <;> simp
 · have e : b3u t p ↔ 0 < p.l.length := by
     unfold b3u; rw [if_neg (by omega), if_neg (by omega), if_neg (by omega), if_neg (by omega), if_pos h]
   rcases h with h | h <;> simp -dsimp [a6h_part, Pd.av_eq, h, lenp, e] <;> cases w <;> simp [c4Y]
 · have e : ¬b3u t p := by
     unfold b3u; rw [if_neg (by omega), if_neg (by omega), if_neg (by omega), if_neg (by omega), if_neg (by omega)]; exact id
   have ne : ∀ k : Int, 1 ≤ k → k ≤ 12 → (p.op == k) = false := fun k h1 h2 => by rw [beq_eq_false_iff_ne]; omega
   simp -dsimp [a6h_part, Pd.av_eq, e, ne]
mutual
def Pd.AllOk (t : Tb) : Pd → Prop
 | .mk o c v w l => b3u t (.mk o c v w l) ∧ Pd.AllOkL t l
def Pd.AllOkL (t : Tb) : List Pd → Prop
 | [] => True
 | p :: r => p.AllOk t ∧ Pd.AllOkL t r
end
noncomputable def b5u (t : Tb) (p : Pd) (w : Bool) : Bool := w || !ofP (b3u t p)
mutual
theorem b6u (t : Tb) : ∀ (p : Pd) (w : Bool), p.fold (b5u t) w = (w || !ofP (p.AllOk t))
 | .mk o c v w l, b => by
   rw [Pd.fold, b5u, b7u t l, Pd.AllOk, Bool.eq_iff_iff]
   simp only [Bool.or_eq_true, Bool.not_eq_true', c3Y]
   grind
theorem b7u (t : Tb) : ∀ (l : List Pd) (w : Bool), Pd.foldL (b5u t) l w = (w || !ofP (Pd.AllOkL t l))
 | [], b => by rw [Pd.foldL, Pd.AllOkL]; cases b <;> simp
 | p :: r, b => by
   rw [Pd.foldL, b6u t p, b7u t r, Pd.AllOkL, Bool.eq_iff_iff]
   simp only [Bool.or_eq_true, Bool.not_eq_true', c3Y]
   grind
end
def PdOk (t : Tb) (p : Pd) : Prop := TbOk t ∧ IntKind.i64.wrap p.size ≤ 15 ∧ p.AllOk t
noncomputable def b8u (t : Tb) (p : Pd) : Int := if ofP (TbOk t) = true then (if ofP (PdOk t p) = true then 0 else 30) else 1
@[simp] theorem b9u (t : Tb) (p : Pd) : (b8u t p != 0) = !ofP (PdOk t p) := by
 unfold b8u
 by_cases h : TbOk t
 · rw [if_pos (c2Y.2 h)]; cases ofP (PdOk t p) <;> rfl
 · rw [if_neg (by simpa using h)]
   have : ofP (PdOk t p) = false := c3Y.2 fun g => h g.1
   rw [this]; rfl
theorem b0v (t : Tb) {p : Pd} (h : p.Ok) : b1v prog true n_a2g [tbAV t, p.av] [] (vi (b8u t p)) [] := by
 refine a4H a2g_is (by simp) (by decide) rfl ?_
 have he := b4t n_a5h true (b5u t) (fun w : Bool => [tbIV t, cb w]) (by kernel_rfl) (fun p w => b4u t p w) h false
 rw [Pd.av_eq] at he
 have hr : b1v prog false n_a7h [p.av, .fn n_a5h [.ptr 15 0] []] [(15, .box [.iv (tbIV t), vb false])] (.tup []) [(15, .box [.iv (tbIV t), vb (p.fold (b5u t) false)])] := by
   rw [Pd.av_eq]; exact he.ren (Ren.swaps [(1000, 15)]) rfl
 rw [b6u, Bool.false_or] at hr
 simp -dsimp [a2g, Pd.av_eq, tbAV]
 refine a0G (d1c t) (by simp [tbAV]) (by simp [tbAV]) ?_
 simp -dsimp
 refine ⟨fun h1 => ?_, fun h1 => ?_⟩
 · simp [b8u, d6b, h1]
 · refine a3K hr rfl (by simp) (by simp [Pd.av_eq]) (by simp [Pd.av_eq]) (by simp) (by simp) (by simp) (by simp) ?_
   simp -dsimp
   refine ⟨fun h2 => ?_, fun h2 => ?_⟩
   · refine a0G (b9t h) (by simp [Pd.av_eq]) (by simp [Pd.av_eq]) ?_
     simp -dsimp
     rw [b8u, if_pos (c2Y.2 h1)]
     refine ⟨fun h3 => ?_, fun h3 => ?_⟩
     · rw [if_neg (by simp only [c2Y]; intro g; have := g.2.1; omega)]
     · rw [if_pos (by simp only [c2Y]; exact ⟨h1, h3, h2⟩)]
   · rw [b8u, if_pos (c2Y.2 h1), if_neg (by simp only [c2Y]; intro g; exact h2 g.2.2)]
end Go.Rt
end

section
namespace Go.Rt
open Go.Vm
instance : DecidableEq Vl := fun a b =>
 if h : a.text = b.text ∧ a.n = b.n ∧ a.s = b.s then .isTrue (by cases a; cases b; simp_all) else .isFalse (by rintro rfl; exact h ⟨rfl, rfl, rfl⟩)
theorem Vl.eq_iff {a b : Vl} : a = b ↔ a.text = b.text ∧ a.n = b.n ∧ a.s = b.s := by
 constructor
 · rintro rfl; exact ⟨rfl, rfl, rfl⟩
 · intro h; cases a; cases b; simp_all
structure Vs where
 txn : Int
 n : Int
 deriving DecidableEq
@[simp] def Vs.cells (v : Vs) : List IV := [ci v.txn, ci v.n]
abbrev Vs.av (v : Vs) : AV := .agg (v.cells.map .iv)
theorem Vs.eq_iff {a b : Vs} : a = b ↔ a.txn = b.txn ∧ a.n = b.n := by
 constructor
 · rintro rfl; exact ⟨rfl, rfl⟩
 · intro h; cases a; cases b; simp_all
structure Rf where
 key : Vl
 frm : Vs
def Rf.cells (r : Rf) : List IV := [cb r.key.text, ci r.key.n, .v (.string r.key.s), ci r.frm.txn, ci r.frm.n]
theorem Rf.cells_eq (r : Rf) : r.cells = [cb r.key.text, ci r.key.n, .v (.string r.key.s), ci r.frm.txn, ci r.frm.n] := rfl
structure Ev where
 txn : Int
 kind : Int
 level : Int
 table : Int
 key : Vl
 frm : Vs
 n : Int
 row : List Vl
 pred : Pd
 refs : List Rf
 cur : Bool
def rowC (r : List Vl) : List (List IV) := r.map Vl.cells
def c1Q (r : List Rf) : List (List IV) := r.map Rf.cells
@[simp] theorem rowC_len (r : List Vl) : (rowC r).length = r.length := by simp [rowC]
@[simp] theorem rowC_get (r : List Vl) (i : Nat) : (rowC r)[i]? = (r[i]?).map Vl.cells := by simp [rowC]
@[simp] theorem c2Q (r : List Rf) : (c1Q r).length = r.length := by simp [c1Q]
@[simp] theorem c3Q (r : List Rf) (i : Nat) : (c1Q r)[i]? = (r[i]?).map Rf.cells := by simp [c1Q]
def Ev.cells (e : Ev) : List IV := ci e.txn :: ci e.kind :: ci e.level :: ci e.table :: cb e.key.text :: ci e.key.n :: .v (.string e.key.s) :: ci e.frm.txn :: ci e.frm.n :: ci e.n :: .lst 3 (rowC e.row) :: (e.pred.cells ++ [.lst 5 (c1Q e.refs), cb e.cur])
theorem Ev.cells_eq (e : Ev) : e.cells = [ci e.txn, ci e.kind, ci e.level, ci e.table, cb e.key.text, ci e.key.n, .v (.string e.key.s), ci e.frm.txn, ci e.frm.n, ci e.n, .lst 3 (rowC e.row),
   ci e.pred.op, ci e.pred.col, cb e.pred.v.text, ci e.pred.v.n, .v (.string e.pred.v.s), cb e.pred.w.text, ci e.pred.w.n, .v (.string e.pred.w.s), .lst 9 (e.pred.l.map Pd.cells), .lst 5 (c1Q e.refs), cb e.cur] := by
 unfold Ev.cells; rw [Pd.cells_eq]; rfl
@[simp] theorem Ev.len (e : Ev) : e.cells.length = 22 := by rw [Ev.cells_eq]; rfl
theorem Ev.at (e : Ev) (i : Nat) : e.cells[i]? = ([ci e.txn, ci e.kind, ci e.level, ci e.table, cb e.key.text, ci e.key.n, .v (.string e.key.s), ci e.frm.txn, ci e.frm.n, ci e.n, .lst 3 (rowC e.row),
   ci e.pred.op, ci e.pred.col, cb e.pred.v.text, ci e.pred.v.n, .v (.string e.pred.v.s), cb e.pred.w.text, ci e.pred.w.n, .v (.string e.pred.w.s), .lst 9 (e.pred.l.map Pd.cells), .lst 5 (c1Q e.refs), cb e.cur] : List IV)[i]? := by rw [Ev.cells_eq]
theorem c4Q {l : List IV} {i : Nat} {x : IV} {h : i < l.length} (e : l[i]? = some x) : l[i] = x := (List.getElem?_eq_some_iff.1 e).2
section
variable (e : Ev)
@[simp] theorem Ev.g0 {h} : e.cells[0]'h = ci e.txn := c4Q (by rw [Ev.at]; rfl)
@[simp] theorem Ev.g1 {h} : e.cells[1]'h = ci e.kind := c4Q (by rw [Ev.at]; rfl)
@[simp] theorem Ev.g2 {h} : e.cells[2]'h = ci e.level := c4Q (by rw [Ev.at]; rfl)
@[simp] theorem Ev.g3 {h} : e.cells[3]'h = ci e.table := c4Q (by rw [Ev.at]; rfl)
@[simp] theorem Ev.g4 {h} : e.cells[4]'h = cb e.key.text := c4Q (by rw [Ev.at]; rfl)
@[simp] theorem Ev.g5 {h} : e.cells[5]'h = ci e.key.n := c4Q (by rw [Ev.at]; rfl)
@[simp] theorem Ev.g6 {h} : e.cells[6]'h = .v (.string e.key.s) := c4Q (by rw [Ev.at]; rfl)
@[simp] theorem Ev.g7 {h} : e.cells[7]'h = ci e.frm.txn := c4Q (by rw [Ev.at]; rfl)
@[simp] theorem Ev.g8 {h} : e.cells[8]'h = ci e.frm.n := c4Q (by rw [Ev.at]; rfl)
@[simp] theorem Ev.g9 {h} : e.cells[9]'h = ci e.n := c4Q (by rw [Ev.at]; rfl)
@[simp] theorem Ev.g10 {h} : e.cells[10]'h = .lst 3 (rowC e.row) := c4Q (by rw [Ev.at]; rfl)
@[simp] theorem Ev.g20 {h} : e.cells[20]'h = .lst 5 (c1Q e.refs) := c4Q (by rw [Ev.at]; rfl)
@[simp] theorem Ev.g21 {h} : e.cells[21]'h = cb e.cur := c4Q (by rw [Ev.at]; rfl)
@[simp] theorem Ev.q0 : e.cells[0]? = some (ci e.txn) := by rw [Ev.at]; rfl
@[simp] theorem Ev.q1 : e.cells[1]? = some (ci e.kind) := by rw [Ev.at]; rfl
@[simp] theorem Ev.q2 : e.cells[2]? = some (ci e.level) := by rw [Ev.at]; rfl
@[simp] theorem Ev.q3 : e.cells[3]? = some (ci e.table) := by rw [Ev.at]; rfl
@[simp] theorem Ev.q4 : e.cells[4]? = some (cb e.key.text) := by rw [Ev.at]; rfl
@[simp] theorem Ev.q5 : e.cells[5]? = some (ci e.key.n) := by rw [Ev.at]; rfl
@[simp] theorem Ev.q6 : e.cells[6]? = some (.v (.string e.key.s)) := by rw [Ev.at]; rfl
@[simp] theorem Ev.q7 : e.cells[7]? = some (ci e.frm.txn) := by rw [Ev.at]; rfl
@[simp] theorem Ev.q8 : e.cells[8]? = some (ci e.frm.n) := by rw [Ev.at]; rfl
@[simp] theorem Ev.q9 : e.cells[9]? = some (ci e.n) := by rw [Ev.at]; rfl
@[simp] theorem Ev.q10 : e.cells[10]? = some (.lst 3 (rowC e.row)) := by rw [Ev.at]; rfl
@[simp] theorem Ev.q20 : e.cells[20]? = some (.lst 5 (c1Q e.refs)) := by rw [Ev.at]; rfl
@[simp] theorem Ev.q21 : e.cells[21]? = some (cb e.cur) := by rw [Ev.at]; rfl
@[simp] theorem Ev.key_at : List.take 3 (List.drop 4 (e.cells.map AV.iv)) = [.iv (cb e.key.text), .iv (ci e.key.n), .iv (.v (.string e.key.s))] := by rw [Ev.cells_eq]; rfl
@[simp] theorem Ev.frm_at : List.take 2 (List.drop 7 (e.cells.map AV.iv)) = [.iv (ci e.frm.txn), .iv (ci e.frm.n)] := by rw [Ev.cells_eq]; rfl
@[simp] theorem Ev.pred_at : List.take 9 (List.drop 11 (e.cells.map AV.iv)) = e.pred.cells.map AV.iv := by rw [Ev.cells_eq, Pd.cells_eq]; rfl
@[simp] theorem Ev.take_all : List.take 22 e.cells = e.cells := List.take_of_length_le (by simp)
@[simp] theorem Ev.take_alla : List.take 22 (e.cells.map AV.iv) = e.cells.map AV.iv := List.take_of_length_le (by simp)
end
def Ev.av (e : Ev) : AV := .agg (e.cells.map .iv)
structure Ins where
 table : Int
 key : Vl
 txns : List Int
def Ins.cells (o : Ins) : List IV := [ci o.table, cb o.key.text, ci o.key.n, .v (.string o.key.s), .lst 1 (c1Z o.txns)]
theorem Ins.cells_eq (o : Ins) : o.cells = [ci o.table, cb o.key.text, ci o.key.n, .v (.string o.key.s), .lst 1 (c1Z o.txns)] := rfl
structure Hs where
 tables : List Tb
 events : List Ev
 order : List Ins
def tbsC (l : List Tb) : List (List IV) := l.map fun t => [tbIV t]
def evsC (l : List Ev) : List (List IV) := l.map Ev.cells
def insC (l : List Ins) : List (List IV) := l.map Ins.cells
@[simp] theorem tbsC_len (l : List Tb) : (tbsC l).length = l.length := by simp [tbsC]
@[simp] theorem tbsC_get (l : List Tb) (i : Nat) : (tbsC l)[i]? = (l[i]?).map fun t => [tbIV t] := by simp [tbsC]
@[simp] theorem evsC_len (l : List Ev) : (evsC l).length = l.length := by simp [evsC]
@[simp] theorem evsC_get (l : List Ev) (i : Nat) : (evsC l)[i]? = (l[i]?).map Ev.cells := by simp [evsC]
@[simp] theorem insC_len (l : List Ins) : (insC l).length = l.length := by simp [insC]
@[simp] theorem insC_get (l : List Ins) (i : Nat) : (insC l)[i]? = (l[i]?).map Ins.cells := by simp [insC]
def Hs.cells (h : Hs) : List IV := [.lst 1 (tbsC h.tables), .lst 22 (evsC h.events), .lst 5 (insC h.order)]
def Hs.av (h : Hs) : AV := .agg [.iv (.lst 1 (tbsC h.tables)), .iv (.lst 22 (evsC h.events)), .iv (.lst 5 (insC h.order))]
structure Ev.Ok (e : Ev) : Prop where
 row : e.row.length < 2 ^ 63
 refs : e.refs.length < 2 ^ 63
 pred : e.pred.Ok
 key : e.key.s.size < 2 ^ 63
 rkey : ∀ r, r ∈ e.refs → r.key.s.size < 2 ^ 63
structure Hs.Ok (h : Hs) : Prop where
 tables : h.tables.length < 2 ^ 63
 events : h.events.length < 2 ^ 63
 order : h.order.length < 2 ^ 63
 ev : ∀ e, e ∈ h.events → e.Ok
 txns : ∀ o, o ∈ h.order → o.txns.length < 2 ^ 63
 tb : ∀ t, t ∈ h.tables → t.length < 2 ^ 63
 cols : ∀ o, o ∈ h.order → o.key.s.size < 2 ^ 63
def Ev.isW (txn table : Int) (k : Vl) (e : Ev) : Bool := decide (e.kind = 3) && decide (e.txn = txn) && decide (e.table = table) && decide (e.key = k)
theorem Ev.isW_iff {e : Ev} {txn table : Int} {k : Vl} : e.isW txn table k = true ↔ e.kind = 3 ∧ e.txn = txn ∧ e.table = table ∧ e.key.text = k.text ∧ e.key.n = k.n ∧ e.key.s = k.s := by
 unfold Ev.isW
 simp only [Bool.and_eq_true, decide_eq_true_eq, Vl.eq_iff, and_assoc]
def c5Q (es : List Ev) (txn table : Int) (k : Vl) : Nat := (es.filter (Ev.isW txn table k)).length
theorem c6Q {es : List Ev} {i : Nat} {e : Ev} (h : es[i]? = some e) (txn table : Int) (k : Vl) : c5Q (es.take (i + 1)) txn table k = c5Q (es.take i) txn table k + if e.isW txn table k = true then 1 else 0 := by
 have : es.take (i + 1) = es.take i ++ [e] := by rw [List.take_add_one, h]; rfl
 rw [this]
 unfold c5Q
 rw [List.filter_append, List.length_append]
 congr 1
 cases hw : e.isW txn table k <;> simp [hw]
theorem c7Q (es : List Ev) (txn table : Int) (k : Vl) : c5Q es txn table k ≤ es.length := List.length_filter_le _ _
theorem c8Q {p q : Prop} : ofP p = ofP q ↔ (p ↔ q) := by rw [c4Y, c2Y]
theorem c9Q {p q : Prop} [Decidable q] : decide q = ofP p ↔ (q ↔ p) := by rw [c4Y, decide_eq_true_eq]
theorem c0R {α : Type} {l : List α} {i : Nat} {x : α} (h : l[i]? = some x) : l.take (i + 1) = l.take i ++ [x] := by
 rw [List.take_add_one, h]; rfl
def c1R (es : List Ev) (txn : Int) : Prop := ∃ x, x ∈ es ∧ x.txn = txn
def c2R (es : List Ev) (txn : Int) : Prop := ∀ x, x ∈ es → x.txn = txn → x.kind ≠ 5 ∧ x.kind ≠ 6
@[simp] theorem c3R {txn : Int} : c1R [] txn ↔ False := by unfold c1R; simp
@[simp] theorem c4R {txn : Int} : c2R [] txn := fun _ h => by cases h
theorem c5R {es : List Ev} {e : Ev} {txn : Int} : c1R (es ++ [e]) txn ↔ c1R es txn ∨ e.txn = txn := by
 unfold c1R
 constructor
 · rintro ⟨x, h, h2⟩
   rcases List.mem_append.1 h with h | h
   · exact .inl ⟨x, h, h2⟩
   · simp only [List.mem_singleton] at h; subst h; exact .inr h2
 · rintro (⟨x, h, h2⟩ | h)
   · exact ⟨x, List.mem_append_left _ h, h2⟩
   · exact ⟨e, by simp, h⟩
theorem c6R {es : List Ev} {e : Ev} {txn : Int} : c2R (es ++ [e]) txn ↔ c2R es txn ∧ (e.txn = txn → e.kind ≠ 5 ∧ e.kind ≠ 6) := by
 unfold c2R
 constructor
 · intro h; exact ⟨fun x hx => h x (List.mem_append_left _ hx), h e (by simp)⟩
 · rintro ⟨h, h2⟩ x hx
   rcases List.mem_append.1 hx with hx | hx
   · exact h x hx
   · simp only [List.mem_singleton] at hx; subst hx; exact h2
theorem c2R.take {es : List Ev} {i a : Nat} {txn : Int} (h : c2R (es.take a) txn) (hi : i ≤ a) : c2R (es.take i) txn := fun x hx => h x ((List.take_subset_take_left es hi) hx)
def c7R (es : List Ev) (e : Ev) : Prop := 1 ≤ e.txn ∧ 1 ≤ e.kind ∧ e.kind ≤ 6 ∧ c2R es e.txn ∧ (e.kind = 1 → ¬c1R es e.txn ∧ 1 ≤ e.level ∧ e.level ≤ 5) ∧ (e.kind ≠ 1 → c1R es e.txn)
end Go.Rt
end

section
namespace Go.Rt
open Go.Vm
theorem b7g {h : Hs} (hok : h.Ok) (a : Nat) (txn table : Int) (k : Vl) : b1v prog true n_a4b [h.av, vi a, vi txn, vi table, k.av] [] (vi (c5Q (h.events.take a) txn table k)) [] := by
 refine a4H a4b_is (by simp) (by decide) rfl ?_
 simp -dsimp [a4b, Hs.av]
 refine a7H [] [13] (min a h.events.length) (fun i => ⟨[(12, vi i), (11, vi (c5Q (h.events.take i) txn table k)), (1, vi a), (2, vi txn), (3, vi table), (5, .ptr 5 0), (9, .ptr 9 0)],
     [(9, .box [.iv (cb k.text), .iv (ci k.n), .iv (.v (.string k.s))]), (5, .box [.iv (.lst 1 (tbsC h.tables)), .iv (.lst 22 (evsC h.events)), .iv (.lst 5 (insC h.order))])]⟩)
   (fun _ => True) ?_ trivial ?_
 · simp -dsimp [c5Q]
 · intro i hi _
   have hev := hok.events
   simp -dsimp [a4b_l8]
   refine ⟨fun h1 => ⟨fun h2 => ?_, fun h2 => ?_⟩, fun h1 => ?_⟩
   · obtain ⟨e, he⟩ := c8Y h2
     have hw := c9Y (n := (i : Int) + 1) (by omega)
     have hw2 := c9Y (n := (c5Q (h.events.take i) txn table k : Int) + 1) (by have := c7Q (h.events.take i) txn table k; rw [List.length_take] at this; omega)
     have hn := c6Q he txn table k
     have hi' : i < min a h.events.length := by omega
     simp only [Ev.isW_iff] at hn
     simp -dsimp [he]
     rw [hw, hw2, hn]
     grind
   · rw [show h.events.take a = h.events.take i from by rw [List.take_of_length_le (by omega), List.take_of_length_le h2]]
   · rw [show i = a from by omega]
def Ev.ends (txn : Int) (e : Ev) : Prop := e.txn = txn ∧ (e.kind = 5 ∨ e.kind = 6)
instance (txn : Int) (e : Ev) : Decidable (e.ends txn) := by unfold Ev.ends; exact inferInstance
def b8g : List Ev → Int → Int
 | [], _ => 0
 | e :: r, txn => if e.ends txn then e.kind else b8g r txn
theorem b9g : ∀ {es : List Ev} {txn : Int}, (∀ e, e ∈ es → ¬e.ends txn) → b8g es txn = 0
 | [], _, _ => rfl
 | e :: r, txn, h => by rw [b8g, if_neg (h e List.mem_cons_self)]; exact b9g fun x hx => h x (List.mem_cons_of_mem _ hx)
theorem b0h : ∀ {es : List Ev} {i : Nat} {e : Ev} {txn : Int}, (∀ j, j < i → ∀ x, es[j]? = some x → ¬x.ends txn) → es[i]? = some e → e.ends txn → b8g es txn = e.kind
 | [], i, e, txn, _, h, _ => by cases h
 | x :: r, 0, e, txn, _, h, he => by simp only [List.getElem?_cons_zero, Option.some.injEq] at h; subst h; rw [b8g, if_pos he]
 | x :: r, i + 1, e, txn, hn, h, he => by
   rw [b8g, if_neg (hn 0 (by omega) x rfl)]
   exact b0h (i := i) (fun j hj y hy => hn (j + 1) (by omega) y (by simpa using hy)) (by simpa using h) he
theorem b1h {h : Hs} (hok : h.Ok) (txn : Int) : b1v prog true n_a5b [h.av, vi txn] [] (vi (b8g h.events txn)) [] := by
 refine a4H a5b_is (by simp) (by decide) rfl ?_
 simp -dsimp [a5b, Hs.av]
 refine a7H [] [6] h.events.length (fun i => ⟨[(5, vi i), (1, vi txn), (2, .ptr 2 0)], [(2, .box [.iv (.lst 1 (tbsC h.tables)), .iv (.lst 22 (evsC h.events)), .iv (.lst 5 (insC h.order))])]⟩)
   (fun i => Upto i fun j => ∀ e, h.events[j]? = some e → ¬e.ends txn) ?_ ?_ ?_
 · simp -dsimp
 · simp
 · intro i hi hq
   have hev := hok.events
   simp -dsimp [a5b_l7]
   refine ⟨fun h2 => ?_, fun h2 => ?_⟩
   · obtain ⟨e, he⟩ := c8Y h2
     have hw := c9Y (n := (i : Int) + 1) (by omega)
     have hS : (e.txn = txn ∧ (e.kind = 5 ∨ e.kind = 6)) → e.kind = b8g h.events txn := fun hh => (b0h (i := i) (fun j hj => hq j hj) he hh).symm
     have hN : ¬(e.txn = txn ∧ (e.kind = 5 ∨ e.kind = 6)) → Upto (i + 1) fun j => ∀ e, h.events[j]? = some e → ¬e.ends txn := fun hn => hq.succ fun x hx => by rw [he] at hx; cases hx; exact hn
     simp -dsimp [he]
     rw [hw]
     grind
   · exact (b9g fun e he => by
       obtain ⟨j, hj⟩ := List.getElem?_of_mem he
       exact hq j (Nat.lt_of_lt_of_le (List.getElem?_eq_some_iff.1 hj).1 h2) e hj).symm
def b2h (h : Hs) (table : Int) (k : Vl) : Prop := 0 ≤ table ∧ ∃ t, h.tables[table.toNat]? = some t ∧ k.right = true ∧ t[0]? = some k.text
def Hs.TbsOk (h : Hs) : Prop := ∀ t, t ∈ h.tables → TbOk t
def b3h (es : List Ev) (table : Int) (k : Vl) (v : Vs) : Prop := 1 ≤ v.n ∧ v.n ≤ c5Q es v.txn table k
end Go.Rt
end

section
namespace Go.Rt
open Go.Vm
def c9t (h : Hs) (es : List Ev) (e : Ev) : Prop := b2h h e.table e.key ∧ e.n = c5Q es e.txn e.table e.key + 1 ∧ (e.row = [] ∨ ∃ t, h.tables[e.table.toNat]? = some t ∧ Fits t e.row ∧ e.row[0]? = some e.key)
def c0u (h : Hs) (es : List Ev) (e : Ev) : Prop := b2h h e.table e.key ∧
 if 0 < c5Q es e.txn e.table e.key then e.frm = ⟨e.txn, c5Q es e.txn e.table e.key⟩ else e.frm = ⟨0, 0⟩ ∨ b3h es e.table e.key e.frm
def c1u (h : Hs) (es : List Ev) (e : Ev) (i : Nat) : Prop := ∀ r, e.refs[i]? = some r → b2h h e.table r.key ∧ b3h es e.table r.key r.frm ∧ (∀ q, 0 < i → e.refs[i - 1]? = some q → q.key.cmp r.key < 0)
def c2u (es : List Ev) (e : Ev) (x : Ev) : Prop := x.kind = 3 → x.txn = e.txn → x.table = e.table → ∃ r, r ∈ e.refs ∧ r.key = x.key ∧ r.frm = ⟨e.txn, c5Q es e.txn e.table x.key⟩
def c3u (h : Hs) (es : List Ev) (e : Ev) : Prop := (0 ≤ e.table ∧ ∃ t, h.tables[e.table.toNat]? = some t ∧ PdOk t e.pred) ∧ Upto e.refs.length (c1u h es e) ∧ ∀ x, x ∈ es → c2u es e x
def c4u (l : List Rf) (k : Vl) (v : Vs) : Prop := ∃ r, r ∈ l ∧ r.key = k ∧ r.frm = v
@[simp] theorem c5u {k : Vl} {v : Vs} : c4u [] k v ↔ False := by unfold c4u; simp
theorem c6u {l : List Rf} {q : Rf} {k : Vl} {v : Vs} : c4u (l ++ [q]) k v ↔ c4u l k v ∨ ((q.key.text = k.text ∧ q.key.n = k.n ∧ q.key.s = k.s) ∧ q.frm.txn = v.txn ∧ q.frm.n = v.n) := by
 unfold c4u
 rw [← Vl.eq_iff, ← Vs.eq_iff]
 constructor
 · rintro ⟨r, hr, g⟩
   rcases List.mem_append.1 hr with hr | hr
   · exact .inl ⟨r, hr, g⟩
   · simp only [List.mem_singleton] at hr; subst hr; exact .inr g
 · rintro (⟨r, hr, g⟩ | g)
   · exact ⟨r, List.mem_append_left _ hr, g⟩
   · exact ⟨q, by simp, g⟩
end Go.Rt
end

section
namespace Go.Rt
open Go.Vm
def b3s (h : Hs) (es : List Ev) (e : Ev) : Prop := c7R es e ∧ (e.kind = 2 → c0u h es e) ∧ (e.kind = 3 → c9t h es e) ∧ (e.kind = 4 → c3u h es e)
theorem b4s {h : Hs} (hok : h.Ok) (txn : Int) : b1v prog true n_a3a [h.av, vi txn] [] (vb (decide (b8g h.events txn = 5))) [] := by
 refine a4H a3a_is (by simp) (by decide) rfl ?_
 simp -dsimp [a3a, Hs.av]
 refine a0G (b1h hok txn) (by simp [Hs.av]) (by simp [Hs.av]) ?_
 simp -dsimp
 rfl
def Ins.isOf (table : Int) (k : Vl) (o : Ins) : Prop := o.table = table ∧ o.key = k
def b5s (h : Hs) (e : Ev) : Prop := e.kind = 3 → b8g h.events e.txn = 5 → ∃ o, o ∈ h.order ∧ o.isOf e.table e.key ∧ e.txn ∈ o.txns
def b6s (h : Hs) (a : Nat) (o : Ins) : Prop := (∀ x, x ∈ h.order.take a → ¬x.isOf o.table o.key) ∧
 (Upto o.txns.length fun i => ∀ t, o.txns[i]? = some t → b8g h.events t = 5 ∧ c5Q h.events t o.table o.key ≠ 0 ∧ t ∉ o.txns.take i) ∧ 0 < o.txns.length
def b7s (h : Hs) : Prop := (1 ≤ h.tables.length ∧ h.tables.length ≤ 3) ∧ h.TbsOk
def b8s (h : Hs) : Prop := b7s h ∧ (Upto h.events.length fun i => ∀ e, h.events[i]? = some e → b3s h (h.events.take i) e ∧ b5s h e) ∧ Upto h.order.length fun i => ∀ o, h.order[i]? = some o → b6s h i o
end Go.Rt
end

section
namespace Go.Rt
open Go.Vm
mutual
def Pd.Flat (d : Int) : Pd → Prop
 | .mk o c v w l => d ≤ 6 ∧ l.length ≤ 6 ∧ Pd.FlatL (d + 1) l ∧ IntKind.i64.wrap (Pd.size (.mk o c v w l)) ≤ 30
def Pd.FlatL (d : Int) : List Pd → Prop
 | [] => True
 | p :: r => p.Flat d ∧ Pd.FlatL d r
end
theorem Pd.flat_eq (d : Int) (p : Pd) : p.Flat d ↔ d ≤ 6 ∧ p.l.length ≤ 6 ∧ Pd.FlatL (d + 1) p.l ∧ IntKind.i64.wrap p.size ≤ 30 := by cases p; rw [Pd.Flat]; rfl
theorem Pd.flatL_iff (d : Int) : ∀ l : List Pd, Pd.FlatL d l ↔ ∀ p, p ∈ l → p.Flat d
 | [] => by simp [Pd.FlatL]
 | p :: r => by simp [Pd.FlatL, Pd.flatL_iff d r]
theorem c2r {p : Pd} (h : p.Ok) : ∀ d : Int, 0 ≤ d → b1v prog true n_a7a [p.av, vi d] [] (vb (ofP (p.Flat d))) [] := by
 induction h with
 | mk p hl hv hw hq ih =>
 intro d hd
 refine a4H a7a_is (by simp) (by decide) rfl ?_
 by_cases h1 : d ≤ 6
 · by_cases h2 : p.l.length ≤ 6
   · have n1 : ¬6 < d := by omega
     have n2 : ¬(6 : Int) < p.l.length := by omega
     simp -dsimp [b0R, Pd.av_eq, n1, n2]
     refine a7H [] [] p.l.length (fun i => ⟨[(5, vi i), (1, vi d), (2, .ptr 2 0)], [(2, p.box)]⟩) (fun i => Upto i fun j => ∀ q, p.l[j]? = some q → q.Flat (d + 1)) ?_ ?_ ?_
     · simp -dsimp [Pd.box]
     · exact c7Y
     · intro i hi hqq
       simp -dsimp [a7a_l9, Pd.box]
       refine ⟨fun hlt => ?_, fun hge => ?_⟩
       · obtain ⟨q, hqi⟩ := c8Y hlt
         have hw := c9Y (n := (i : Int) + 1) (by omega)
         have hwd := c9Y (n := d + 1) (by omega)
         simp -dsimp [hqi, Pd.cells_eq q, hwd]
         refine a0G (ih q (List.mem_of_getElem? hqi) (d + 1) (by omega)) (by simp [Pd.av_eq]) (by simp [Pd.av_eq]) ?_
         simp -dsimp [hw]
         exact ⟨fun g g2 => g ((Pd.flatL_iff _ _).1 ((Pd.flat_eq d p).1 g2).2.2.1 q (List.mem_of_getElem? hqi)), fun g => ⟨hlt, hqq.succ fun q' hq' => by rw [hqi] at hq'; cases hq'; exact g⟩⟩
       · have hall : Pd.FlatL (d + 1) p.l := (Pd.flatL_iff _ _).2 fun q hqm => by
           obtain ⟨j, hj⟩ := List.getElem?_of_mem hqm
           exact hqq j (by have := (List.getElem?_eq_some_iff.1 hj).1; omega) q hj
         refine a0G (b3t (.mk p hl hv hw hq)) (by simp [Pd.av_eq]) (by simp [Pd.av_eq]) ?_
         simp -dsimp [c9Q, Pd.flat_eq d p, h1, h2, hall]
   · have n1 : ¬6 < d := by omega
     have n2 : (6 : Int) < p.l.length := by omega
     simp -dsimp [b0R, Pd.av_eq, n1, n2]
     exact fun g => h2 ((Pd.flat_eq d p).1 g).2.1
 · have n1 : 6 < d := by omega
   simp -dsimp [b0R, Pd.av_eq, n1]
   exact fun g => h1 ((Pd.flat_eq d p).1 g).1
structure SmallEv (e : Ev) : Prop where
 refs : e.refs.length ≤ 12
 row : e.row.length ≤ 12
 flat : e.pred.Flat 0
structure SmallP (h : Hs) : Prop where
 tables : h.tables.length ≤ 6
 events : h.events.length ≤ 60
 order : h.order.length ≤ 30
 ev : Upto h.events.length fun i => ∀ e, h.events[i]? = some e → SmallEv e
 txns : Upto h.order.length fun i => ∀ o, h.order[i]? = some o → o.txns.length ≤ 20
theorem c3r {h : Hs} (hok : h.Ok) : b1v prog true n_a0a [h.av] [] (vb (ofP (SmallP h))) [] := by
 refine a4H a0a_is (by simp) (by decide) rfl ?_
 by_cases h1 : h.tables.length ≤ 6
 · by_cases h2 : h.events.length ≤ 60
   · by_cases h3 : h.order.length ≤ 30
     · have n1 : ¬(6 : Int) < h.tables.length := by omega
       have n2 : ¬(60 : Int) < h.events.length := by omega
       have n3 : ¬(30 : Int) < h.order.length := by omega
       simp -dsimp [a0a, Hs.av, n1, n2, n3]
       refine a7H [] [4] h.events.length (fun i => ⟨[(3, vi i), (1, .ptr 1 0)], [(1, .box [.iv (.lst 1 (tbsC h.tables)), .iv (.lst 22 (evsC h.events)), .iv (.lst 5 (insC h.order))])]⟩)
         (fun i => Upto i fun i => ∀ e, h.events[i]? = some e → SmallEv e) ?_ ?_ ?_
       · simp -dsimp
       · exact c7Y
       · intro i hi hq
         simp -dsimp [a0a_l9]
         refine ⟨fun hlt => ?_, fun hge => ?_⟩
         · obtain ⟨e, he⟩ := c8Y hlt
           have hw := c9Y (n := (i : Int) + 1) (by omega)
           have hno : ¬SmallEv e → ¬SmallP h := fun g g2 => g (g2.ev i hlt e he)
           have heok := hok.ev e (List.mem_of_getElem? he)
           by_cases e1 : e.refs.length ≤ 12
           · by_cases e2 : e.row.length ≤ 12
             · have m1 : ¬(12 : Int) < e.refs.length := by omega
               have m2 : ¬(12 : Int) < e.row.length := by omega
               simp -dsimp [he, m1, m2]
               refine a0G (c2r heok.pred 0 (by omega)) (by simp [Pd.av]) (by simp [Pd.av]) ?_
               simp -dsimp [hw]
               exact ⟨fun g => hno fun g2 => g g2.flat, fun g => ⟨hlt, hq.succ fun e' he' => by rw [he] at he'; cases he'; exact ⟨e1, e2, g⟩⟩⟩
             · have m1 : ¬(12 : Int) < e.refs.length := by omega
               have m2 : (12 : Int) < e.row.length := by omega
               simp -dsimp [he, m1, m2]
               exact hno fun g => e2 g.row
           · have m1 : (12 : Int) < e.refs.length := by omega
             simp -dsimp [he, m1]
             exact hno fun g => e1 g.refs
         · refine a7H [] [] h.order.length (fun i => ⟨[(5, vi i), (1, .ptr 1 0)], [(1, .box [.iv (.lst 1 (tbsC h.tables)), .iv (.lst 22 (evsC h.events)), .iv (.lst 5 (insC h.order))])]⟩)
             (fun i => Upto i fun i => ∀ o, h.order[i]? = some o → o.txns.length ≤ 20) ?_ ?_ ?_
           · simp -dsimp
           · exact c7Y
           · intro j hj hqj
             simp -dsimp [a0a_l15]
             refine ⟨fun hjlt => ?_, fun hjge => ?_⟩
             · obtain ⟨o, ho⟩ := c8Y hjlt
               have hw := c9Y (n := (j : Int) + 1) (by omega)
               simp -dsimp [ho, Ins.cells_eq o, hw]
               refine ⟨fun g g2 => ?_, fun g => ⟨hjlt, hqj.succ fun o' ho' => by rw [ho] at ho'; cases ho'; omega⟩⟩
               have := g2.txns j hjlt o ho
               omega
             · exact ⟨h1, h2, h3, fun k hk => hq k (by omega), fun k hk => hqj k (by omega)⟩
     · have n1 : ¬(6 : Int) < h.tables.length := by omega
       have n2 : ¬(60 : Int) < h.events.length := by omega
       have n3 : (30 : Int) < h.order.length := by omega
       simp -dsimp [a0a, Hs.av, n1, n2, n3]
       exact fun g => h3 g.order
   · have n1 : ¬(6 : Int) < h.tables.length := by omega
     have n2 : (60 : Int) < h.events.length := by omega
     simp -dsimp [a0a, Hs.av, n1, n2]
     exact fun g => h2 g.events
 · have n1 : (6 : Int) < h.tables.length := by omega
   simp -dsimp [a0a, Hs.av, n1]
   exact fun g => h1 g.tables
end Go.Rt
end

section
namespace Go.Rt
open Go.Vm
abbrev skS : Sk := (false, [.i .i64], false)
abbrev skW : Sk := (true, [.i .i64, .i .i64, .b, .i .i64, .s], false)
def stOf (es : List Ev) (txn : Int) : Int := es.foldl (fun s e => if e.txn = txn ∧ (e.kind = 1 ∨ e.kind = 5 ∨ e.kind = 6) then e.kind else s) 0
theorem d9e (es : List Ev) (e : Ev) (txn : Int) : stOf (es ++ [e]) txn = if e.txn = txn ∧ (e.kind = 1 ∨ e.kind = 5 ∨ e.kind = 6) then e.kind else stOf es txn := by
 unfold stOf; rw [List.foldl_append]; rfl
def gS (es : List Ev) : List Value → Option (List IV)
 | [.int .i64 txn] => if stOf es txn = 0 then none else some [ci (stOf es txn)]
 | _ => none
def gW (es : List Ev) : List Value → Option (List IV)
 | [.int .i64 txn, .int .i64 table, .bool t, .int .i64 n, .string s] => if c5Q es txn table ⟨t, n, s⟩ = 0 then none else some [ci (c5Q es txn table ⟨t, n, s⟩)]
 | _ => none
def obC (o : Int × Vl) : List IV := [ci o.1, cb o.2.text, ci o.2.n, .v (.string o.2.s)]
def spots (es : List Ev) (txn : Int) : List (Int × Vl) := (es.filter fun e => decide (e.kind = 3) && decide (e.txn = txn) && decide (e.n = 1)).map fun e => (e.table, e.key)
def gP (es : List Ev) : List Value → Option (List (List IV))
 | [.int .i64 txn] => if spots es txn = [] then none else some ((spots es txn).map obC)
 | _ => none
def gPi (es : List Ev) (k : List Value) : Option (List IV) := (gP es k).map fun xs => [IV.lst 4 xs]
@[simp] theorem lk_gS (es : List Ev) (txn : Int) : lkR [.iv (.v (.int .i64 0))] false false (gS es [Value.int .i64 txn]) = vi (stOf es txn) := by
 simp only [gS]
 by_cases h : stOf es txn = 0
 · rw [if_pos h, h]; rfl
 · rw [if_neg h]; rfl
@[simp] theorem lk_gW (es : List Ev) (txn table : Int) (t : Bool) (n : Int) (s : ByteArray) :
   lkR [.iv (.v (.int .i64 0))] false false (gW es [Value.int .i64 txn, Value.int .i64 table, Value.bool t, Value.int .i64 n, Value.string s]) = vi (c5Q es txn table ⟨t, n, s⟩) := by
 simp only [gW]
 by_cases h : c5Q es txn table ⟨t, n, s⟩ = 0
 · rw [if_pos h, h]; rfl
 · rw [if_neg h]; rfl
def d0f (l : List Rf) (k : Vl) : Option Vs := l.foldl (fun s r => if r.key = k then some r.frm else s) none
theorem d1f (l : List Rf) (r : Rf) (k : Vl) : d0f (l ++ [r]) k = if r.key = k then some r.frm else d0f l k := by
 unfold d0f; rw [List.foldl_append]; rfl
abbrev skO : Sk := (true, [.i .i64, .b, .i .i64, .s], true)
def gR (tab : Int) (l : List Rf) : List Value → Option (List IV)
 | [.int .i64 table, .bool t, .int .i64 n, .string s] => if table = tab then (d0f l ⟨t, n, s⟩).map Vs.cells else none
 | _ => none
@[simp] theorem lk_gR (tab : Int) (l : List Rf) (t : Bool) (n : Int) (s : ByteArray) :
   lkR [.iv (.v (.int .i64 0)), .iv (.v (.int .i64 0))] true false (gR tab l [Value.int .i64 tab, Value.bool t, Value.int .i64 n, Value.string s]) = .agg [vi ((d0f l ⟨t, n, s⟩).getD ⟨0, 0⟩).txn, vi ((d0f l ⟨t, n, s⟩).getD ⟨0, 0⟩).n] := by
 simp only [gR, if_pos trivial]
 cases d0f l ⟨t, n, s⟩ <;> rfl
theorem d2f (tab : Int) : gR tab [] = fun _ => none := by
 funext q; unfold gR; split
 · split <;> rfl
 · rfl
theorem d3f (tab : Int) (l : List Rf) (r : Rf) : gset (gR tab l) [.int .i64 tab, .bool r.key.text, .int .i64 r.key.n, .string r.key.s] (some [ci r.frm.txn, ci r.frm.n]) = gR tab (l ++ [r]) := by
 funext q
 simp only [gset]
 split
 · rename_i e; subst e; simp [gR, d1f]
 · rename_i hne
   unfold gR
   split
   · rename_i table t n s
     by_cases h1 : table = tab
     · subst h1
       rw [if_pos rfl, if_pos rfl, d1f, if_neg]
       rintro h2
       exact hne (by rw [h2])
     · rw [if_neg h1, if_neg h1]
   · rfl
theorem d4f (es : List Ev) (txn : Int) : (spots es txn).length ≤ es.length := by
 unfold spots; rw [List.length_map]; exact List.length_filter_le _ _
theorem d5f {es : List Ev} {txn : Int} (h : spots es txn = []) : gPi es [.int .i64 txn] = none := by simp [gPi, gP, h]
theorem d6f {es : List Ev} {txn : Int} (h : spots es txn ≠ []) : gPi es [.int .i64 txn] = some [.lst 4 ((spots es txn).map obC)] := by simp [gPi, gP, h]
def ckIV (h : Hs) (a es : List Ev) : IV := .pt [.lst 1 (tbsC h.tables), .lst 22 (evsC h.events), .lst 5 (insC h.order), .mp skS (gS a), .mp skW (gW es), .mp skS (gPi es)]
abbrev ckBox (h : Hs) : Ob := .box [.iv (.lst 1 (tbsC h.tables)), .iv (.lst 22 (evsC h.events)), .iv (.lst 5 (insC h.order)), .mpr 1001, .mpr 1002, .mpr 1003]
abbrev ckH (h : Hs) (a b c : List Ev) : Hp := [(1000, ckBox h), (1001, .map skS (gS a)), (1002, .map skW (gW b)), (1003, .mapo skS 4 (gP c) none)]
theorem d7f {es : List Ev} {e : Ev} (hk : e.kind = 1 ∨ e.kind = 5 ∨ e.kind = 6) : gset (gS es) [.int .i64 e.txn] (some [ci e.kind]) = gS (es ++ [e]) := by
 funext q
 simp only [gset]
 split
 · rename_i h; subst h
   have hs : stOf (es ++ [e]) e.txn = e.kind := by rw [d9e, if_pos ⟨rfl, hk⟩]
   simp only [gS, hs]
   rw [if_neg (by omega)]
 · rename_i hne
   unfold gS
   split
   · rename_i t
     have hs : stOf (es ++ [e]) t = stOf es t := by
       rw [d9e, if_neg]
       rintro ⟨rfl, _⟩; exact hne rfl
     rw [hs]
   · rfl
theorem d8f {es : List Ev} {e : Ev} (hk : ¬(e.kind = 1 ∨ e.kind = 5 ∨ e.kind = 6)) : gS (es ++ [e]) = gS es := by
 funext q
 unfold gS
 split
 · rename_i t
   have hs : stOf (es ++ [e]) t = stOf es t := by rw [d9e, if_neg fun g => hk g.2]
   rw [hs]
 · rfl
theorem d9f (es : List Ev) (e : Ev) (txn table : Int) (k : Vl) : c5Q (es ++ [e]) txn table k = c5Q es txn table k + if e.isW txn table k = true then 1 else 0 := by
 unfold c5Q
 rw [List.filter_append, List.length_append]
 congr 1
 cases hw : e.isW txn table k <;> simp [hw]
theorem d0g {es : List Ev} {e : Ev} (hk : e.kind = 3) : gset (gW es) [.int .i64 e.txn, .int .i64 e.table, .bool e.key.text, .int .i64 e.key.n, .string e.key.s] (some [ci ((c5Q es e.txn e.table e.key : Int) + 1)]) = gW (es ++ [e]) := by
 funext q
 simp only [gset]
 split
 · rename_i h; subst h
   have hw : c5Q (es ++ [e]) e.txn e.table ⟨e.key.text, e.key.n, e.key.s⟩ = c5Q es e.txn e.table e.key + 1 := by
     rw [d9f, if_pos (Ev.isW_iff.2 ⟨hk, rfl, rfl, rfl, rfl, rfl⟩)]
   simp only [gW, hw]
   rw [if_neg (by omega)]
   simp
 · rename_i hne
   unfold gW
   split
   · rename_i txn table t n s
     have hw : c5Q (es ++ [e]) txn table ⟨t, n, s⟩ = c5Q es txn table ⟨t, n, s⟩ := by
       rw [d9f, if_neg, Nat.add_zero]
       rw [Ev.isW_iff]
       rintro ⟨_, rfl, rfl, h1, h2, h3⟩
       simp only at h1 h2 h3
       subst h1 h2 h3
       exact hne rfl
     rw [hw]
   · rfl
theorem d1g {es : List Ev} {e : Ev} (hk : e.kind ≠ 3) : gW (es ++ [e]) = gW es := by
 funext q
 unfold gW
 split
 · rw [d9f, if_neg (fun g => hk (Ev.isW_iff.1 g).1), Nat.add_zero]
 · rfl
theorem d2g (es : List Ev) (e : Ev) (txn : Int) : spots (es ++ [e]) txn = spots es txn ++ (if e.kind = 3 ∧ e.txn = txn ∧ e.n = 1 then [(e.table, e.key)] else []) := by
 unfold spots
 rw [List.filter_append, List.map_append]
 congr 1
 simp only [List.filter_cons, List.filter_nil, Bool.and_eq_true, decide_eq_true_eq, and_assoc]
 split <;> simp
theorem d3g {es : List Ev} {e : Ev} (hk : e.kind = 3) (hn : e.n = 1) : gset (gP es) [.int .i64 e.txn] (some ((spots es e.txn).map obC ++ [obC (e.table, e.key)])) = gP (es ++ [e]) := by
 funext q
 simp only [gset]
 split
 · rename_i h; subst h
   have hs : spots (es ++ [e]) e.txn = spots es e.txn ++ [(e.table, e.key)] := by rw [d2g, if_pos ⟨hk, rfl, hn⟩]
   simp only [gP, hs]
   rw [if_neg (by simp)]
   simp
 · rename_i hne
   unfold gP
   split
   · rename_i t
     have hs : spots (es ++ [e]) t = spots es t := by
       rw [d2g, if_neg, List.append_nil]
       rintro ⟨_, rfl, _⟩; exact hne rfl
     rw [hs]
   · rfl
theorem d4g {es : List Ev} {e : Ev} (hk : ¬(e.kind = 3 ∧ e.n = 1)) : gP (es ++ [e]) = gP es := by
 funext q
 unfold gP
 split
 · rename_i t
   have hs : spots (es ++ [e]) t = spots es t := by rw [d2g, if_neg (fun g => hk ⟨g.1, g.2.2⟩), List.append_nil]
   rw [hs]
 · rfl
theorem d5g {es : List Ev} {txn : Int} (h : spots es txn = []) : gP es [.int .i64 txn] = none := by simp [gP, h]
theorem d6g {es : List Ev} {txn : Int} (h : spots es txn ≠ []) : gP es [.int .i64 txn] = some ((spots es txn).map obC) := by simp [gP, h]
@[simp] theorem d7g {β : Type} (g : List Value → Option β) (k : List Value) (a b : Option β) : gset (gset g k a) k b = gset g k b := by
 funext q; simp only [gset]; split <;> rfl
end Go.Rt
end

section
namespace Go.Rt
open Go.Vm
theorem b5m {h : Hs} (ht : h.TbsOk) (a es : List Ev) (table : Int) (k : Vl) : b1v prog true n_a0g [.iv (ckIV h a es), vi table, k.av] [] (vb (ofP (b2h h table k))) [] := by
 refine a4H a0g_is (by simp) (by decide) rfl ?_
 simp -dsimp [a7d_key, ckIV]
 refine ⟨fun h1 => ⟨fun h2 => ?_, fun h2 => ?_⟩, fun h1 g => absurd g.1 (by omega)⟩
 · obtain ⟨n, rfl⟩ := Int.eq_ofNat_of_zero_le h1
   obtain ⟨t, htn⟩ : ∃ t, h.tables[n]? = some t := c8Y (by omega)
   have hT := ht t (List.mem_of_getElem? htn)
   obtain ⟨c, hc⟩ : ∃ c, t[0]? = some c := c8Y hT.1
   have hK : b2h h n k ↔ k.right = true ∧ k.text = c := by
     unfold b2h
     constructor
     · rintro ⟨_, t', h3, h4, h5⟩
       rw [show ((n : Int)).toNat = n from rfl, htn] at h3; cases h3
       rw [hc] at h5; cases h5
       exact ⟨h4, rfl⟩
     · rintro ⟨h4, h5⟩; exact ⟨h1, t, by simpa using htn, h4, by rw [hc, h5]⟩
   refine a0G (d5b k) (by simp) (by simp) ?_
   simp -dsimp
   refine ⟨fun h3 => ?_, fun h3 g => by rw [hK] at g; rw [h3] at g; cases g.1⟩
   simp -dsimp [htn, hc, tbIV, c4Y, hK, h3]
 · rintro ⟨_, t, h3, _⟩
   have := (List.getElem?_eq_some_iff.1 h3).1
   omega
theorem b6m (h : Hs) (a es : List Ev) (table : Int) (k : Vl) (v : Vs) :
   b1v prog true n_a1g [.iv (ckIV h a es), .agg [.iv (ci table), .iv (cb k.text), .iv (ci k.n), .iv (.v (.string k.s))], v.av] [] (vb (ofP (b3h es table k v))) [] := by
 refine a4H a1g_is (by simp) (by decide) rfl ?_
 simp -dsimp [a7d_version, ckIV, c4Y, b3h]
 grind
end Go.Rt
end

section
namespace Go.Rt
open Go.Vm
theorem b0s {h : Hs} (ht : h.TbsOk) (a es : List Ev) (e : Ev) : b1v prog true n_a8d [.iv (ckIV h a es), e.av] [] (vb (ofP (e.kind = 2 → c0u h es e))) [] := by
 refine a4H a8d_is (by simp) (by decide) rfl ?_
 by_cases k2 : e.kind = 2
 · by_cases hw : 0 < c5Q es e.txn e.table e.key
   · simp -dsimp [a7d_read, ckIV, Ev.av, k2, hw]
     refine a0G (b5m ht a es e.table e.key) (by simp [ckIV]) (by simp [ckIV]) ?_
     simp -dsimp
     refine ⟨fun g => ?_, fun g g2 => g g2.1⟩
     rw [c4Y]
     unfold c0u
     rw [if_pos hw]
     simp [g, Vs.eq_iff]
   · have hR : c0u h es e ↔ b2h h e.table e.key ∧ ((e.frm.txn = 0 ∧ e.frm.n = 0) ∨ b3h es e.table e.key e.frm) := by
       unfold c0u
       rw [if_neg hw]
       simp [Vs.eq_iff]
     simp -dsimp [a7d_read, ckIV, Ev.av, k2, hw]
     refine a0G (b5m ht a es e.table e.key) (by simp [ckIV]) (by simp [ckIV]) ?_
     simp -dsimp
     refine ⟨fun g => ⟨fun g2 => ?_, fun g2 g3 => hR.2 ⟨g, .inl ⟨g2, g3⟩⟩⟩, fun g g2 => g g2.1⟩
     refine a0G (b6m h a es e.table e.key e.frm) (by simp [ckIV]) (by simp [ckIV]) ?_
     simp -dsimp [c8Q, hR]
     grind
 · simp -dsimp [a7d_read, ckIV, Ev.av, k2]
def b1s (h : Hs) (es : List Ev) (e : Ev) : Prop := (0 ≤ e.table ∧ ∃ t, h.tables[e.table.toNat]? = some t ∧ PdOk t e.pred) ∧ Upto e.refs.length (c1u h es e) ∧
 ∀ o, o ∈ spots es e.txn → o.1 = e.table → (d0f e.refs o.2).getD ⟨0, 0⟩ = ⟨e.txn, c5Q es e.txn o.1 o.2⟩
theorem b2s {h : Hs} (ht : h.TbsOk) (htl : h.tables.length < 2 ^ 63) (a es : List Ev) (hes : es.length < 2 ^ 63) (e : Ev) (heok : e.Ok) : b1v prog true n_a9d [.iv (ckIV h a es), e.av] [] (vb (ofP (e.kind = 4 → b1s h es e))) [] := by
 refine a4H a9d_is (by simp) (by decide) rfl ?_
 by_cases k4 : e.kind = 4
 · by_cases hT : 0 ≤ e.table ∧ e.table < h.tables.length
   · obtain ⟨t0, t1⟩ := id hT
     obtain ⟨t, htt⟩ : ∃ t, h.tables[e.table.toNat]? = some t := c8Y (by omega)
     have t2 : ¬(h.tables.length : Int) ≤ e.table := by omega
     have t3 : ¬e.table < 0 := by omega
     simp -dsimp [a7d_saw, ckIV, Ev.av, k4, t0, t3, t2, htt]
     refine a0G (b0v t heok.pred) (by simp [tbAV, Pd.av]) (by simp [tbAV, Pd.av]) ?_
     simp -dsimp
     have hS : b1s h es e ↔ PdOk t e.pred ∧ Upto e.refs.length (c1u h es e) ∧ ∀ o, o ∈ spots es e.txn → o.1 = e.table → (d0f e.refs o.2).getD ⟨0, 0⟩ = ⟨e.txn, c5Q es e.txn o.1 o.2⟩ := by
       unfold b1s
       constructor
       · rintro ⟨⟨_, t', g1, g2⟩, g3⟩
         rw [htt] at g1; cases g1; exact ⟨g2, g3⟩
       · rintro ⟨g2, g3⟩; exact ⟨⟨t0, t, htt, g2⟩, g3⟩
     refine ⟨fun h2 g => h2 (hS.1 g).1, fun h2 => ?_⟩
     refine a7H [] [7, 8] e.refs.length (fun i => ⟨[(47, vi i), (46, vi e.refs.length), (45, .iv (.lst 5 (c1Q e.refs))), (0, .iv (ckIV h a es)), (3, .ptr 3 0), (5, .mpr 43)],
         [(43, .map skO (gR e.table (e.refs.take i))), (3, .box (e.cells.map .iv))]⟩) (fun i => Upto i (c1u h es e)) ?_ ?_ ?_
     · simp -dsimp [d2f, ckIV]
     · simp
     · intro i hi hq
       simp -dsimp [a9d_l14, ckIV]
       refine ⟨fun hlt => ?_, fun hge => ?_⟩
       · obtain ⟨q, hqi⟩ := c8Y hlt
         have hre := heok.refs
         have hw := c9Y (n := (i : Int) + 1) (by omega)
         have hw1 := c9Y (n := (i : Int) - 1) (by omega)
         have hno : ¬c1u h es e i → ¬b1s h es e := fun g1 g => g1 (g.2.1 i hlt)
         have hat : c1u h es e i ↔ b2h h e.table q.key ∧ b3h es e.table q.key q.frm ∧ (∀ p, 0 < i → e.refs[i - 1]? = some p → p.key.cmp q.key < 0) := by
           unfold c1u; rw [hqi]
           exact ⟨fun g => g q rfl, fun g r hr => by cases hr; exact g⟩
         simp -dsimp [hqi, Rf.cells_eq q]
         refine a0G (b5m ht a es e.table q.key) (by simp [ckIV]) (by simp [ckIV]) ?_
         simp -dsimp
         by_cases k1 : b2h h e.table q.key
         · simp -dsimp [k1]
           refine a0G (b6m h a es e.table q.key q.frm) (by simp [ckIV]) (by simp [ckIV]) ?_
           simp -dsimp
           by_cases k2 : b3h es e.table q.key q.frm
           · by_cases hi0 : 0 < i
             · obtain ⟨p, hp⟩ : ∃ p, e.refs[i - 1]? = some p := c8Y (by omega)
               have e1 : ((i : Int) - 1).toNat = i - 1 := by omega
               have e2 : (0 : Int) ≤ (i : Int) - 1 := by omega
               simp -dsimp [k2, hi0, hw1, e1, e2, hp, Rf.cells_eq p]
               refine ⟨⟨by omega, a0G (b0n p.key q.key) (by simp) (by simp) ?_⟩, fun g => absurd g (by omega)⟩
               simp -dsimp [hw, d3f, c0R hqi]
               refine ⟨fun k3 => hno fun g => absurd ((hat.1 g).2.2 p hi0 hp) (by omega), fun k3 => ⟨hlt, hq.succ (hat.2 ⟨k1, k2, fun p' _ hp' => by rw [hp] at hp'; cases hp'; exact k3⟩)⟩⟩
             · simp -dsimp [k2, hi0, hw, d3f, c0R hqi]
               exact fun _ => ⟨hlt, hq.succ (hat.2 ⟨k1, k2, fun p h => absurd h hi0⟩)⟩
           · simp -dsimp [k2]
             exact hno fun g => k2 (hat.1 g).2.1
         · simp -dsimp [k1]
           exact hno fun g => k1 (hat.1 g).1
       · have hall : Upto e.refs.length (c1u h es e) := fun j hj => hq j (by omega)
         rw [List.take_of_length_le hge]
         by_cases hs : spots es e.txn = []
         · simp -dsimp [d5f hs]
           refine a7H [] [] 0 (fun i => ⟨[(102, vi i), (101, vi 0), (100, .nil 4), (0, .iv (ckIV h a es)), (3, .ptr 3 0), (5, .mpr 43)],
             [(43, .map skO (gR e.table e.refs)), (3, .box (e.cells.map .iv))]⟩) (fun _ => True) ?_ trivial ?_
           · simp -dsimp [ckIV]
           · intro j hj _
             obtain rfl : j = 0 := by omega
             simp -dsimp [a9d_l21]
             exact hS.2 ⟨h2, hall, by rw [hs]; simp⟩
         · simp -dsimp [d6f hs]
           refine a7H [] [10] (spots es e.txn).length (fun i => ⟨[(102, vi i), (101, vi (spots es e.txn).length), (100, .iv (.lst 4 ((spots es e.txn).map obC))), (0, .iv (ckIV h a es)), (3, .ptr 3 0), (5, .mpr 43)],
             [(43, .map skO (gR e.table e.refs)), (3, .box (e.cells.map .iv))]⟩) (fun i => ∀ o, o ∈ (spots es e.txn).take i → o.1 = e.table → (d0f e.refs o.2).getD ⟨0, 0⟩ = ⟨e.txn, c5Q es e.txn o.1 o.2⟩) ?_ ?_ ?_
           · simp -dsimp [ckIV]
           · simp
           · intro j hj hqj
             have hsl := d4f es e.txn
             simp -dsimp [a9d_l21, ckIV]
             refine ⟨fun hjlt => ?_, fun hjge => ?_⟩
             · obtain ⟨o, ho⟩ := c8Y hjlt
               have hwj := c9Y (n := (j : Int) + 1) (by omega)
               by_cases c : o.1 = e.table
               · simp -dsimp [ho, obC, c, hwj, c0R ho]
                 constructor
                 · intro g g2
                   have g3 := (hS.1 g2).2.2 o (List.mem_of_getElem? ho) c
                   rw [c] at g3
                   rw [g3] at g
                   simp at g
                 · intro g1 g2
                   refine ⟨hjlt, ?_⟩
                   rintro a' b (g | rfl) rfl
                   · exact hqj _ g rfl
                   · exact Vs.eq_iff.2 ⟨g1, g2⟩
               · simp -dsimp [ho, obC, c, hwj, c0R ho]
                 refine ⟨hjlt, ?_⟩
                 rintro a' b (g | rfl) rfl
                 · exact hqj _ g rfl
                 · exact absurd rfl c
             · rw [List.take_of_length_le hjge] at hqj
               exact hS.2 ⟨h2, hall, hqj⟩
   · have hno : ¬b1s h es e := by
       rintro ⟨⟨g0, t, g, _⟩, _⟩
       have := (List.getElem?_eq_some_iff.1 g).1
       omega
     by_cases t0 : 0 ≤ e.table
     · have t1 : ¬e.table < h.tables.length := fun g => hT ⟨t0, g⟩
       simp -dsimp [a7d_saw, ckIV, Ev.av, k4, t0, t1, hno]
     · simp -dsimp [a7d_saw, ckIV, Ev.av, k4, t0, hno]
 · simp -dsimp [a7d_saw, ckIV, Ev.av, k4]
end Go.Rt
end

section
namespace Go.Rt
open Go.Vm
def a8N (es : List Ev) (e : Ev) : Prop := 1 ≤ e.txn ∧ 1 ≤ e.kind ∧ e.kind ≤ 6 ∧ (e.kind = 1 → stOf es e.txn = 0 ∧ 1 ≤ e.level ∧ e.level ≤ 5) ∧ (e.kind ≠ 1 → stOf es e.txn = 1)
instance (es : List Ev) (e : Ev) : Decidable (a8N es e) := by unfold a8N; exact inferInstance
def esF (es : List Ev) (e : Ev) : List Ev := if a8N es e then es ++ [e] else es
theorem a9N (h : Hs) (es b c : List Ev) (e : Ev) : b1v prog false n_a6d [.ptr 1000 0, e.av] (ckH h es b c) (vb (ofP (a8N es e))) (ckH h (esF es e) b c) := by
 refine a1J a6d_is (by simp) (by decide) rfl rfl ?_
 by_cases hF : a8N es e
 · have hE : esF es e = es ++ [e] := if_pos hF
   rw [hE]
   obtain ⟨h1, h2, h3, h4, h5⟩ := id hF
   have n1 : ¬e.txn < 1 := by omega
   have n2 : ¬e.kind < 1 := by omega
   have n3 : ¬6 < e.kind := by omega
   by_cases k1 : e.kind = 1
   · obtain ⟨g1, g2, g3⟩ := h4 k1
     have n4 : ¬e.level < 1 := by omega
     have n5 : ¬5 < e.level := by omega
     have hg := d7f (es := es) (e := e) (.inl k1)
     rw [k1] at hg
     simp -dsimp [a7d_frame, Ev.av, n1, n2, n3, k1, g1, n4, n5, hg, hF]
   · have g1 := h5 k1
     by_cases k5 : e.kind = 5
     · have hg := d7f (es := es) (e := e) (.inr (.inl k5))
       rw [k5] at hg
       simp -dsimp [a7d_frame, Ev.av, n1, n2, n3, k1, g1, k5, hg, hF]
     · by_cases k6 : e.kind = 6
       · have hg := d7f (es := es) (e := e) (.inr (.inr k6))
         rw [k6] at hg
         simp -dsimp [a7d_frame, Ev.av, n1, n2, n3, k1, g1, k6, hg, hF]
       · have hg := d8f (es := es) (e := e) (by omega)
         simp -dsimp [a7d_frame, Ev.av, n1, n2, n3, k1, g1, k5, k6, hg, hF]
 · have hE : esF es e = es := if_neg hF
   rw [hE]
   simp -dsimp [a7d_frame, Ev.av, hF]
   unfold a8N at hF
   grind
def CkW (h : Hs) (es : List Ev) (e : Ev) : Prop := e.kind = 3 → b2h h e.table e.key ∧ e.n = c5Q es e.txn e.table e.key + 1
noncomputable def esW (h : Hs) (es : List Ev) (e : Ev) : List Ev := @ite _ (CkW h es e) (Classical.propDecidable _) (es ++ [e]) es
set_option maxRecDepth 5000 in
set_option maxHeartbeats 4000000 in
theorem a0O {h : Hs} (ht : h.TbsOk) (a es : List Ev) (hes : es.length < 2 ^ 40) (e : Ev) : b1v prog false n_a0e [.ptr 1000 0, e.av] (ckH h a es es) (vb (ofP (e.kind = 3 → c9t h es e))) (ckH h a (esW h es e) (esW h es e)) := by
 refine a1J a0e_is (by simp) (by decide) rfl rfl ?_
 by_cases k3 : e.kind = 3
 · simp -dsimp [a7d_write, Ev.av, k3]
   refine a0G (b5m ht a es e.table e.key) (by simp [ckIV]; rfl) (by simp [ckIV]) ?_
   by_cases hK : b2h h e.table e.key
   · have hwl := c7Q es e.txn e.table e.key
     have hw := c9Y (n := (c5Q es e.txn e.table e.key : Int) + 1) (by omega)
     by_cases hn : e.n = c5Q es e.txn e.table e.key + 1
     · have hE : esW h es e = es ++ [e] := if_pos fun g => ⟨hK, hn⟩
       rw [hE]
       obtain ⟨h0, t, htt, hr, hc⟩ := id hK
       have hgW := d0g (es := es) (e := e) k3
       have hWO : c9t h es e ↔ e.row = [] ∨ (Fits t e.row ∧ e.row[0]? = some e.key) := by
         unfold c9t
         constructor
         · rintro ⟨_, _, g | ⟨t', g2, g3, g4⟩⟩
           · exact .inl g
           · rw [htt] at g2; cases g2; exact .inr ⟨g3, g4⟩
         · rintro (g | ⟨g3, g4⟩)
           · exact ⟨hK, hn, .inl g⟩
           · exact ⟨hK, hn, .inr ⟨t, htt, g3, g4⟩⟩
       have hw1 : IntKind.i64.wrap 1 = 1 := by rw [IntKind.wrap_i64]; omega
       by_cases h1 : c5Q es e.txn e.table e.key = 0
       · have hn1 : e.n = 1 := by omega
         rw [h1] at hgW
         have hgP := d3g (es := es) (e := e) k3 hn1
         by_cases hs : spots es e.txn = []
         · rw [hs] at hgP
           by_cases hrow : e.row = []
           · simp -dsimp [hK, hw1, hn1, h1, d5g hs, hrow, hWO]
             exact ⟨hgW, hgP⟩
           · obtain ⟨v, hv⟩ : ∃ v, e.row[0]? = some v := c8Y (List.length_pos_iff.2 hrow)
             simp -dsimp [hK, hw1, hn1, h1, d5g hs, hrow, h0, htt]
             repeat' apply And.intro
             all_goals try omega
             all_goals
               refine a0G (d5c t e.row) (by simp [tbAV, c3Z, rowC]) (by simp [tbAV]) ?_
               by_cases hf : Fits t e.row
               · simp -dsimp [hf, hv, hWO, hrow, c4Y, Vl.eq_iff]
                 exact ⟨hgW, hgP⟩
               · simp -dsimp [hf, hWO, hrow]
                 exact ⟨hgW, hgP⟩
         · have hsl := d4f es e.txn
           by_cases hrow : e.row = []
           · simp -dsimp [hK, hw1, hn1, h1, d6g hs, hrow, hWO]
             exact ⟨by omega, by omega, hgW, hgP⟩
           · obtain ⟨v, hv⟩ : ∃ v, e.row[0]? = some v := c8Y (List.length_pos_iff.2 hrow)
             simp -dsimp [hK, hw1, hn1, h1, d6g hs, hrow, h0, htt]
             repeat' apply And.intro
             all_goals try omega
             all_goals
               refine a0G (d5c t e.row) (by simp [tbAV, c3Z, rowC]) (by simp [tbAV]) ?_
               by_cases hf : Fits t e.row
               · simp -dsimp [hf, hv, hWO, hrow, c4Y, Vl.eq_iff]
                 exact ⟨hgW, hgP⟩
               · simp -dsimp [hf, hWO, hrow]
                 exact ⟨hgW, hgP⟩
       · have hgP := d4g (es := es) (e := e) (by omega)
         have hn1 : ¬((c5Q es e.txn e.table e.key : Int) + 1 = 1) := by omega
         by_cases hrow : e.row = []
         · simp -dsimp [hK, hw, hn, hn1, hrow, hWO]
           exact ⟨hgW, hgP.symm⟩
         · obtain ⟨v, hv⟩ : ∃ v, e.row[0]? = some v := c8Y (List.length_pos_iff.2 hrow)
           simp -dsimp [hK, hw, hn, hn1, hrow, h0, htt]
           repeat' apply And.intro
           all_goals
             refine a0G (d5c t e.row) (by simp [tbAV, c3Z, rowC]) (by simp [tbAV]) ?_
             by_cases hf : Fits t e.row
             · simp -dsimp [hf, hv, hWO, hrow, c4Y, Vl.eq_iff]
               exact ⟨hgW, hgP.symm⟩
             · simp -dsimp [hf, hWO, hrow]
               exact ⟨hgW, hgP.symm⟩
     · have hE : esW h es e = es := if_neg fun g => hn (g k3).2
       rw [hE]
       simp -dsimp [hK, hw, hn]
       exact fun g => hn g.2.1
   · have hE : esW h es e = es := if_neg fun g => hK (g k3).1
     rw [hE]
     simp -dsimp [hK]
     exact fun g => hK g.1
 · have hE : esW h es e = es ++ [e] := if_pos fun g => absurd g k3
   rw [hE]
   simp -dsimp [a7d_write, Ev.av, k3, d1g k3, d4g (fun g => k3 g.1)]
end Go.Rt
end

section
namespace Go.Rt
open Go.Vm
open Classical in
noncomputable def b2T (p : Int → Int × Vl → Prop) : List Value → Option (List IV)
 | [.int .i64 txn, .int .i64 table, .bool t, .int .i64 n, .string s] => if p txn (table, ⟨t, n, s⟩) then some [ci 1] else none
 | _ => none
theorem b3T : b2T (fun _ _ => False) = fun _ => none := by
 funext q; unfold b2T; split
 · rw [if_neg]; exact fun h => h
 · rfl
theorem b4T {p p' : Int → Int × Vl → Prop} (h : ∀ t o, p t o ↔ p' t o) : b2T p = b2T p' := by
 have : p = p' := by funext t o; exact propext (h t o)
 rw [this]
theorem b5T (p : Int → Int × Vl → Prop) (txn : Int) (o : Int × Vl) : gset (b2T p) [.int .i64 txn, .int .i64 o.1, .bool o.2.text, .int .i64 o.2.n, .string o.2.s] (some [ci 1]) = b2T (fun t x => p t x ∨ (t = txn ∧ x = o)) := by
 funext q
 simp only [gset]
 split
 · rename_i h; subst h
   simp only [b2T]
   rw [if_pos]
   exact .inr ⟨rfl, rfl⟩
 · rename_i hne
   unfold b2T
   split
   · rename_i t table b n s
     have hn : ¬(t = txn ∧ (table, (⟨b, n, s⟩ : Vl)) = o) := by rintro ⟨rfl, rfl⟩; exact hne rfl
     by_cases hp : p t (table, ⟨b, n, s⟩)
     · rw [if_pos hp, if_pos (.inl hp)]
     · rw [if_neg hp, if_neg fun g => g.elim hp hn]
   · rfl
theorem b6T (p : Int → Int × Vl → Prop) (txn : Int) (o : Int × Vl) : gset (b2T p) [.int .i64 txn, .int .i64 o.1, .bool o.2.text, .int .i64 o.2.n, .string o.2.s] none = b2T (fun t x => p t x ∧ ¬(t = txn ∧ x = o)) := by
 funext q
 simp only [gset]
 split
 · rename_i h; subst h
   simp only [b2T]
   rw [if_neg]
   exact fun g => g.2 ⟨rfl, rfl⟩
 · rename_i hne
   unfold b2T
   split
   · rename_i t table b n s
     have hn : ¬(t = txn ∧ (table, (⟨b, n, s⟩ : Vl)) = o) := by rintro ⟨rfl, rfl⟩; exact hne rfl
     by_cases hp : p t (table, ⟨b, n, s⟩)
     · rw [if_pos hp, if_pos ⟨hp, hn⟩]
     · rw [if_neg hp, if_neg fun g => hp g.1]
   · rfl
open Classical in
theorem b7T (p : Int → Int × Vl → Prop) (txn table : Int) (t : Bool) (n : Int) (s : ByteArray) :
   lkR [.iv (.v (.int .i64 0))] false false (b2T p [Value.int .i64 txn, Value.int .i64 table, Value.bool t, Value.int .i64 n, Value.string s]) = vi (if p txn (table, ⟨t, n, s⟩) then 1 else 0) := by
 simp only [b2T]
 split <;> rfl
theorem b8T {p : Int → Int × Vl → Prop} : (∀ k, b2T p k = none) ↔ ∀ t o, ¬p t o := by
 constructor
 · intro h t o hp
   have := h [.int .i64 t, .int .i64 o.1, .bool o.2.text, .int .i64 o.2.n, .string o.2.s]
   simp only [b2T] at this
   rw [if_pos hp] at this
   cases this
 · intro h k
   unfold b2T
   split
   · rw [if_neg (h _ _)]
   · rfl
def metN (l : List Ins) (table : Int) (k : Vl) : Nat := (l.filter fun o => decide (o.table = table) && decide (o.key = k)).length
theorem b9T (l : List Ins) (o : Ins) (table : Int) (k : Vl) : metN (l ++ [o]) table k = metN l table k + if o.table = table ∧ o.key = k then 1 else 0 := by
 unfold metN
 rw [List.filter_append, List.length_append]
 congr 1
 simp only [List.filter_cons, List.filter_nil, Bool.and_eq_true, decide_eq_true_eq]
 split <;> rfl
theorem b0U {l : List Ins} {table : Int} {k : Vl} : metN l table k = 0 ↔ ∀ x, x ∈ l → ¬(x.table = table ∧ x.key = k) := by
 unfold metN
 rw [List.length_eq_zero_iff, List.filter_eq_nil_iff]
 simp
theorem b1U (l : List Ins) (table : Int) (k : Vl) : metN l table k ≤ l.length := List.length_filter_le _ _
abbrev skM : Sk := (true, [.i .i64, .b, .i .i64, .s], false)
def gMet (l : List Ins) : List Value → Option (List IV)
 | [.int .i64 table, .bool t, .int .i64 n, .string s] => if metN l table ⟨t, n, s⟩ = 0 then none else some [ci (metN l table ⟨t, n, s⟩)]
 | _ => none
theorem b2U : gMet [] = fun _ => none := by
 funext q; unfold gMet; split
 · rfl
 · rfl
@[simp] theorem lk_gMet (l : List Ins) (table : Int) (t : Bool) (n : Int) (s : ByteArray) :
   lkR [.iv (.v (.int .i64 0))] false false (gMet l [Value.int .i64 table, Value.bool t, Value.int .i64 n, Value.string s]) = vi (metN l table ⟨t, n, s⟩) := by
 simp only [gMet]
 by_cases h : metN l table ⟨t, n, s⟩ = 0
 · rw [if_pos h, h]; rfl
 · rw [if_neg h]; rfl
theorem b3U (l : List Ins) (o : Ins) : gset (gMet l) [.int .i64 o.table, .bool o.key.text, .int .i64 o.key.n, .string o.key.s] (some [ci ((metN l o.table o.key : Int) + 1)]) = gMet (l ++ [o]) := by
 funext q
 simp only [gset]
 split
 · rename_i h; subst h
   have hw : metN (l ++ [o]) o.table ⟨o.key.text, o.key.n, o.key.s⟩ = metN l o.table o.key + 1 := by
     rw [b9T, if_pos ⟨rfl, rfl⟩]
   simp only [gMet, hw]
   rw [if_neg (by omega)]
   simp
 · rename_i hne
   unfold gMet
   split
   · rename_i table t n s
     have hw : metN (l ++ [o]) table ⟨t, n, s⟩ = metN l table ⟨t, n, s⟩ := by
       rw [b9T, if_neg, Nat.add_zero]
       rintro ⟨rfl, h⟩
       rw [h] at hne
       exact hne rfl
     rw [hw]
   · rfl
theorem b4U {es : List Ev} {k : List Value} {c : List IV} (h : gPi es k = some c) : ∃ txn, k = [.int .i64 txn] ∧ spots es txn ≠ [] ∧ c = [.lst 4 ((spots es txn).map obC)] := by
 unfold gPi gP at h
 split at h
 · rename_i txn
   split at h
   · cases h
   · rename_i hne
     simp only [Option.map_some, Option.some.injEq] at h
     exact ⟨txn, rfl, hne, h.symm⟩
 · cases h
@[simp] theorem b5U {s : St} {fr : Bool} {ids : List Nat} : s.arg1 fr ids ∘ AV.iv = AV.iv := funext fun _ => by simp
theorem b6U {k q : List Value} {l : List (List Value)} : q ∈ rmk k l ↔ q ∈ l ∧ q ≠ k := by
 unfold rmk; rw [List.mem_filter]; simp
theorem b7z {k : List Value} {l : List (List Value)} (h : k ∈ l) : (rmk k l).length < l.length := by
 unfold rmk
 refine List.length_filter_lt_length_iff_exists.2 ⟨k, h, ?_⟩
 simp
@[simp] theorem gset_at {β : Type} (g : List Value → Option β) (k : List Value) (c : Option β) : gset g k c k = c := by simp [gset]
theorem b7U {P : Program} {c : VCode} {s : St} {O : Outs} (D D' : List Nat) (S : List (List Value) → Option (List Value) → St) (Q : List (List Value) → Prop) (L : List (List Value)) (h0 : LeTo D s (S L none)) (q0 : Q L)
   (hs : ∀ left last, Q left → wpV P c (S left last) { O with n := fun s2 => ∃ k last', k ∈ left ∧ LeTo D' s2 (S (rmk k left) last') ∧ Q (rmk k left) }) : a3P P c s O := by
 refine a5H (fun n s => ∃ left last, n = left.length ∧ s = S left last ∧ Q left) ⟨_, _, h0.le, L, none, rfl, rfl, q0⟩ ?_
 rintro k s' ⟨left, last, rfl, rfl, hq⟩
 refine c0c c (O := { O with n := fun s2 => ∃ k last', k ∈ left ∧ LeTo D' s2 (S (rmk k left) last') ∧ Q (rmk k left) }) (fun s2 h => ?_) (fun _ _ h => h) (fun _ h => h) (fun _ _ h => h) (hs left last hq)
 obtain ⟨k, last', hk, hle, hq'⟩ := h
 exact ⟨_, _, b7z hk, hle.le, _, _, rfl, rfl, hq'⟩
def b8U (h : Hs) (es : List Ev) (i : Nat) (o : Ins) : Prop := (∀ x, x ∈ h.order.take i → ¬(x.table = o.table ∧ x.key = o.key)) ∧ 0 < o.txns.length ∧
 Upto o.txns.length fun k => ∀ t, o.txns[k]? = some t → stOf es t = 5 ∧ (o.table, o.key) ∈ spots es t ∧ t ∉ o.txns.take k
def b9U (h : Hs) (es : List Ev) : Prop := (Upto h.order.length fun i => ∀ o, h.order[i]? = some o → b8U h es i o) ∧
 ∀ t o, stOf es t = 5 → o ∈ spots es t → ∃ x, x ∈ h.order ∧ (x.table = o.1 ∧ x.key = o.2) ∧ t ∈ x.txns
end Go.Rt
end

section
namespace Go.Rt
open Go.Vm
def c3e (h : Hs) (es : List Ev) (i : Nat) (t : Int) (o : Int × Vl) : Prop := (stOf es t = 5 ∧ o ∈ spots es t) ∧ ¬∃ x, x ∈ h.order.take i ∧ (x.table = o.1 ∧ x.key = o.2) ∧ t ∈ x.txns
theorem c4e {h : Hs} (hok : h.Ok) (es : List Ev) (hes : es.length < 2 ^ 40) : b1v prog true n_a1e [.iv (ckIV h es es)] [] (vb (ofP (b9U h es))) [] := by
 refine a4H a1e_is (by simp) (by decide) rfl ?_
 simp -dsimp [a7d_order, ckIV]
 intro L _ hL _
 refine b7U [] [] (fun left last => ⟨[(20, .ptr 20 0), (0, .iv (ckIV h es es)), (3, .mpr 15)], [(20, .iter skS (gPi es) left last), (15, .map skW (b2T fun t o => (stOf es t = 5 ∧ o ∈ spots es t) ∧ [Value.int .i64 t] ∉ left))]⟩)
   (fun left => ∀ k, k ∈ left → k ∈ L) L ?_ (fun _ h => h) ?_
 · have h0 : (b2T fun t o => (stOf es t = 5 ∧ o ∈ spots es t) ∧ [Value.int .i64 t] ∉ L) = fun _ => none := by
     rw [← b3T]
     refine b4T fun t o => ⟨?_, fun g => g.elim⟩
     rintro ⟨⟨_, g⟩, g2⟩
     refine g2 ((hL _).2 ?_)
     rw [d6f (List.ne_nil_of_mem g)]
     intro g3; cases g3
   simp -dsimp [ckIV, h0]
 · intro left last hq
   simp -dsimp [a1e_l12, ckIV]
   refine ⟨?_, ?_⟩
   · rintro rfl
     have hol := hok.order
     refine a7H [20] [10, 11, 14] h.order.length (fun i => ⟨[(51, vi i), (50, vi h.order.length), (49, .iv (.lst 5 (insC h.order))), (3, .mpr 15), (8, .mpr 44)],
         [(44, .map skM (gMet (h.order.take i))), (15, .map skW (b2T (c3e h es i)))]⟩) (fun i => Upto i fun i => ∀ o, h.order[i]? = some o → b8U h es i o) ?_ ?_ ?_
     · have h0 : (b2T fun t o => (stOf es t = 5 ∧ o ∈ spots es t) ∧ ¬[Value.int .i64 t] ∈ ([] : List (List Value))) = b2T (c3e h es 0) := b4T fun t o => by simp [c3e]
       simp -dsimp [b2U]
       simpa using h0
     · exact c7Y
     · intro i hi hqi
       simp -dsimp [a1e_l31]
       refine ⟨fun hlt => ?_, fun hge => ?_⟩
       · obtain ⟨o, ho⟩ := c8Y hlt
         have hw := c9Y (n := (i : Int) + 1) (by omega)
         have hml := b1U (h.order.take i) o.table o.key
         rw [List.length_take] at hml
         have hw1 := c9Y (n := (metN (h.order.take i) o.table o.key : Int) + 1) (by omega)
         have hm0 := b0U (l := h.order.take i) (table := o.table) (k := o.key)
         have hno : ¬b8U h es i o → ¬b9U h es := fun g1 g => g1 (g.1 i hlt o ho)
         by_cases hm : metN (h.order.take i) o.table o.key = 0
         · have hg : gMet (h.order.take i) [.int .i64 o.table, .bool o.key.text, .int .i64 o.key.n, .string o.key.s] = none := by simp [gMet, hm]
           have hset := b3U (h.order.take i) o
           rw [hm] at hset
           have hw1' : IntKind.i64.wrap 1 = 1 := by rw [IntKind.wrap_i64]; omega
           have hset' : gset (gMet (h.order.take i)) [.int .i64 o.table, .bool o.key.text, .int .i64 o.key.n, .string o.key.s] (some [ci 1]) = gMet (h.order.take (i + 1)) := by rw [c0R ho]; exact hset
           have hm1 : metN (h.order.take (i + 1)) o.table o.key = 1 := by rw [c0R ho, b9T, hm, if_pos ⟨rfl, rfl⟩]
           have htl := hok.txns o (List.mem_of_getElem? ho)
           have hLo : ∀ t, c3e h es i t (o.table, o.key) ↔ stOf es t = 5 ∧ (o.table, o.key) ∈ spots es t := fun t =>
             ⟨fun g => g.1, fun g => ⟨g, fun ⟨x, g1, g2, _⟩ => hm0.1 hm x g1 g2⟩⟩
           simp -dsimp [ho, Ins.cells_eq o, hg, hm, hw1', hset', hm1]
           constructor
           all_goals
             intro n
             refine ⟨fun g => hno fun g2 => absurd g2.2.1 (by rw [g]; simp), fun hne => ?_⟩
             refine a7H [10] [14] o.txns.length (fun k => ⟨[(79, vi k), (78, vi o.txns.length), (77, .iv (.lst 1 (c1Z o.txns))), (11, .ptr 11 0), (51, vi i), (50, vi h.order.length), (49, .iv (.lst 5 (insC h.order))), (3, .mpr 15), (8, .mpr 44)],
                 [(11, .box [.iv (ci o.table), .iv (cb o.key.text), .iv (ci o.key.n), .iv (.v (.string o.key.s))]), (44, .map skM (gMet (h.order.take (i + 1)))), (15, .map skW (b2T fun t x => c3e h es i t x ∧ ¬(x = (o.table, o.key) ∧ t ∈ o.txns.take k)))]⟩)
               (fun k => Upto k fun k => ∀ t, o.txns[k]? = some t → stOf es t = 5 ∧ (o.table, o.key) ∈ spots es t ∧ t ∉ o.txns.take k) ?_ ?_ ?_
             · simp -dsimp
             · exact c7Y
             · intro k hk hqk
               simp -dsimp [a1e_l29]
               refine ⟨fun hklt => ?_, fun hkge => ?_⟩
               · obtain ⟨t, htk⟩ := c8Y hklt
                 have hwk := c9Y (n := (k : Int) + 1) (by omega)
                 simp -dsimp [htk, hwk, b7T]
                 refine ⟨fun g => hno fun g2 => ?_, fun g1 g2 => ⟨hklt, ?_, hqk.succ fun t' ht' => ?_⟩⟩
                 · obtain ⟨a1, a2, a3⟩ := g2.2.2 k hklt t htk
                   exact a3 (g ((hLo t).2 ⟨a1, a2⟩))
                 · refine (b6T _ t (o.table, o.key)).trans (b4T fun t' x => ?_)
                   rw [c0R htk, List.mem_append, List.mem_singleton]
                   constructor
                   · rintro ⟨⟨a1, a2⟩, a3⟩
                     exact ⟨a1, fun e g => g.elim (a2 e) fun e2 => a3 ⟨e2, e⟩⟩
                   · rintro ⟨a1, a2⟩
                     exact ⟨⟨a1, fun e g => a2 e (.inl g)⟩, fun g => a2 g.2 (.inr g.1)⟩
                 · rw [htk] at ht'; cases ht'
                   exact ⟨((hLo t).1 g1).1, ((hLo t).1 g1).2, g2⟩
               · simp -dsimp [hw]
                 refine ⟨hlt, b4T fun t x => ?_, Upto.succ hqi fun o' ho' => ?_⟩
                 · rw [List.take_of_length_le hkge]
                   unfold c3e
                   rw [c0R ho]
                   constructor
                   · rintro ⟨⟨a1, a2⟩, a3⟩
                     refine ⟨a1, ?_⟩
                     rintro ⟨y, b1, b2, b3⟩
                     rcases List.mem_append.1 b1 with b1 | b1
                     · exact a2 ⟨y, b1, b2, b3⟩
                     · simp only [List.mem_singleton] at b1; subst b1
                       exact a3 (by rw [b2.1, b2.2]) b3
                   · rintro ⟨a1, a2⟩
                     refine ⟨⟨a1, fun ⟨y, b1, b2, b3⟩ => a2 ⟨y, List.mem_append_left _ b1, b2, b3⟩⟩, fun e g => a2 ⟨o, by simp, ?_, g⟩⟩
                     subst e; exact ⟨rfl, rfl⟩
                 · rw [ho] at ho'; cases ho'
                   exact ⟨hm0.1 hm, List.length_pos_iff.2 hne, fun j hj => hqk j (by omega)⟩
         · have hn : ¬b8U h es i o := fun g => hm (hm0.2 g.1)
           obtain ⟨c, hc⟩ : ∃ c, gMet (h.order.take i) [.int .i64 o.table, .bool o.key.text, .int .i64 o.key.n, .string o.key.s] = some c := ⟨_, by simp only [gMet]; rw [if_neg hm]⟩
           have hc1 : c = [ci (metN (h.order.take i) o.table o.key)] := by
             simp only [gMet] at hc
             rw [if_neg hm] at hc
             exact (Option.some.inj hc).symm
           have hgt : (1 : Int) < (metN (h.order.take i) o.table o.key : Int) + 1 := by omega
           subst hc1
           simp -dsimp [ho, Ins.cells_eq o, hw1, hc, hgt]
           exact hno hn
       · intro n hn
         have h2 : (n = 0) ↔ b9U h es := by
           rw [hn, b8T]
           have hi' : i = h.order.length := by omega
           subst hi'
           unfold b9U c3e
           rw [List.take_length]
           constructor
           · intro g
             refine ⟨hqi, fun t o g1 g2 => ?_⟩
             have := g t o
             exact Classical.byContradiction fun g3 => this ⟨⟨g1, g2⟩, g3⟩
           · rintro ⟨_, g⟩ t o ⟨⟨g1, g2⟩, g3⟩
             exact g3 (g t o g1 g2)
         rw [c4Y, ← h2]
         simp
   · intro k c hk hc hkd
     obtain ⟨txn, rfl, hsp, rfl⟩ := b4U hc
     simp -dsimp [hc]
     by_cases h5 : stOf es txn = 5
     · have hsl := d4f es txn
       simp -dsimp [h5]
       refine a7H [] [7] (spots es txn).length (fun i => ⟨[(35, vi i), (34, vi (spots es txn).length), (33, .iv (.lst 4 ((spots es txn).map obC))), (4, vi txn), (20, .ptr 20 0), (0, .iv (ckIV h es es)), (3, .mpr 15)],
           [(20, .iter skS (gPi es) (rmk [.int .i64 txn] left) (some [.int .i64 txn])), (15, .map skW (b2T fun t o => ((stOf es t = 5 ∧ o ∈ spots es t) ∧ [Value.int .i64 t] ∉ left) ∨ (t = txn ∧ o ∈ (spots es txn).take i)))]⟩) (fun _ => True) ?_ trivial ?_
       · simp -dsimp [ckIV]
       · intro i hi _
         simp -dsimp [a1e_l11, ckIV]
         refine ⟨fun hlt => ?_, fun hge => ?_⟩
         · obtain ⟨o, ho⟩ := c8Y hlt
           have hw := c9Y (n := (i : Int) + 1) (by omega)
           simp -dsimp [ho, obC, hw, b5T, c0R ho]
           exact ⟨hlt, b4T fun t x => by grind⟩
         · refine ⟨_, hk, ⟨rfl, b4T fun t x => ?_⟩, fun q hq' => hq q (b6U.1 hq').1⟩
           rw [List.take_of_length_le hge, b6U]
           constructor
           · rintro (⟨g1, g2⟩ | ⟨rfl, g⟩)
             · exact ⟨g1, fun g => g2 g.1⟩
             · exact ⟨⟨h5, g⟩, fun g => g.2 rfl⟩
           · rintro ⟨⟨g1, g2⟩, g3⟩
             by_cases e : t = txn
             · subst e; exact .inr ⟨rfl, g2⟩
             · exact .inl ⟨⟨g1, g2⟩, fun g => g3 ⟨g, fun e2 => e (by cases e2; rfl)⟩⟩
     · simp -dsimp [h5]
       refine ⟨_, hk, ⟨rfl, b4T fun t x => ?_⟩, fun q hq' => hq q (b6U.1 hq').1⟩
       rw [b6U]
       constructor
       · rintro ⟨g1, g2⟩; exact ⟨g1, fun g => g2 g.1⟩
       · rintro ⟨⟨g1, g2⟩, g3⟩
         exact ⟨⟨g1, g2⟩, fun g => g3 ⟨g, fun e2 => h5 (by cases e2; exact g1)⟩⟩
end Go.Rt
end

section
namespace Go.Rt
open Go.Vm
def AskA (h : Hs) (es : List Ev) (e : Ev) : Prop := a8N es e ∧ (e.kind = 2 → c0u h es e) ∧ (e.kind = 4 → b1s h es e)
def b9A (h : Hs) (es : List Ev) (e : Ev) : Prop := a8N es e ∧ (e.kind = 2 → c0u h es e) ∧ (e.kind = 4 → b1s h es e) ∧ (e.kind = 3 → c9t h es e)
noncomputable def esX (h : Hs) (es : List Ev) (e : Ev) : List Ev := @ite _ (AskA h es e) (Classical.propDecidable _) (esW h es e) es
theorem b0B {h : Hs} (ht : h.TbsOk) (htl : h.tables.length < 2 ^ 63) (es : List Ev) (hes : es.length < 2 ^ 40) (e : Ev) (heok : e.Ok) :
   b1v prog false n_a5d [e.av, .ptr 1004 0] ((1004, .box [.ptr 1000 0]) :: ckH h es es es) (vb (ofP (b9A h es e))) ((1004, .box [.ptr 1000 0]) :: ckH h (esF es e) (esX h es e) (esX h es e)) := by
 refine a1J a5d_is (by simp) (by decide) rfl rfl ?_
 have hEF : ¬a8N es e → esF es e = es := fun g => if_neg g
 simp -dsimp [a5d, Ev.av]
 refine a3K (a9N h es es es e) rfl (by simp) (by simp [Ev.av]) (by simp [Ev.av]) (by simp) (by simp) (by simp) (by simp) ?_
 simp -dsimp
 refine ⟨fun h1 => ?_, fun h1 => ?_⟩
 · refine a0G (b0s ht (esF es e) es e) (by simp [ckIV, Ev.av]; rfl) (by simp [ckIV, Ev.av]) ?_
   by_cases h2 : e.kind = 2 → c0u h es e
   · simp -dsimp [c2Y.2 h2]
     refine a0G (b2s ht htl (esF es e) es (by omega) e heok) (by simp [ckIV, Ev.av]; rfl) (by simp [ckIV, Ev.av]) ?_
     by_cases h3 : e.kind = 4 → b1s h es e
     · have hX : esX h es e = esW h es e := if_pos ⟨h1, h2, h3⟩
       rw [hX]
       simp -dsimp [c2Y.2 h3]
       refine a3K (a0O ht (esF es e) es hes e) rfl (by simp) (by simp [Ev.av]) (by simp [Ev.av]) (by simp) (by simp) (by simp) (by simp) ?_
       simp -dsimp [c8Q]
       exact ⟨fun g => ⟨h1, h2, h3, g⟩, fun g => g.2.2.2⟩
     · have hX : esX h es e = es := if_neg fun g => h3 g.2.2
       rw [hX]
       simp -dsimp [c3Y.2 h3]
       exact fun g => h3 g.2.2.1
   · have hX : esX h es e = es := if_neg fun g => h2 g.2.1
     rw [hX]
     simp -dsimp [c3Y.2 h2]
     exact fun g => h2 g.2.1
 · have hX : esX h es e = es := if_neg fun g => h1 g.1
   rw [hX]
   exact ⟨fun g => h1 g.1, rfl, rfl⟩
end Go.Rt
end

section
namespace Go.Rt
open Go.Vm
theorem Ev.av_eq (e : Ev) : e.av = .agg ([ci e.txn, ci e.kind, ci e.level, ci e.table, cb e.key.text, ci e.key.n, .v (.string e.key.s), ci e.frm.txn, ci e.frm.n, ci e.n, .lst 3 (rowC e.row),
   ci e.pred.op, ci e.pred.col, cb e.pred.v.text, ci e.pred.v.n, .v (.string e.pred.v.s), cb e.pred.w.text, ci e.pred.w.n, .v (.string e.pred.w.s), .lst 9 (e.pred.l.map Pd.cells), .lst 5 (c1Q e.refs), cb e.cur].map .iv) := by
 unfold Ev.av; rw [Ev.cells_eq]
abbrev lkBox (h : Hs) : Ob := .box [.iv (.lst 1 (tbsC h.tables)), .iv (.lst 22 (evsC h.events)), .iv (.lst 5 (insC h.order)), .mpr 11, .mpr 12, .mpr 13]
abbrev lkH (h : Hs) (a b c : List Ev) : Hp := [(3, .box [.ptr 15 0]), (15, lkBox h), (11, .map skS (gS a)), (12, .map skW (gW b)), (13, .mapo skS 4 (gP c) none)]
theorem b2O {h : Hs} (ht : h.TbsOk) (htl : h.tables.length < 2 ^ 63) (es : List Ev) (hes : es.length < 2 ^ 40) (e : Ev) (heok : e.Ok) :
   b1v prog false n_a5d [e.av, .ptr 3 0] (lkH h es es es) (vb (ofP (b9A h es e))) (lkH h (esF es e) (esX h es e) (esX h es e)) := by
 have hs := b0B ht htl es hes e heok
 rw [Ev.av_eq] at hs ⊢
 exact hs.ren (Ren.swaps [(1004, 3), (1000, 15), (1001, 11), (1002, 12), (1003, 13)]) rfl
theorem b9q {P : Program} {c : VCode} {s s' : St} {O : Outs} (h : Le s s') (k : a3P P c s' O) : a3P P c s O := by
 obtain ⟨I, h3, h4⟩ := k
 exact ⟨I, h3.le h, h4⟩
theorem b3O : gS [] = fun _ => none := by
 funext q; unfold gS; split
 · rfl
 · rfl
theorem b4O : gW [] = fun _ => none := by
 funext q; unfold gW; split
 · rfl
 · rfl
theorem b5O : gP [] = fun _ => none := by
 funext q; unfold gP; split
 · rfl
 · rfl
theorem b6O : okFn prog n_a5d = true := by kernel_rfl
theorem b7O : okFn prog n_a1e = true := by kernel_rfl
def b8O (h : Hs) : Prop := ((1 ≤ h.tables.length ∧ h.tables.length ≤ 3) ∧ Upto h.tables.length fun i => ∀ t, h.tables[i]? = some t → TbOk t) ∧
 (Upto h.events.length fun i => ∀ e, h.events[i]? = some e → b9A h (h.events.take i) e) ∧ b9U h h.events
noncomputable def b9O (h : Hs) : Int := if ofP (b8O h) = true then 0 else 180
theorem b0P {h : Hs} (hc : b8O h) : b9O h = 0 := if_pos (c2Y.2 hc)
theorem b1P {h : Hs} (hc : ¬b8O h) : b9O h = 180 := if_neg (by simpa using hc)
theorem b2P {h : Hs} (hok : h.Ok) (hev : h.events.length < 2 ^ 40) : b1v prog true n_a9b [h.av] [] (vi (b9O h)) [] := by
 refine a4H a9b_is (by simp) (by decide) rfl ?_
 by_cases hn : 1 ≤ h.tables.length ∧ h.tables.length ≤ 3
 · have n1 : ¬(h.tables.length : Int) < 1 := by omega
   have n2 : ¬(3 : Int) < h.tables.length := by omega
   simp -dsimp [a9b, Hs.av, n1, n2]
   refine b9q (d9j _ (id := 13) (sk := skS) 4 rfl (by simp)) ?_
   refine a7H [] [7] h.tables.length (fun i => ⟨[(32, vi i), (31, vi h.tables.length), (30, .iv (.lst 1 (tbsC h.tables))), (4, .fn n_a5d [] [.ptr 3 0]), (5, .fn n_a1e [.ptr 15 0] []), (1, .ptr 1 0)],
       (1, .box [.iv (.lst 1 (tbsC h.tables)), .iv (.lst 22 (evsC h.events)), .iv (.lst 5 (insC h.order))]) :: lkH h [] [] []⟩) (fun i => Upto i fun i => ∀ t, h.tables[i]? = some t → TbOk t) ?_ ?_ ?_
   · simp -dsimp [b3O, b4O, b5O]
   · exact c7Y
   · intro i hi hq
     simp -dsimp [a9b_l10]
     refine ⟨fun hlt => ?_, fun hge => ?_⟩
     · obtain ⟨t, hti⟩ := c8Y hlt
       have hw := c9Y (n := (i : Int) + 1) (by omega)
       simp -dsimp [hti]
       refine a0G (d1c t) (by simp [tbAV]) (by simp [tbAV]) ?_
       simp -dsimp [hw]
       refine ⟨fun g => ?_, fun g => ⟨hlt, hq.succ fun t' ht' => by rw [hti] at ht'; cases ht'; exact g⟩⟩
       rw [b1P fun g2 => g (g2.1.2 i hlt t hti)]
     · have hT : h.TbsOk := fun t ht => by
         obtain ⟨j, hj⟩ := List.getElem?_of_mem ht
         exact hq j (by have := (List.getElem?_eq_some_iff.1 hj).1; omega) t hj
       have htl := hok.tables
       refine a7H [] [9] h.events.length (fun i => ⟨[(43, vi i), (42, vi h.events.length), (41, .iv (.lst 22 (evsC h.events))), (4, .fn n_a5d [] [.ptr 3 0]), (5, .fn n_a1e [.ptr 15 0] []), (1, .ptr 1 0)],
           (1, .box [.iv (.lst 1 (tbsC h.tables)), .iv (.lst 22 (evsC h.events)), .iv (.lst 5 (insC h.order))]) :: lkH h (h.events.take i) (h.events.take i) (h.events.take i)⟩)
         (fun i => Upto i fun i => ∀ e, h.events[i]? = some e → b9A h (h.events.take i) e) ?_ ?_ ?_
       · simp -dsimp
       · exact c7Y
       · intro j hj hqj
         simp -dsimp [a9b_l16]
         refine ⟨fun hjlt => ?_, fun hjge => ?_⟩
         · obtain ⟨e, he⟩ := c8Y hjlt
           have hwj := c9Y (n := (j : Int) + 1) (by omega)
           have heok := hok.ev e (List.mem_of_getElem? he)
           have hlen : (h.events.take j).length < 2 ^ 40 := by rw [List.length_take]; omega
           simp -dsimp [he]
           refine ⟨b6O, a3K (b2O hT htl (h.events.take j) hlen e heok) rfl (by simp) (by simp [Ev.av]) (by simp [Ev.av]) (by simp) (by simp) (by simp) (by simp) ?_⟩
           by_cases ha : b9A h (h.events.take j) e
           · have e1 : esF (h.events.take j) e = h.events.take (j + 1) := by rw [c0R he]; exact if_pos ha.1
             have e2 : esX h (h.events.take j) e = h.events.take (j + 1) := by
               rw [c0R he]
               unfold esX
               rw [if_pos ⟨ha.1, ha.2.1, ha.2.2.1⟩]
               exact if_pos fun g => ⟨(ha.2.2.2 g).1, (ha.2.2.2 g).2.1⟩
             simp -dsimp [ha, e1, e2, hwj]
             exact ⟨hjlt, hqj.succ fun e' he' => by rw [he] at he'; cases he'; exact ha⟩
           · simp -dsimp [ha]
             rw [b1P fun g2 => ha (g2.2.1 j hjlt e he)]
         · rw [List.take_of_length_le hjge]
           refine ⟨b7O, a4K (c4e hok h.events hev) (by simp) (by simp [ckIV]; rfl) (by simp [ckIV]) ?_⟩
           simp -dsimp
           constructor
           · intro g
             rw [b0P ⟨⟨hn, fun k hk => hq k (by omega)⟩, fun k hk => hqj k (by omega), g⟩]
           · intro g
             rw [b1P fun g2 => g g2.2.2]
 · have hno : ¬b8O h := fun g => hn g.1.1
   by_cases n1 : (h.tables.length : Int) < 1
   · simp -dsimp [a9b, Hs.av, n1, b1P hno]
   · have n2 : (3 : Int) < h.tables.length := by omega
     simp -dsimp [a9b, Hs.av, n1, n2, b1P hno]
end Go.Rt
end

section
namespace Go.Rt
open Go.Vm
theorem c9f {α : Type} {p : List α → Prop} (nil : p []) (snoc : ∀ (l : List α) (x : α), p l → p (l ++ [x])) (l : List α) : p l := by
 rw [← List.reverse_reverse l]
 induction l.reverse with
 | nil => exact nil
 | cons x r ih => rw [List.reverse_cons]; exact snoc _ _ ih
theorem c0g : ∀ {x y z : List UInt8}, Op.bytesLess x y = true → Op.bytesLess y z = true → Op.bytesLess x z = true
 | _, [], _, h, _ => by simp [Op.bytesLess] at h
 | _, _ :: _, [], _, h => by simp [Op.bytesLess] at h
 | [], _ :: _, _ :: _, _, _ => rfl
 | a :: x, b :: y, c :: z, h1, h2 => by
   simp only [Op.bytesLess, Bool.or_eq_true, decide_eq_true_eq, Bool.and_eq_true, beq_iff_eq] at h1 h2 ⊢
   rcases h1 with h1 | ⟨rfl, h1⟩
   · rcases h2 with h2 | ⟨rfl, h2⟩
     · exact .inl (UInt8.lt_trans h1 h2)
     · exact .inl h1
   · rcases h2 with h2 | ⟨rfl, h2⟩
     · exact .inl h2
     · exact .inr ⟨rfl, c0g h1 h2⟩
theorem c1g {a b : ByteArray} : scmp a b < 0 ↔ b6Z a b = true := by
 unfold scmp; split
 · rename_i h; simp [h]
 · rename_i h; split <;> simp [h]
theorem c2g {a b : Int} : icmp a b < 0 ↔ a < b := by
 unfold icmp; split
 · rename_i h; simp [h]
 · rename_i h; split <;> simp [h]
theorem c3g {a b : Vl} : a.cmp b < 0 ↔ (a.text = true ∧ b.text = true ∧ b6Z a.s b.s = true) ∨ (a.text = false ∧ b.text = true) ∨ (a.text = false ∧ b.text = false ∧ a.n < b.n) := by
 unfold Vl.cmp
 cases a.text <;> cases b.text <;> simp [c1g, c2g]
theorem c4g {a b c : Vl} (h1 : a.cmp b < 0) (h2 : b.cmp c < 0) : a.cmp c < 0 := by
 rw [c3g] at *
 rcases h1 with ⟨h1, h3, h4⟩ | ⟨h1, h3⟩ | ⟨h1, h3, h4⟩ <;> rcases h2 with ⟨g1, g3, g4⟩ | ⟨g1, g3⟩ | ⟨g1, g3, g4⟩ <;> simp_all
 · exact c0g h4 g4
 · omega
theorem c5g (a : Vl) : ¬a.cmp a < 0 := by
 rw [c3g]
 simp [b9m]
theorem c6g {h : Hs} {es : List Ev} {e : Ev} (hr : Upto e.refs.length (c1u h es e)) : ∀ {i j : Nat}, i < j → ∀ {a b : Rf}, e.refs[i]? = some a → e.refs[j]? = some b → a.key.cmp b.key < 0 := by
 intro i j
 induction j with
 | zero => intro h; omega
 | succ j ih =>
   intro hij a b ha hb
   have hjl := (List.getElem?_eq_some_iff.1 hb).1
   obtain ⟨q, hq⟩ : ∃ q, e.refs[j]? = some q := c8Y (by omega)
   have h1 := (hr (j + 1) hjl b hb).2.2 q (by omega) (by simpa using hq)
   rcases Nat.lt_or_ge i j with h2 | h2
   · exact c4g (ih h2 ha hq) h1
   · obtain rfl : i = j := by omega
     rw [ha] at hq; cases hq; exact h1
theorem c7g {l : List Rf} (hu : ∀ a b, a ∈ l → b ∈ l → a.key = b.key → a = b) : ∀ k v, d0f l k = some v ↔ c4u l k v := by
 intro k v
 have key : ∀ (l' : List Rf), (∀ a, a ∈ l' → a ∈ l) → (d0f l' k = some v ↔ c4u l' k v) := by
   intro l'
   induction l' using c9f with
   | nil => intro _; simp [d0f]
   | snoc l' r ih =>
     intro hs
     have ih := ih fun a ha => hs a (List.mem_append_left _ ha)
     rw [d1f]
     have hthere : c4u (l' ++ [r]) k v ↔ c4u l' k v ∨ (r.key = k ∧ r.frm = v) := by
       rw [c6u, ← Vl.eq_iff, ← Vs.eq_iff]
     rw [hthere]
     by_cases hk : r.key = k
     · rw [if_pos hk]
       constructor
       · intro g; exact .inr ⟨hk, Option.some.inj g⟩
       · rintro (⟨q, g1, g2, g3⟩ | ⟨_, g⟩)
         · have := hu q r (hs q (List.mem_append_left _ g1)) (hs r (by simp)) (by rw [g2, hk])
           subst this; rw [g3]
         · rw [g]
     · rw [if_neg hk, ih]
       exact ⟨.inl, fun g => g.elim id fun g => absurd g.1 hk⟩
 exact key l fun _ h => h
theorem c8g {h : Hs} {es : List Ev} {e : Ev} (hr : Upto e.refs.length (c1u h es e)) : ∀ a b, a ∈ e.refs → b ∈ e.refs → a.key = b.key → a = b := by
 intro a b ha hb hk
 obtain ⟨i, hi⟩ := List.getElem?_of_mem ha
 obtain ⟨j, hj⟩ := List.getElem?_of_mem hb
 rcases Nat.lt_trichotomy i j with h1 | h1 | h1
 · have := c6g hr h1 hi hj; rw [hk] at this; exact absurd this (c5g _)
 · subst h1; rw [hi] at hj; exact Option.some.inj hj
 · have := c6g hr h1 hj hi; rw [hk] at this; exact absurd this (c5g _)
def c9g (es : List Ev) : Prop := ∀ t, (¬c1R es t ∧ c2R es t ∧ stOf es t = 0 ∧ b8g es t = 0) ∨ (c1R es t ∧ c2R es t ∧ stOf es t = 1 ∧ b8g es t = 0) ∨
 (c1R es t ∧ ¬c2R es t ∧ stOf es t = b8g es t ∧ (b8g es t = 5 ∨ b8g es t = 6))
theorem c9g.nil : c9g [] := fun t => .inl ⟨by simp, by simp, rfl, rfl⟩
theorem c9g.ck {es : List Ev} (hs : c9g es) (e : Ev) : a8N es e ↔ c7R es e := by
 unfold a8N c7R
 rcases hs e.txn with ⟨h1, h2, h3, h4⟩ | ⟨h1, h2, h3, h4⟩ | ⟨h1, h2, h3, h4⟩
 · rw [h3]; simp only [h1, h2]; grind
 · rw [h3]; simp only [h1, h2]; grind
 · rw [h3]; simp only [h1, h2]; grind
theorem c0h {es : List Ev} {t : Int} : c2R es t ↔ ∀ x, x ∈ es → ¬x.ends t := by
 unfold c2R Ev.ends
 constructor
 · rintro h x hx ⟨h1, h2⟩; have := h x hx h1; omega
 · intro h x hx h1; have := h x hx; constructor <;> (intro h2; exact this ⟨h1, by omega⟩)
theorem c1h {es r : List Ev} {t : Int} (h : c2R es t) : b8g (es ++ r) t = b8g r t := by
 rw [c0h] at h
 induction es with
 | nil => rfl
 | cons x es ih =>
   rw [List.cons_append, b8g, if_neg (h x List.mem_cons_self)]
   exact ih fun y hy => h y (List.mem_cons_of_mem _ hy)
theorem c2h {es r : List Ev} {t : Int} (h : ¬c2R es t) : b8g (es ++ r) t = b8g es t := by
 rw [c0h] at h
 induction es with
 | nil => exact absurd (fun x hx => by cases hx) h
 | cons x es ih =>
   rw [List.cons_append, b8g, b8g]
   by_cases hx : x.ends t
   · rw [if_pos hx, if_pos hx]
   · rw [if_neg hx, if_neg hx]
     refine ih fun g => h fun y hy => ?_
     rcases List.mem_cons.1 hy with rfl | hy
     · exact hx
     · exact g y hy
theorem c3h (e : Ev) (t : Int) : b8g [e] t = if e.ends t then e.kind else 0 := by rw [b8g]; rfl
theorem c9g.next {es : List Ev} (hs : c9g es) {e : Ev} (hf : c7R es e) : c9g (es ++ [e]) := by
 intro t
 obtain ⟨f1, f2, f3, f4, f5, f6⟩ := hf
 rw [c5R, c6R, d9e]
 by_cases ht : e.txn = t
 · subst ht
   rw [c1h f4, c3h]
   have hends : e.ends e.txn ↔ e.kind = 5 ∨ e.kind = 6 := ⟨fun g => g.2, fun g => ⟨rfl, g⟩⟩
   rcases hs e.txn with ⟨h1, h2, h3, h4⟩ | ⟨h1, h2, h3, h4⟩ | ⟨h1, h2, h3, h4⟩
   · have k1 : e.kind = 1 := Classical.byContradiction fun g => h1 (f6 g)
     right; left
     have : ¬e.ends e.txn := fun g => by have := hends.1 g; omega
     simp [k1, h2, this]
   · have k1 : e.kind ≠ 1 := fun g => (f5 g).1 h1
     by_cases k5 : e.kind = 5 ∨ e.kind = 6
     · right; right
       rw [if_pos ⟨rfl, .inr k5⟩, if_pos (hends.2 k5)]
       refine ⟨.inl h1, ?_, rfl, k5⟩
       rintro ⟨_, g⟩
       have := g rfl
       omega
     · right; left
       rw [if_neg (by rintro ⟨_, g⟩; omega), if_neg (fun g => k5 (hends.1 g))]
       exact ⟨.inl h1, ⟨h2, fun _ => by omega⟩, h3, rfl⟩
   · exact absurd f4 h2
 · have e1 : stOf es t = stOf es t := rfl
   rw [if_neg fun g => ht g.1]
   have e2 : b8g (es ++ [e]) t = b8g es t := by
     by_cases hn : c2R es t
     · rw [c1h hn, c3h, if_neg fun g => ht g.1]
       exact (b9g fun x hx => c0h.1 hn x hx).symm
     · exact c2h hn
   rw [e2]
   have e3 : (c1R es t ∨ e.txn = t) ↔ c1R es t := ⟨fun g => g.elim id fun g => absurd g ht, .inl⟩
   have e4 : (c2R es t ∧ (e.txn = t → e.kind ≠ 5 ∧ e.kind ≠ 6)) ↔ c2R es t := ⟨fun g => g.1, fun g => ⟨g, fun g2 => absurd g2 ht⟩⟩
   rw [e3, e4]
   exact hs t
def c4h (es : List Ev) : Prop := Upto es.length fun i => ∀ e, es[i]? = some e → c7R (es.take i) e
theorem c5h {α : Type} {l : List α} {x : α} {p : List α → α → Prop} : (Upto (l ++ [x]).length fun i => ∀ e, (l ++ [x])[i]? = some e → p ((l ++ [x]).take i) e) ↔
   (Upto l.length fun i => ∀ e, l[i]? = some e → p (l.take i) e) ∧ p l x := by
 constructor
 · intro h
   refine ⟨fun i hi e he => ?_, ?_⟩
   · have := h i (by rw [List.length_append]; omega) e (by rw [List.getElem?_append_left hi]; exact he)
     rwa [List.take_append_of_le_length (by omega)] at this
   · have := h l.length (by simp) x (by simp)
     rwa [List.take_left] at this
 · rintro ⟨h1, h2⟩ i hi e he
   by_cases hl : i < l.length
   · rw [List.getElem?_append_left hl] at he
     rw [List.take_append_of_le_length (by omega)]
     exact h1 i hl e he
   · have : i = l.length := by simp at hi; omega
     subst this
     rw [List.take_left]
     simp at he
     subst he
     exact h2
theorem c4h.stands {es : List Ev} : c4h es → c9g es := by
 induction es using c9f with
 | nil => exact fun _ => c9g.nil
 | snoc es e ih => intro h; have := c5h.1 h; exact (ih this.1).next this.2
def c6h (es : List Ev) : Prop := Upto es.length fun i => ∀ e, es[i]? = some e → e.kind = 3 → e.n = c5Q (es.take i) e.txn e.table e.key + 1
theorem c6h.spots {es : List Ev} : c6h es → ∀ t o, o ∈ spots es t ↔ 0 < c5Q es t o.1 o.2 := by
 induction es using c9f with
 | nil => intro _ t o; simp [Go.Rt.spots, c5Q]
 | snoc es e ih =>
   intro h t o
   have h2 := (c5h (p := fun (es : List Ev) (e : Ev) => e.kind = 3 → e.n = c5Q es e.txn e.table e.key + 1)).1 h
   rw [d2g, d9f, List.mem_append, ih h2.1 t o]
   obtain ⟨tab, k⟩ := o
   by_cases hw : e.isW t tab k = true
   · rw [if_pos hw]
     obtain ⟨w1, w2, w3, w4⟩ := Ev.isW_iff.1 hw
     have hk := Vl.eq_iff.2 w4
     subst w2 w3 hk
     have hn := h2.2 w1
     by_cases h0 : 0 < c5Q es e.txn e.table e.key
     · simp [h0]
     · rw [if_pos ⟨w1, rfl, by omega⟩]; simp
   · rw [if_neg hw, Nat.add_zero]
     constructor
     · rintro (g | g)
       · exact g
       · split at g
         · rename_i c
           simp only [List.mem_singleton, Prod.mk.injEq] at g
           exact absurd (Ev.isW_iff.2 ⟨c.1, c.2.1, g.1.symm, by rw [g.2], by rw [g.2], by rw [g.2]⟩) hw
         · cases g
     · exact .inl
theorem c7h {es : List Ev} {t tab : Int} {k : Vl} : 0 < c5Q es t tab k ↔ ∃ x, x ∈ es ∧ x.kind = 3 ∧ x.txn = t ∧ x.table = tab ∧ x.key = k := by
 unfold c5Q
 rw [List.length_pos_iff_exists_mem]
 constructor
 · rintro ⟨x, hx⟩
   obtain ⟨h1, h2⟩ := List.mem_filter.1 hx
   obtain ⟨w1, w2, w3, w4⟩ := Ev.isW_iff.1 h2
   exact ⟨x, h1, w1, w2, w3, Vl.eq_iff.2 w4⟩
 · rintro ⟨x, h1, w1, w2, w3, w4⟩
   exact ⟨x, List.mem_filter.2 ⟨h1, Ev.isW_iff.2 ⟨w1, w2, w3, Vl.eq_iff.1 w4⟩⟩⟩
theorem c8h {h : Hs} {es : List Ev} (hc : c6h es) {e : Ev} (he : 1 ≤ e.txn) : b1s h es e ↔ c3u h es e := by
 unfold b1s c3u
 refine and_congr_right fun _ => and_congr_right fun hr => ?_
 have hl := c7g (c8g hr)
 constructor
 · intro g x hx k3 k1 k2
   have hpos : 0 < c5Q es e.txn x.table x.key := c7h.2 ⟨x, hx, k3, k1, rfl, rfl⟩
   have := g (x.table, x.key) ((hc.spots _ _).2 hpos) k2
   rw [k2] at this
   cases hlr : d0f e.refs x.key with
   | none => rw [hlr] at this; have := congrArg Vs.txn this; simp at this; omega
   | some v => rw [hlr] at this; simp only [Option.getD_some] at this; subst this; exact (hl _ _).1 hlr
 · rintro g ⟨tab, k⟩ ho rfl
   have hpos := (hc.spots _ _).1 ho
   obtain ⟨x, hx, k3, k1, k2, rfl⟩ := c7h.1 hpos
   have := g x hx k3 k1 k2
   have h5 := (hl _ _).2 this
   simp only
   rw [h5]
   rfl
theorem c9h {h : Hs} {es : List Ev} (hs : c9g es) (hc : c6h es) {e : Ev} : b9A h es e ↔ b3s h es e := by
 unfold b9A b3s
 rw [hs.ck]
 constructor
 · rintro ⟨h1, h2, h3, h4⟩; exact ⟨h1, h2, h4, fun g => (c8h hc h1.1).1 (h3 g)⟩
 · rintro ⟨h1, h2, h3, h4⟩; exact ⟨h1, h2, fun g => (c8h hc h1.1).2 (h4 g), h3⟩
def c0i (h : Hs) (es : List Ev) : Prop := Upto es.length fun i => ∀ e, es[i]? = some e → b3s h (es.take i) e
theorem c0i.good {h : Hs} {es : List Ev} (g : c0i h es) : c4h es ∧ c6h es :=
 ⟨fun i hi e he => (g i hi e he).1, fun i hi e he k3 => ((g i hi e he).2.2.1 k3).2.1⟩
theorem c1i {h : Hs} (es : List Ev) : (Upto es.length fun i => ∀ e, es[i]? = some e → b9A h (es.take i) e) ↔ c0i h es := by
 induction es using c9f with
 | nil => exact ⟨fun _ => c7Y, fun _ => c7Y⟩
 | snoc es e ih =>
   unfold c0i
   rw [c5h (p := b9A h), c5h (p := b3s h), ih]
   refine and_congr_right fun g => ?_
   exact c9h g.good.1.stands g.good.2
theorem c2i {es : List Ev} (hs : c9g es) (t : Int) : stOf es t = 5 ↔ b8g es t = 5 := by
 rcases hs t with ⟨_, _, h3, h4⟩ | ⟨_, _, h3, h4⟩ | ⟨_, _, h3, h4⟩ <;> omega
theorem c3i {h : Hs} (hs : c9g h.events) (hc : c6h h.events) : b9U h h.events ↔
   (Upto h.order.length fun i => ∀ o, h.order[i]? = some o → b6s h i o) ∧ Upto h.events.length fun i => ∀ e, h.events[i]? = some e → b5s h e := by
 unfold b9U
 refine and_congr ?_ ?_
 · have key : ∀ i o, b8U h h.events i o ↔ b6s h i o := by
     intro i o
     unfold b8U b6s
     constructor
     · rintro ⟨h1, h2, h3⟩
       exact ⟨h1, fun k hk t ht => ⟨(c2i hs t).1 (h3 k hk t ht).1, Nat.pos_iff_ne_zero.1 ((hc.spots _ _).1 (h3 k hk t ht).2.1), (h3 k hk t ht).2.2⟩, h2⟩
     · rintro ⟨h1, h2, h3⟩
       exact ⟨h1, h3, fun k hk t ht => ⟨(c2i hs t).2 (h2 k hk t ht).1, (hc.spots _ _).2 (Nat.pos_iff_ne_zero.2 (h2 k hk t ht).2.1), (h2 k hk t ht).2.2⟩⟩
   constructor
   · intro g i hi o ho; exact (key i o).1 (g i hi o ho)
   · intro g i hi o ho; exact (key i o).2 (g i hi o ho)
 · constructor
   · intro g i hi e he k3 k5
     have hm := List.mem_of_getElem? he
     exact g e.txn (e.table, e.key) ((c2i hs _).2 k5) ((hc.spots _ _).2 (c7h.2 ⟨e, hm, k3, rfl, rfl, rfl⟩))
   · rintro g t ⟨tab, k⟩ h1 h2
     obtain ⟨x, hx, k3, rfl, rfl, rfl⟩ := c7h.1 ((hc.spots _ _).1 h2)
     obtain ⟨i, hi⟩ := List.getElem?_of_mem hx
     exact g i (List.getElem?_eq_some_iff.1 hi).1 x hi k3 ((c2i hs _).1 h1)
theorem c4i (h : Hs) : b8O h ↔ b8s h := by
 unfold b8O b8s
 rw [c1i]
 have hT : ((1 ≤ h.tables.length ∧ h.tables.length ≤ 3) ∧ Upto h.tables.length fun i => ∀ t, h.tables[i]? = some t → TbOk t) ↔ b7s h := by
   unfold b7s
   refine and_congr_right fun _ => ?_
   constructor
   · intro g t ht
     obtain ⟨j, hj⟩ := List.getElem?_of_mem ht
     exact g j (List.getElem?_eq_some_iff.1 hj).1 t hj
   · intro g i hi t ht; exact g t (List.mem_of_getElem? ht)
 rw [hT]
 refine and_congr_right fun _ => ?_
 constructor
 · rintro ⟨g1, g2⟩
   have g3 := (c3i g1.good.1.stands g1.good.2).1 g2
   exact ⟨fun i hi e he => ⟨g1 i hi e he, g3.2 i hi e he⟩, g3.1⟩
 · rintro ⟨g1, g2⟩
   have g4 : c0i h h.events := fun i hi e he => (g1 i hi e he).1
   exact ⟨g4, (c3i g4.good.1.stands g4.good.2).2 ⟨g2, fun i hi e he => (g1 i hi e he).2⟩⟩
end Go.Rt
end

section
namespace Go.Rt
open Go.Vm
structure Eg where
 frm : Int
 to : Int
 kind : Int
 table : Int
 key : Vl
 cursor : Bool
 deriving DecidableEq
def Eg.cells (e : Eg) : List IV := [ci e.frm, ci e.to, ci e.kind, ci e.table, cb e.key.text, ci e.key.n, .v (.string e.key.s), cb e.cursor]
theorem Eg.cells_eq (e : Eg) : e.cells = [ci e.frm, ci e.to, ci e.kind, ci e.table, cb e.key.text, ci e.key.n, .v (.string e.key.s), cb e.cursor] := rfl
def Eg.av (e : Eg) : AV := .agg (e.cells.map .iv)
def egsC (l : List Eg) : List (List IV) := l.map Eg.cells
def b0r (l : List Eg) : IV := .lst 8 (egsC l)
@[simp] theorem egsC_len (l : List Eg) : (egsC l).length = l.length := by simp [egsC]
@[simp] theorem egsC_get (l : List Eg) (i : Nat) : (egsC l)[i]? = (l[i]?).map Eg.cells := by simp [egsC]
theorem Eg.eq_iff {a b : Eg} : a = b ↔ a.frm = b.frm ∧ a.to = b.to ∧ a.kind = b.kind ∧ a.table = b.table ∧ a.key = b.key ∧ a.cursor = b.cursor := by
 obtain ⟨a1, a2, a3, a4, a5, a8⟩ := a
 obtain ⟨b1, b2, b3, b4, b5, b8⟩ := b
 simp
end Go.Rt
end

section
namespace Go.Rt
open Go.Vm
structure CmpOk {α : Type} (c : α → α → Int) : Prop where
 anti : ∀ a b, c a b < 0 ↔ 0 < c b a
 trans : ∀ a b d, c a b ≤ 0 → c b d ≤ 0 → c a d ≤ 0
def lexC {α : Type} (c1 c2 : α → α → Int) (a b : α) : Int := if c1 a b ≠ 0 then c1 a b else c2 a b
theorem CmpOk.lex {α : Type} {c1 c2 : α → α → Int} (h1 : CmpOk c1) (h2 : CmpOk c2) : CmpOk (lexC c1 c2) where
 anti := fun a b => by
   have p1 := h1.anti a b
   have p2 := h1.anti b a
   have q1 := h2.anti a b
   unfold lexC
   by_cases e : c1 a b = 0
   · have e2 : c1 b a = 0 := by omega
     rw [if_neg (by simpa using e), if_neg (by simpa using e2)]; exact q1
   · have e2 : c1 b a ≠ 0 := by omega
     rw [if_pos e, if_pos e2]; exact p1
 trans := fun a b d hab hbd => by
   have p1 := h1.anti a b
   have p2 := h1.anti b a
   have p3 := h1.anti b d
   have p4 := h1.anti d b
   have p5 := h1.anti a d
   have p6 := h1.anti d a
   have t1 := h1.trans a b d
   have t2 := h1.trans d a b
   have t3 := h1.trans b d a
   have q := h2.trans a b d
   unfold lexC at hab hbd ⊢
   split at hab <;> split at hbd <;> split <;> omega
theorem CmpOk.sub {α : Type} (f : α → Int) : CmpOk fun a b => f a - f b := ⟨fun a b => by omega, fun a b d h1 h2 => by omega⟩
theorem CmpOk.of {α β : Type} (f : α → β) {c : β → β → Int} (h : CmpOk c) : CmpOk fun a b => c (f a) (f b) := ⟨fun a b => h.anti _ _, fun a b d => h.trans _ _ _⟩
theorem b6C : ∀ (x y : List UInt8), Op.bytesLess x y = true ∨ x = y ∨ Op.bytesLess y x = true
 | [], [] => .inr (.inl rfl)
 | [], _ :: _ => .inl rfl
 | _ :: _, [] => .inr (.inr rfl)
 | a :: x, b :: y => by
   simp only [Op.bytesLess, Bool.or_eq_true, decide_eq_true_eq, Bool.and_eq_true, beq_iff_eq, List.cons.injEq]
   have hab : a < b ∨ a = b ∨ b < a := by
     rw [UInt8.lt_iff_toNat_lt, UInt8.lt_iff_toNat_lt, ← UInt8.toNat_inj]; omega
   rcases hab with h | rfl | h
   · exact .inl (.inl h)
   · rcases b6C x y with h | rfl | h
     · exact .inl (.inr ⟨rfl, h⟩)
     · exact .inr (.inl ⟨rfl, rfl⟩)
     · exact .inr (.inr (.inr ⟨rfl, h⟩))
   · exact .inr (.inr (.inl h))
theorem b7C (a b : ByteArray) : b6Z a b = true ∨ a = b ∨ b6Z b a = true := by
 unfold b6Z
 rcases b6C a.toList b.toList with h | h | h
 · exact .inl h
 · rw [b2n, b2n] at h
   exact .inr (.inl (by cases a; cases b; congr; exact Array.ext' h))
 · exact .inr (.inr h)
theorem b8C {a b c : ByteArray} (h1 : b6Z a b = true) (h2 : b6Z b c = true) : b6Z a c = true := c0g h1 h2
theorem b9C {a b : ByteArray} (h1 : b6Z a b = true) : b6Z b a = false := by
 cases h : b6Z b a with
 | false => rfl
 | true => have := b8C h1 h; rw [b9m] at this; cases this
theorem b0D : CmpOk scmp where
 anti := fun a b => by
   rw [c1g]
   unfold scmp
   rcases b7C a b with h | rfl | h
   · have hne : b ≠ a := by rintro rfl; rw [b9m] at h; cases h
     simp [h, b9C h, hne]
   · simp [b9m]
   · simp [h, b9C h]
 trans := fun a b d h1 h2 => by
   have le : ∀ x y : ByteArray, scmp x y ≤ 0 ↔ b6Z x y = true ∨ x = y := by
     intro x y
     unfold scmp
     by_cases h : b6Z x y = true
     · simp [h]
     · by_cases h' : x = y
       · subst h'; simp [b9m]
       · simp [h, h']
   rw [le] at *
   rcases h1 with h1 | rfl
   · rcases h2 with h2 | rfl
     · exact .inl (b8C h1 h2)
     · exact .inl h1
   · exact h2
theorem b1D : CmpOk icmp where
 anti := fun a b => by unfold icmp; split <;> split <;> (try split) <;> omega
 trans := fun a b d h1 h2 => by
   have le : ∀ x y : Int, icmp x y ≤ 0 ↔ x ≤ y := by
     intro x y
     unfold icmp
     by_cases h : x < y
     · rw [if_pos h]; omega
     · by_cases h' : y < x
       · rw [if_neg h, if_pos h']; omega
       · rw [if_neg h, if_neg h']; omega
   rw [le] at *; omega
theorem b2D : CmpOk Vl.cmp where
 anti := fun a b => by
   have h1 := b0D.anti a.s b.s
   have h2 := b1D.anti a.n b.n
   unfold Vl.cmp
   cases a.text <;> cases b.text <;> simp [h1, h2]
 trans := fun a b d => by
   have h1 := b0D.trans a.s b.s d.s
   have h2 := b1D.trans a.n b.n d.n
   unfold Vl.cmp
   cases a.text <;> cases b.text <;> cases d.text <;> simp <;> assumption
theorem b3D {a b : Vl} (ha : a.right = true) (hb : b.right = true) (h : a.cmp b = 0) : a = b := by
 rw [Vl.eq_iff]
 unfold Vl.right at ha hb
 unfold Vl.cmp at h
 cases hta : a.text <;> cases htb : b.text <;> simp only [hta, htb, if_true, if_false, Bool.false_eq_true] at h ha hb
 · unfold icmp at h
   refine ⟨rfl, by split at h <;> (try split at h) <;> omega, ?_⟩
   simp_all
 · omega
 · omega
 · unfold scmp at h
   have hs : a.s = b.s := by
     split at h
     · omega
     · split at h
       · assumption
       · omega
   simp_all
def Eg.cmp0 (a b : Eg) : Int :=
 if IntKind.i64.wrap (a.frm - b.frm) ≠ 0 then IntKind.i64.wrap (a.frm - b.frm)
 else if IntKind.i64.wrap (a.to - b.to) ≠ 0 then IntKind.i64.wrap (a.to - b.to)
 else if IntKind.i64.wrap (a.kind - b.kind) ≠ 0 then IntKind.i64.wrap (a.kind - b.kind)
 else if IntKind.i64.wrap (a.table - b.table) ≠ 0 then IntKind.i64.wrap (a.table - b.table)
 else a.key.cmp b.key
def Eg.cmp (a b : Eg) : Int := if a.cmp0 b ≠ 0 ∨ a.cursor = b.cursor then a.cmp0 b else if b.cursor = true then -1 else 1
def Eg.cmpN : Eg → Eg → Int := lexC (fun a b => a.frm - b.frm) (lexC (fun a b => a.to - b.to) (lexC (fun a b => a.kind - b.kind) (lexC (fun a b => a.table - b.table)
 (lexC (fun a b => a.key.cmp b.key) fun a b => (if a.cursor = true then 1 else 0) - (if b.cursor = true then 1 else 0)))))
theorem b4D : CmpOk Eg.cmpN := (CmpOk.sub Eg.frm).lex ((CmpOk.sub Eg.to).lex ((CmpOk.sub Eg.kind).lex ((CmpOk.sub Eg.table).lex ((b2D.of Eg.key).lex (CmpOk.sub fun e : Eg => if e.cursor = true then 1 else 0)))))
def Eg.lss (a b : Eg) : Bool :=
 if a.frm ≠ b.frm then decide (a.frm < b.frm) else if a.to ≠ b.to then decide (a.to < b.to) else if a.kind ≠ b.kind then decide (a.kind < b.kind)
 else if a.table ≠ b.table then decide (a.table < b.table) else if a.key.cmp b.key ≠ 0 then decide (a.key.cmp b.key < 0) else !a.cursor && b.cursor
theorem b5D (a b : Eg) : a.lss b = true ↔ a.cmpN b < 0 := by
 unfold Eg.lss Eg.cmpN lexC
 by_cases h1 : a.frm = b.frm
 · by_cases h2 : a.to = b.to
   · by_cases h3 : a.kind = b.kind
     · by_cases h4 : a.table = b.table
       · by_cases h5 : a.key.cmp b.key = 0
         · simp only [h1, h2, h3, h4, h5]
           cases a.cursor <;> cases b.cursor <;> simp
         · simp [h1, h2, h3, h4, h5]
       · have : a.table - b.table ≠ 0 := by omega
         simp only [h1, h2, h3, ne_eq, not_true, if_false, h4, not_false_eq_true, if_true, this, Int.sub_self, decide_eq_true_eq]; omega
     · have : a.kind - b.kind ≠ 0 := by omega
       simp only [h1, h2, ne_eq, not_true, if_false, h3, not_false_eq_true, if_true, this, Int.sub_self, decide_eq_true_eq]; omega
   · have : a.to - b.to ≠ 0 := by omega
     simp only [h1, ne_eq, not_true, if_false, h2, not_false_eq_true, if_true, this, Int.sub_self, decide_eq_true_eq]; omega
 · have : a.frm - b.frm ≠ 0 := by omega
   simp only [ne_eq, h1, not_false_eq_true, if_true, this, decide_eq_true_eq]; omega
theorem b6D {a b c : Eg} (h1 : a.lss b = true) (h2 : b.lss c = true) : a.lss c = true := by
 rw [b5D] at *
 have t1 := b4D.trans a b c (by omega) (by omega)
 have t2 := b4D.trans b c a (by omega)
 have := b4D.anti a c
 have := b4D.anti c a
 have := b4D.anti a b
 have := b4D.anti b a
 omega
theorem b7D {a b : Eg} (h : a.lss b = true) : b.lss a = false := by
 rw [← Bool.not_eq_true]
 intro h2
 rw [b5D] at *
 have := b4D.anti a b
 omega
theorem b8D (a : Eg) : a.lss a = false := by
 rw [← Bool.not_eq_true]
 intro h
 have := b7D h
 rw [h] at this; cases this
def Eg.Rt (e : Eg) : Prop := e.key.right = true
theorem b9D {a b : Eg} (ha : a.Rt) (hb : b.Rt) (h1 : a.lss b = false) (h2 : b.lss a = false) : a = b := by
 rw [← Bool.not_eq_true, b5D] at h1 h2
 have h3 := b4D.anti a b
 have h4 := b4D.anti b a
 have h0 : a.cmpN b = 0 := by omega
 unfold Eg.cmpN lexC at h0
 rw [Eg.eq_iff]
 by_cases e1 : a.frm - b.frm = 0
 · by_cases e2 : a.to - b.to = 0
   · by_cases e3 : a.kind - b.kind = 0
     · by_cases e4 : a.table - b.table = 0
       · by_cases e5 : a.key.cmp b.key = 0
         · simp only [e1, e2, e3, e4, e5, ne_eq, not_true, if_false] at h0
           refine ⟨by omega, by omega, by omega, by omega, b3D ha hb e5, ?_⟩
           revert h0
           cases a.cursor <;> cases b.cursor <;> simp
         · simp only [e1, e2, e3, e4, ne_eq, not_true, if_false, e5, not_false_eq_true, if_true] at h0
       · simp only [e1, e2, e3, ne_eq, not_true, if_false, e4, not_false_eq_true, if_true] at h0
     · simp only [e1, e2, ne_eq, not_true, if_false, e3, not_false_eq_true, if_true] at h0
   · simp only [e1, ne_eq, not_true, if_false, e2, not_false_eq_true, if_true] at h0
 · simp only [ne_eq, e1, not_false_eq_true, if_true] at h0
def Rise (l : List Eg) : Prop := l.Pairwise fun a b => a.lss b = true
theorem Rise.nodup {l : List Eg} (h : Rise l) : l.Nodup := h.imp fun {a b} hab e => by subst e; rw [b8D] at hab; cases hab
theorem b0E {l r : List Eg} (hl : Rise l) (hr : Rise r) (h : ∀ e, e ∈ l ↔ e ∈ r) : l = r :=
 List.Perm.eq_of_pairwise (le := fun a b : Eg => a.lss b = true) (fun a b _ _ h1 h2 => by have := b7D h1; rw [h2] at this; cases this) hl hr ((List.perm_ext_iff_of_nodup hl.nodup hr.nodup).2 h)
def insE (e : Eg) : List Eg → List Eg
 | [] => [e]
 | x :: r => if x.lss e = true then x :: insE e r else if x = e then x :: r else e :: x :: r
theorem b1E {e m : Eg} : ∀ {l : List Eg}, m ∈ insE e l ↔ m = e ∨ m ∈ l
 | [] => by simp [insE]
 | x :: r => by
   unfold insE
   split
   · rw [List.mem_cons, b1E, List.mem_cons]; grind
   · split
     · rename_i h; subst h; rw [List.mem_cons]; grind
     · rw [List.mem_cons]
theorem b2E {e : Eg} (he : e.Rt) : ∀ {l : List Eg}, (∀ x, x ∈ l → x.Rt) → Rise l → Rise (insE e l)
 | [], _, _ => List.pairwise_singleton _ _
 | x :: r, hD, h => by
   obtain ⟨h1, h2⟩ := List.pairwise_cons.1 h
   unfold insE
   split
   · rename_i hx
     refine List.pairwise_cons.2 ⟨fun y hy => ?_, b2E he (fun y hy => hD y (List.mem_cons_of_mem _ hy)) h2⟩
     rcases b1E.1 hy with rfl | hy
     · exact hx
     · exact h1 y hy
   · rename_i hx
     split
     · exact h
     · rename_i hne
       have hex : e.lss x = true := by
         cases hc : e.lss x with
         | true => rfl
         | false => exact absurd (b9D (hD x List.mem_cons_self) he (by simpa using hx) hc) hne
       refine List.pairwise_cons.2 ⟨fun y hy => ?_, h⟩
       rcases List.mem_cons.1 hy with rfl | hy
       · exact hex
       · exact b6D hex (h1 y hy)
def putE (l : List Eg) (e : Eg) : List Eg := if e.frm = e.to then l else insE e l
theorem b3E {m : Eg} : ∀ {es l : List Eg}, m ∈ es.foldl putE l ↔ m ∈ l ∨ (m ∈ es ∧ m.frm ≠ m.to)
 | [], l => by simp
 | e :: es, l => by
   rw [List.foldl_cons, b3E, List.mem_cons]
   unfold putE
   split
   · rename_i h; grind
   · rename_i h; rw [b1E]; grind
theorem b4E : ∀ {es l : List Eg}, (∀ x, x ∈ l → x.Rt) → (∀ x, x ∈ es → x.Rt) → Rise l → Rise (es.foldl putE l)
 | [], _, _, _, h => h
 | e :: es, l, hl, he, h => by
   rw [List.foldl_cons]
   have h0 := he e List.mem_cons_self
   refine b4E ?_ (fun x hx => he x (List.mem_cons_of_mem _ hx)) ?_
   · intro x hx
     unfold putE at hx
     split at hx
     · exact hl x hx
     · rcases b1E.1 hx with rfl | hx
       · exact h0
       · exact hl x hx
   · unfold putE
     split
     · exact h
     · exact b2E h0 hl h
theorem b5E : ∀ {es l : List Eg}, (es.foldl putE l).length ≤ l.length + es.length
 | [], l => by simp
 | e :: es, l => by
   rw [List.foldl_cons]
   have h1 := b5E (es := es) (l := putE l e)
   have h2 : (putE l e).length ≤ l.length + 1 := by
     unfold putE
     split
     · omega
     · clear h1
       induction l with
       | nil => simp [insE]
       | cons x r ih =>
         unfold insE
         split
         · simpa using ih
         · split <;> simp
   simp only [List.length_cons]; omega
theorem b6E {e : Eg} : ∀ {l : List Eg} {k : Nat}, k ≤ l.length → (∀ j, j < k → ∀ x, l[j]? = some x → x.lss e = true) → (∀ x, l[k]? = some x → x.lss e = false) →
   insE e l = if l[k]? = some e then l else l.take k ++ e :: l.drop k
 | [], k, hk, _, _ => by
   have : k = 0 := by simpa using hk
   subst this; simp [insE]
 | x :: r, 0, _, _, h2 => by
   have := h2 x rfl
   unfold insE
   rw [if_neg (by rw [this]; simp)]
   simp
 | x :: r, k + 1, hk, h1, h2 => by
   have := h1 0 (by omega) x rfl
   unfold insE
   rw [if_pos this, b6E (k := k) (by simpa using hk) (fun j hj y hy => h1 (j + 1) (by omega) y (by simpa using hy)) (fun y hy => h2 y (by simpa using hy))]
   simp only [List.getElem?_cons_succ, List.take_succ_cons, List.drop_succ_cons]
   split <;> rfl
structure Eg.D (e : Eg) : Prop where
 rt : e.Rt
 frm : 0 ≤ e.frm ∧ e.frm < 2 ^ 63
 to : 0 ≤ e.to ∧ e.to < 2 ^ 63
 kind : 0 ≤ e.kind ∧ e.kind < 2 ^ 63
 table : 0 ≤ e.table ∧ e.table < 2 ^ 63
theorem cmp_N {a b : Eg} (ha : a.D) (hb : b.D) : a.cmp b = a.cmpN b := by
 obtain ⟨_, a1, a2, a3, a4⟩ := ha
 obtain ⟨_, b1, b2, b3, b4⟩ := hb
 have w1 := c9Y (n := a.frm - b.frm) (by omega)
 have w2 := c9Y (n := a.to - b.to) (by omega)
 have w3 := c9Y (n := a.kind - b.kind) (by omega)
 have w4 := c9Y (n := a.table - b.table) (by omega)
 unfold Eg.cmp Eg.cmp0 Eg.cmpN lexC
 rw [w1, w2, w3, w4]
 by_cases e1 : a.frm - b.frm = 0
 · by_cases e2 : a.to - b.to = 0
   · by_cases e3 : a.kind - b.kind = 0
     · by_cases e4 : a.table - b.table = 0
       · by_cases e5 : a.key.cmp b.key = 0
         · simp only [e1, e2, e3, e4, e5, ne_eq, not_true, if_false, false_or]
           cases a.cursor <;> cases b.cursor <;> simp
         · simp only [e1, e2, e3, e4, e5, ne_eq, not_true, if_false, not_false_eq_true, true_or, if_true]
       · simp only [e1, e2, e3, e4, ne_eq, not_true, if_false, not_false_eq_true, true_or, if_true]
     · simp only [e1, e2, e3, ne_eq, not_true, if_false, not_false_eq_true, true_or, if_true]
   · simp only [e1, e2, ne_eq, not_true, if_false, not_false_eq_true, true_or, if_true]
 · simp only [e1, ne_eq, not_false_eq_true, true_or, if_true]
end Go.Rt
end

section
namespace Go.Rt
open Go.Vm
def c0n {α : Type} (p : α → Bool) (l : List α) : Option α := l.foldl (fun s e => if p e = true then some e else s) none
theorem c1n {α : Type} (p : α → Bool) (l : List α) (e : α) : c0n p (l ++ [e]) = if p e = true then some e else c0n p l := by
 unfold c0n; rw [List.foldl_append]; rfl
theorem c2n {α : Type} (p : α → Bool) : c0n p [] = none := rfl
theorem c3n {α : Type} (p : α → Bool) (l : List α) : c0n p l = l.reverse.find? p := by
 suffices h : ∀ r : List α, c0n p r.reverse = r.find? p by
   have := h l.reverse; rwa [List.reverse_reverse] at this
 intro r
 induction r with
 | nil => rfl
 | cons a r ih =>
   rw [List.reverse_cons, c1n, List.find?_cons, ih]
   cases p a <;> rfl
theorem c4n {α : Type} {p : α → Bool} {l : List α} : c0n p l = none ↔ ∀ e, e ∈ l → p e = false := by
 rw [c3n, List.find?_eq_none]
 simp only [List.mem_reverse, Bool.not_eq_true]
theorem c5n {α : Type} {p : α → Bool} {l : List α} {e : α} (h : c0n p l = some e) : e ∈ l ∧ p e = true := by
 rw [c3n] at h
 exact ⟨List.mem_reverse.1 (List.mem_of_find?_eq_some h), List.find?_some h⟩
abbrev skL : Sk := (false, [.i .i64], false)
abbrev skR : Sk := (true, [.i .i64, .b, .i .i64, .s, .i .i64, .i .i64], false)
abbrev skC : Sk := (true, [.i .i64, .b, .i .i64, .s], false)
def Ev.isB (t : Int) (e : Ev) : Bool := decide (e.kind = 1) && decide (e.txn = t)
def Ev.isN (txn table : Int) (k : Vl) (m : Int) (e : Ev) : Bool := e.isW txn table k && decide (e.n = m)
def Ins.isO (table : Int) (k : Vl) (o : Ins) : Bool := decide (o.table = table) && decide (o.key = k)
def vsC (l : List Vs) : List (List IV) := l.map Vs.cells
@[simp] theorem vsC_len (l : List Vs) : (vsC l).length = l.length := by simp [vsC]
@[simp] theorem c6n (l : List Vs) (i : Nat) : (vsC l)[i]? = (l[i]?).map Vs.cells := by simp [vsC]
def gLv (es : List Ev) : List Value → Option (List IV)
 | [.int .i64 t] => (c0n (Ev.isB t) es).map fun e => [ci e.level]
 | _ => none
def gRw (es : List Ev) : List Value → Option (List IV)
 | [.int .i64 table, .bool t, .int .i64 n, .string s, .int .i64 txn, .int .i64 m] => (c0n (Ev.isN txn table ⟨t, n, s⟩ m) es).map fun e => [.lst 3 (rowC e.row)]
 | _ => none
def gLs (es : List Ev) : List Value → Option (List IV)
 | [.int .i64 table, .bool t, .int .i64 n, .string s, .int .i64 txn, .int .i64 m] => if m = 0 then (c0n (Ev.isW txn table ⟨t, n, s⟩) es).map fun e => [ci e.n] else none
 | _ => none
def c7n (es : List Ev) (txn table : Int) (k : Vl) : Int := ((c0n (Ev.isW txn table k) es).map Ev.n).getD 0
def chnI (es : List Ev) (o : Ins) : List Vs := ⟨0, 0⟩ :: o.txns.map fun txn => ⟨txn, c7n es txn o.table o.key⟩
def gCh (es : List Ev) (os : List Ins) : List Value → Option (List IV)
 | [.int .i64 table, .bool t, .int .i64 n, .string s] => (c0n (Ins.isO table ⟨t, n, s⟩) os).map fun o => [.lst 2 (vsC (chnI es o))]
 | _ => none
theorem c8n : gLv [] = fun _ => none := by funext q; unfold gLv; split <;> rfl
theorem c9n : gRw [] = fun _ => none := by funext q; unfold gRw; split <;> rfl
theorem c0o : gLs [] = fun _ => none := by
 funext q; unfold gLs; split
 · split <;> rfl
 · rfl
theorem c1o (es : List Ev) : gCh es [] = fun _ => none := by funext q; unfold gCh; split <;> rfl
theorem c2o {es : List Ev} {e : Ev} (hk : e.kind = 1) : gset (gLv es) [.int .i64 e.txn] (some [ci e.level]) = gLv (es ++ [e]) := by
 funext q
 simp only [gset]
 split
 · rename_i h; subst h
   simp [gLv, c1n, Ev.isB, hk]
 · rename_i hne
   unfold gLv
   split
   · rename_i t
     rw [c1n, if_neg]
     simp only [Ev.isB, Bool.and_eq_true, decide_eq_true_eq]
     rintro ⟨_, rfl⟩; exact hne rfl
   · rfl
theorem c3o {es : List Ev} {e : Ev} (hk : e.kind ≠ 1) : gLv (es ++ [e]) = gLv es := by
 funext q
 unfold gLv
 split
 · rw [c1n, if_neg]
   simp [Ev.isB, hk]
 · rfl
theorem c4o {e : Ev} (hk : e.kind = 3) : e.isW e.txn e.table e.key = true := Ev.isW_iff.2 ⟨hk, rfl, rfl, rfl, rfl, rfl⟩
theorem c5o {es : List Ev} {e : Ev} (hk : e.kind = 3) :
   gset (gRw es) [.int .i64 e.table, .bool e.key.text, .int .i64 e.key.n, .string e.key.s, .int .i64 e.txn, .int .i64 e.n] (some [.lst 3 (rowC e.row)]) = gRw (es ++ [e]) := by
 funext q
 simp only [gset]
 split
 · rename_i h; subst h
   have : e.isN e.txn e.table e.key e.n = true := by unfold Ev.isN; rw [c4o hk]; simp
   simp [gRw, c1n, this]
 · rename_i hne
   unfold gRw
   split
   · rename_i table t n s txn m
     rw [c1n, if_neg]
     simp only [Ev.isN, Bool.and_eq_true, decide_eq_true_eq, Ev.isW_iff]
     rintro ⟨⟨_, h1, h2, h3, h4, h5⟩, h6⟩
     subst h1 h2 h3 h4 h5 h6
     exact hne rfl
   · rfl
theorem c6o {es : List Ev} {e : Ev} (hk : e.kind ≠ 3) : gRw (es ++ [e]) = gRw es := by
 funext q
 unfold gRw
 split
 · rw [c1n, if_neg]
   simp only [Ev.isN, Bool.and_eq_true, decide_eq_true_eq, Ev.isW_iff]
   exact fun h => hk h.1.1
 · rfl
theorem c7o {es : List Ev} {e : Ev} (hk : e.kind = 3) :
   gset (gLs es) [.int .i64 e.table, .bool e.key.text, .int .i64 e.key.n, .string e.key.s, .int .i64 e.txn, .int .i64 0] (some [ci e.n]) = gLs (es ++ [e]) := by
 funext q
 simp only [gset]
 split
 · rename_i h; subst h
   have := c4o hk
   simp [gLs, c1n, this]
 · rename_i hne
   unfold gLs
   split
   · rename_i table t n s txn m
     by_cases hm : m = 0
     · rw [if_pos hm, if_pos hm, c1n, if_neg]
       simp only [Ev.isW_iff]
       rintro ⟨_, h1, h2, h3, h4, h5⟩
       subst h1 h2 h3 h4 h5 hm
       exact hne rfl
     · rw [if_neg hm, if_neg hm]
   · rfl
theorem c8o {es : List Ev} {e : Ev} (hk : e.kind ≠ 3) : gLs (es ++ [e]) = gLs es := by
 funext q
 unfold gLs
 split
 · split
   · rw [c1n, if_neg]
     simp only [Ev.isW_iff]
     exact fun h => hk h.1
   · rfl
 · rfl
theorem c9o (es : List Ev) (os : List Ins) (o : Ins) : gset (gCh es os) [.int .i64 o.table, .bool o.key.text, .int .i64 o.key.n, .string o.key.s] (some [.lst 2 (vsC (chnI es o))]) = gCh es (os ++ [o]) := by
 funext q
 simp only [gset]
 split
 · rename_i h; subst h
   simp [gCh, c1n, Ins.isO]
 · rename_i hne
   unfold gCh
   split
   · rename_i table t n s
     rw [c1n, if_neg]
     simp only [Ins.isO, Bool.and_eq_true, decide_eq_true_eq, Vl.eq_iff]
     rintro ⟨h1, h2, h3, h4⟩
     subst h1 h2 h3 h4
     exact hne rfl
   · rfl
@[simp] theorem lk_gLs (es : List Ev) (txn table : Int) (t : Bool) (n : Int) (s : ByteArray) :
   lkR [.iv (.v (.int .i64 0))] false false (gLs es [.int .i64 table, .bool t, .int .i64 n, .string s, .int .i64 txn, .int .i64 0]) = vi (c7n es txn table ⟨t, n, s⟩) := by
 simp only [gLs, if_true, c7n]
 cases c0n (Ev.isW txn table ⟨t, n, s⟩) es <;> rfl
def c0p (es : List Ev) : List Int := (es.filter fun e => decide (e.kind = 5)).map Ev.txn
theorem c1p : c0p [] = [] := rfl
theorem c2p (es : List Ev) (e : Ev) : c0p (es ++ [e]) = c0p es ++ if e.kind = 5 then [e.txn] else [] := by
 unfold c0p
 rw [List.filter_append, List.map_append]
 congr 1
 by_cases h : e.kind = 5 <;> simp [h]
theorem c3p (es : List Ev) : (c0p es).length ≤ es.length := by
 unfold c0p; rw [List.length_map]; exact List.length_filter_le _ _
end Go.Rt
end

section
namespace Go.Rt
open Go.Vm
theorem b1B {α : Type} {p : α → Bool} {l : List α} (h : ∀ (i j : Nat) (a b : α), l[i]? = some a → l[j]? = some b → p a = true → p b = true → i = j) : c0n p l = l.find? p := by
 cases hf : l.find? p with
 | none =>
   rw [List.find?_eq_none] at hf
   rw [c4n]
   intro e he
   simpa using hf e he
 | some a =>
   have ha := List.mem_of_find?_eq_some hf
   have hpa := List.find?_some hf
   cases hl : c0n p l with
   | none => rw [c4n] at hl; rw [hl a ha] at hpa; cases hpa
   | some b =>
     obtain ⟨hb, hpb⟩ := c5n hl
     obtain ⟨i, hi⟩ := List.getElem?_of_mem ha
     obtain ⟨j, hj⟩ := List.getElem?_of_mem hb
     have := h i j a b hi hj hpa hpb
     subst this
     rw [hi] at hj; exact hj.symm
section
variable {h : Hs}
theorem b2B (hw : b8s h) {i : Nat} {e : Ev} (he : h.events[i]? = some e) : b3s h (h.events.take i) e ∧ b5s h e := hw.2.1 i (List.getElem?_eq_some_iff.1 he).1 e he
theorem b3B (hw : b8s h) {i : Nat} {o : Ins} (ho : h.order[i]? = some o) : b6s h i o := hw.2.2 i (List.getElem?_eq_some_iff.1 ho).1 o ho
theorem b4B (hw : b8s h) {i : Nat} {e : Ev} (he : h.events[i]? = some e) (hk : e.kind = 3) : c9t h (h.events.take i) e := (b2B hw he).1.2.2.1 hk
theorem b5B {es : List Ev} {i j : Nat} (hij : i ≤ j) (txn table : Int) (k : Vl) : c5Q (es.take i) txn table k ≤ c5Q (es.take j) txn table k := by
 unfold c5Q
 exact ((List.take_sublist_take_left hij).filter _).length_le
theorem b6B {es : List Ev} {i j : Nat} {e : Ev} (he : es[i]? = some e) (hij : i < j) {txn table : Int} {k : Vl} (hw : e.isW txn table k = true) : c5Q (es.take i) txn table k < c5Q (es.take j) txn table k := by
 have h1 := c6Q he txn table k
 rw [if_pos hw] at h1
 have h2 := b5B (es := es) (i := i + 1) (j := j) hij txn table k
 omega
theorem b7B {e : Ev} {txn table : Int} {k : Vl} (h : e.isW txn table k = true) : e.kind = 3 ∧ e.txn = txn ∧ e.table = table ∧ e.key = k := by
 obtain ⟨h1, h2, h3, h4, h5, h6⟩ := Ev.isW_iff.1 h
 exact ⟨h1, h2, h3, Vl.eq_iff.2 ⟨h4, h5, h6⟩⟩
theorem b8B (hw : b8s h) {i : Nat} {e : Ev} (he : h.events[i]? = some e) {txn table : Int} {k : Vl} (hk : e.isW txn table k = true) : e.n = c5Q (h.events.take i) txn table k + 1 := by
 obtain ⟨h1, rfl, rfl, rfl⟩ := b7B hk
 exact (b4B hw he h1).2.1
theorem b9B {e : Ev} {txn table : Int} {k : Vl} {m : Int} : e.isN txn table k m = true ↔ e.isW txn table k = true ∧ e.n = m := by
 unfold Ev.isN; rw [Bool.and_eq_true, decide_eq_true_eq]
theorem b0C (hw : b8s h) {txn table : Int} {k : Vl} {m : Int} : ∀ (i j : Nat) (a b : Ev), h.events[i]? = some a → h.events[j]? = some b → a.isN txn table k m = true → b.isN txn table k m = true → i = j := by
 intro i j a b hi hj ha hb
 rw [b9B] at ha hb
 have h1 := b8B hw hi ha.1
 have h2 := b8B hw hj hb.1
 rcases Nat.lt_trichotomy i j with g | g | g
 · have := b6B hi g ha.1; omega
 · exact g
 · have := b6B hj g hb.1; omega
theorem b1C (hw : b8s h) (txn table : Int) (k : Vl) : ∀ i, i ≤ h.events.length → c7n (h.events.take i) txn table k = c5Q (h.events.take i) txn table k := by
 intro i
 induction i with
 | zero => intro _; simp [c7n, c2n, c5Q]
 | succ i ih =>
   intro hi
   obtain ⟨e, he⟩ := c8Y (l := h.events) (i := i) (by omega)
   have h1 := c6Q he txn table k
   have htn : h.events.take (i + 1) = h.events.take i ++ [e] := by rw [List.take_add_one, he]; rfl
   rw [h1]
   unfold c7n
   rw [htn, c1n]
   by_cases hk : e.isW txn table k = true
   · rw [if_pos hk, if_pos hk]
     have := b8B hw he hk
     simp [this]
   · rw [if_neg hk, if_neg hk]
     have := ih (by omega)
     unfold c7n at this
     rw [this]; simp
theorem b2C (hw : b8s h) (txn table : Int) (k : Vl) : c7n h.events txn table k = c5Q h.events txn table k := by
 have := b1C hw txn table k h.events.length (Nat.le_refl _)
 rwa [List.take_length] at this
theorem b3C (hw : b8s h) (txn table : Int) (k : Vl) (m : Int) : c0n (Ev.isN txn table k m) h.events = h.events.find? (Ev.isN txn table k m) := b1B (b0C hw)
theorem b4C {v : Vl} (h : v.right = true) : v.s.size < 2 ^ 63 := by
 unfold Vl.right at h
 split at h
 · simp only [Bool.and_eq_true, decide_eq_true_eq] at h; omega
 · simp only [decide_eq_true_eq] at h; rw [h]; decide
theorem b5C (hw : b8s h) {e : Ev} (he : e ∈ h.events) (hk : e.kind = 3) : e.row.length < 2 ^ 40 ∧ ∀ x, x ∈ e.row → x.s.size < 2 ^ 63 := by
 obtain ⟨i, hi⟩ := List.getElem?_of_mem he
 rcases (b4B hw hi hk).2.2 with h1 | ⟨t, h1, h2, _⟩
 · rw [h1]; simp
 · obtain ⟨f1, f2, f3⟩ := h2
   have : t.length ≤ 4 := f1.2
   refine ⟨by omega, fun x hx => ?_⟩
   obtain ⟨j, hj⟩ := List.getElem?_of_mem hx
   have hjl := (List.getElem?_eq_some_iff.1 hj).1
   obtain ⟨c, hc⟩ := c8Y (l := t) (i := j) (by omega)
   exact b4C (f3 j hjl x c hj hc).2
end
end Go.Rt
end

section
namespace Go.Vm
@[simp] theorem ev_nilc {s : St} : s.ev (.const (.slice none 0 0)) = .nil 0 := rfl
def nilLe : List AV → List AV → Prop
 | [], [] => True
 | x :: r, y :: q => (x = y ∨ ∃ a b, x = .nil a ∧ y = .nil b) ∧ nilLe r q
 | _, _ => False
@[simp] theorem b7q : nilLe [] [] ↔ True := ⟨fun h => h, fun h => h⟩
@[simp] theorem b8q {x y : AV} {r q : List AV} : nilLe (x :: r) (y :: q) ↔ (x = y ∨ ∃ a b, x = .nil a ∧ y = .nil b) ∧ nilLe r q := ⟨fun h => h, fun h => h⟩
theorem b9q {P : Program} {c : VCode} {s s' : St} {O : Outs} (h : Le s s') (k : a3P P c s' O) : a3P P c s O := by
 obtain ⟨I, h3, h4⟩ := k
 exact ⟨I, h3.le h, h4⟩
end Go.Vm
end

section
namespace Go.Vm
theorem d0k {s : St} {id k : Nat} (h : k ∈ (s.drop id).hp.map (·.1)) : k ∈ s.hp.map (·.1) := by
 obtain ⟨o, ho⟩ := d0a h
 cases hs : look s.hp k with
 | none => rw [a7F hs] at ho; cases ho
 | some o' => exact a8I hs
theorem d1k (D : List Nat) : ∀ {s : St} {k : Nat}, k ∈ (s.drops D).hp.map (·.1) → k ∈ s.hp.map (·.1) := by
 induction D with
 | nil => intro s k h; exact h
 | cons i D ih => intro s k h; exact d0k (ih h)
def EndD (D : List Nat) (t : Nat) (x : IV) (s : St) : Prop := D.all (· < 1000) = true ∧ (s.drops D).get t = .iv x ∧ a1G s.hp = true
attribute [simp] EndD
theorem d2k {P : Program} {f : FuncId} {args : List AV} {x : IV} {n t : Nat} {c : VCode} (D : List Nat) (hf : fnV P f = some (n, c, [.tmp t]))
   (hargs : args.length ≤ n) (hn : n ≤ 999) (h : wpV P c ⟨c6j 0 args, []⟩ ⟨EndD D t x, fun _ _ => False, EndD D t x, fun _ _ => False⟩) : b1v P false f args [] (.iv x) [] :=
 d3a hf hargs rfl rfl (a3H (c3s hn _ _ _ h) fun s h => by
   have hk : ((s.drops D).hp.map (·.1)).all (· < 1000) = true := by
     rw [List.all_eq_true]
     intro k hk
     exact List.all_eq_true.1 (a4G h.2.2) k (d1k D hk)
   refine ⟨(s.drops D).drops ((s.drops D).hp.map (·.1)), [.iv x], (c3t D h.1 s).trans (c3t _ hk _), ?_, rfl, fun id => ?_, fun h => by cases h⟩
   · simp [resV, a6F _ h.2.1]
   · refine a8F _ ?_
     cases hl : look (s.drops D).hp id with
     | none => exact .inr rfl
     | some o => exact .inl (List.contains_iff_mem.1 (b5v hl)))
theorem d3k {s : St} {t id j sz lo len : Nat} (hj : id ≠ j) (h : s.get t = .sl j sz lo len) : (s.drop id).get t = .sl j sz lo len := by
 unfold St.drop
 split
 · exact h
 · simp only [St.get, St.mapc] at h ⊢
   rw [b7N (AV.mapc _)]
   cases hl : look s.fr t with
   | none => rw [hl] at h; cases h
   | some y =>
     rw [hl] at h
     simp only [Option.getD_some] at h
     subst h
     simp only [Option.map_some, Option.getD_some, AV.mapc, AV.fc]
     rw [if_neg (Ne.symm hj)]
     simp only [AV.kc]
     rw [if_neg (by simpa using Ne.symm hj)]
theorem d4k {s : St} {id j sz : Nat} {xs : List (List IV)} (hj : id ≠ j) (h : look s.hp j = some (.list sz xs)) : look (s.drop id).hp j = some (.list sz xs) := by
 unfold St.drop
 split
 · exact h
 · simp only [b8N, c2z, h, Option.map_some]
   rw [if_neg (Ne.symm hj)]
   rfl
theorem d5k (D : List Nat) : ∀ {s : St} {t j sz len : Nat} {xs : List (List IV)}, j ∉ D → s.get t = .sl j sz 0 len → look s.hp j = some (.list sz xs) → (s.drops D).get t = .sl j sz 0 len ∧ look (s.drops D).hp j = some (.list sz xs) := by
 induction D with
 | nil => intro s t j sz len xs _ h1 h2; exact ⟨h1, h2⟩
 | cons i D ih =>
   intro s t j sz len xs hj h1 h2
   have hij : i ≠ j := fun e => hj (by simp [e])
   exact ih (fun h => hj (List.mem_cons_of_mem _ h)) (d3k hij h1) (d4k hij h2)
def EndN (j sz t : Nat) (xs : List (List IV)) (s : St) : Prop := s.get t = .sl j sz 0 xs.length ∧ look s.hp j = some (.list sz xs) ∧ a1G s.hp = true
attribute [simp] EndN
theorem d6k {P : Program} {f : FuncId} {args : List AV} {n t : Nat} {c : VCode} (j sz : Nat) (xs : List (List IV)) (hf : fnV P f = some (n, c, [.tmp t]))
   (hargs : args.length ≤ n) (hn : n ≤ 999) (hx : ∀ x ∈ xs, ∀ y ∈ x, y.flat = true) (h : wpV P c ⟨c6j 0 args, []⟩ ⟨EndN j sz t xs, fun _ _ => False, EndN j sz t xs, fun _ _ => False⟩) :
   b1v P true f args [] (.sl j sz 0 xs.length) [(j, .list sz xs)] :=
 d3a hf hargs rfl rfl (a3H (c3s hn _ _ _ h) fun s h => by
   obtain ⟨h1, h2, h3⟩ := h
   let D := (s.hp.map (·.1)).filter (· ≠ j)
   have hD : D.all (· < 1000) = true := by
     rw [List.all_eq_true]
     intro k hk
     exact List.all_eq_true.1 (a4G h3) k (List.mem_filter.1 hk).1
   have hj : j ∉ D := fun hk => by have := (List.mem_filter.1 hk).2; simp at this
   obtain ⟨g1, g2⟩ := d5k D hj h1 h2
   refine ⟨s.drops D, [.sl j sz 0 xs.length], c3t D hD s, by simp [resV, g1], rfl, fun id => ?_, fun _ => ⟨rfl, fun id o ho => ?_⟩⟩
   · simp only [look]
     by_cases e : j = id
     · subst e; rw [if_pos rfl]; exact g2
     · rw [if_neg e]
       refine a8F _ ?_
       cases hl : look s.hp id with
       | none => exact .inr rfl
       | some o => exact .inl (List.mem_filter.2 ⟨a8I hl, by simpa using Ne.symm e⟩)
   · simp only [look] at ho
     split at ho
     · cases ho; exact hx
     · cases ho)
theorem b1v.fresh {P : Program} {f : FuncId} {args : List AV} {j sz n : Nat} {xs : List (List IV)} (h : b1v P true f args [] (.sl j sz 0 n) [(j, .list sz xs)]) (d : Nat)
   (hs : args.all AV.shal = true) (ha : ∀ ρ : Nat → Nat, args.map (AV.ren ρ) = args) : b1v P true f args [] (.sl d sz 0 n) [(d, .list sz xs)] := by
 have := h.ren (Ren.swap j d) (by simp [hs, AV.shal, AV.shal2, AV.shal1, Ob.shal])
 rw [ha] at this
 have e : (Ren.swap j d).to j = d := by simp [Ren.swap, a4x]
 simpa [Hp.ren, AV.ren, AV.ren2, AV.ren1, Ob.ren, e] using this
theorem d7k {P : Program} {d : Nat} {f : FuncId} {ops : List Operand} {s : St} {K : St → AV → Prop} {args : List AV} {sz n : Nat} {xs : List (List IV)} (h : b1v P true f args [] (.sl d sz 0 n) [(d, .list sz xs)]) (hd : d < 1000)
   (ha : (((s.drop d).args [] ops []).map ((s.drop d).arg true [])) = args) (hr : args.all (AV.inns []) = true) (hk : K ((s.drop d).join [(d, .list sz xs)]) (.sl d sz 0 n)) : a1P P d f [] ops [] none s K := by
 refine b6Q ⟨s, Le.refl s, true, [], .sl d sz 0 n, [(d, .list sz xs)], s.drop d, rfl, trivial, { spec := ?_, refs := ?_, sub := fun _ _ h => ?_, own := fun _ _ h => ?_, keep := fun _ _ h => ?_, new := fun id o h1 _ => ?_ }, hk⟩
 · rw [List.map_nil, ha]; exact h
 · rw [List.map_nil, ha]; exact hr
 · cases h
 · cases h
 · cases h
 · simp only [look] at h1
   split at h1
   · rename_i e; subst e; exact ⟨a2C s d, hd⟩
   · cases h1
end Go.Vm
end

section
namespace Go.Vm
def EndC (D : List Nat) (t j : Nat) (cs : List IV) (s : St) : Prop := D.all (· < 1000) = true ∧ (s.drops D).get t = .ptr j 0 ∧ look (s.drops D).hp j = some (.box (cs.map .iv)) ∧ a1G s.hp = true
attribute [simp] EndC
end Go.Vm
end

section
namespace Go.Rt
open Go.Vm
theorem b6l {xs : List (List IV)} (hl : xs.length < 2 ^ 40) : b1v prog false n_a1c [.iv (.lst 1 xs)] [] (.iv (.lst 1 xs)) [] := by
 refine d2k [2, 5] a1c_is (by simp) (by decide) ?_
 by_cases h : xs = []
 · subst h
   simp -dsimp [a2c_int]
 · simp -dsimp [a2c_int, h]
   omega
theorem b7l {xs : List (List IV)} (hl : xs.length < 2 ^ 40) : b1v prog false n_a3e [.iv (.lst 3 xs)] [] (.iv (.lst 3 xs)) [] := by
 refine d2k [2, 5] a3e_is (by simp) (by decide) ?_
 by_cases h : xs = []
 · subst h
   simp -dsimp [a3e]
 · simp -dsimp [a3e, h]
   omega
theorem b8l {xs : List (List IV)} (hl : xs.length < 2 ^ 40) : b1v prog false n_a0c [.iv (.lst 3 xs)] [] (.iv (.lst 3 xs)) [] := by
 refine d2k [2] a0c_is (by simp) (by decide) ?_
 simp -dsimp [a0c]
 refine a3K (b7l hl) rfl (by simp) (by simp) (by simp) (by simp) (by simp) (by simp) (by simp) ?_
 simp -dsimp
end Go.Rt
end

section
namespace Go.Rt
open Go.Vm
def c1a (o c d : Int) : Bool :=
 if o = 3 then c == 0 else if o = 4 then c != 0 else if o = 5 then decide (c < 0) else if o = 6 then decide (c ≤ 0) else if o = 7 then decide (0 < c) else if o = 8 then decide (0 ≤ c) else decide (0 ≤ c) && decide (d ≤ 0)
def Pd.leafB (p : Pd) (r : List Vl) : Bool := if p.col < 0 ∨ (r.length : Int) ≤ p.col then false else match r[p.col.toNat]? with
 | none => false
 | some x => c1a p.op (x.cmp p.v) (x.cmp p.w)
theorem c2a {p : Pd} {r : List Vl} (h : p.col < 0 ∨ (r.length : Int) ≤ p.col) : p.leafB r = false := by unfold Pd.leafB; rw [if_pos h]
theorem c3a {p : Pd} {r : List Vl} {k : Nat} {x : Vl} (hk : p.col = k) (hx : r[k]? = some x) : p.leafB r = c1a p.op (x.cmp p.v) (x.cmp p.w) := by
 have := (List.getElem?_eq_some_iff.1 hx).1
 unfold Pd.leafB
 rw [if_neg (by omega), hk, Int.toNat_natCast, hx]
theorem c4a {α : Type} {p : Pd} {r : List α} (h1 : ¬p.col < 0) (h2 : ¬(r.length : Int) ≤ p.col) : ∃ (k : Nat) (x : α), p.col = k ∧ r[k]? = some x := by
 obtain ⟨x, hx⟩ := c8Y (l := r) (i := p.col.toNat) (by omega)
 exact ⟨p.col.toNat, x, by omega, hx⟩
set_option maxHeartbeats 4000000 in
theorem c5a (p : Pd) (r : List Vl) (hr : r.length < 2 ^ 63) : b1v prog true n_a5g [p.av, .iv (.lst 3 (rowC r))] [] (vb (p.leafB r)) [] := by
 refine a4H a5g_is (by simp) (by decide) rfl ?_
 by_cases h1 : p.col < 0
 · simp -dsimp [b1S, Pd.av_eq, h1, c2a (.inl h1)]
 · by_cases h2 : (r.length : Int) ≤ p.col
   · simp -dsimp [b1S, Pd.av_eq, h1, h2, c2a (.inr h2)]
   · obtain ⟨k, x, hk, hx⟩ := c4a h1 h2
     have hkl : ¬(r.length : Int) ≤ k := by omega
     have hk0 : ¬(k : Int) < 0 := by omega
     rw [c3a hk hx]
     simp -dsimp [b1S, Pd.av_eq, hk, hkl, hk0, hx, b2Z]
     refine a0G (b0n x p.v) (by simp) (by simp) ?_
     generalize x.cmp p.v = c
     by_cases o3 : p.op = 3
     · simp -dsimp [o3, c1a]
     · by_cases o4 : p.op = 4
       · simp -dsimp [o4, c1a]
       · by_cases o5 : p.op = 5
         · simp -dsimp [o5, c1a]
         · by_cases o6 : p.op = 6
           · simp -dsimp [o6, c1a]
           · by_cases o7 : p.op = 7
             · simp -dsimp [o7, c1a]
             · by_cases o8 : p.op = 8
               · simp -dsimp [o8, c1a]
               · by_cases hc : 0 ≤ c
                 · simp -dsimp [o3, o4, o5, o6, o7, o8, c1a, hc, hx, b2Z]
                   refine a0G (b0n x p.w) (by simp) (by simp) ?_
                   simp -dsimp [o3, o4, o5, o6, o7, o8, c1a, hc]
                 · simp -dsimp [o3, o4, o5, o6, o7, o8, c1a, hc]
set_option maxHeartbeats 4000000 in
theorem c6a (p : Pd) (r : List Vl) (hr : r.length < 2 ^ 63) (hv : ∀ x, x ∈ r → x.s.size < 2 ^ 63) : b1v prog true n_a0i [p.av, .iv (.lst 3 (rowC r))] [] (vb (p.leafB r)) [] := by
 refine a4H a0i_is (by simp) (by decide) rfl ?_
 by_cases h1 : p.col < 0
 · simp -dsimp [b4S, Pd.av_eq, h1, c2a (.inl h1)]
 · by_cases h2 : (r.length : Int) ≤ p.col
   · simp -dsimp [b4S, Pd.av_eq, h1, h2, c2a (.inr h2)]
   · obtain ⟨k, x, hk, hx⟩ := c4a h1 h2
     have hkl : ¬(r.length : Int) ≤ k := by omega
     have hk0 : ¬(k : Int) < 0 := by omega
     have hs := hv x (List.mem_of_getElem? hx)
     rw [c3a hk hx]
     simp -dsimp [b4S, Pd.av_eq, hk, hkl, hk0, hx, b2Z]
     refine a0G (b7n x p.v hs) (by simp) (by simp) ?_
     generalize x.cmp p.v = c
     by_cases o3 : p.op = 3
     · simp -dsimp [o3, c1a]
     · by_cases o4 : p.op = 4
       · simp -dsimp [o4, c1a]
       · by_cases o5 : p.op = 5
         · simp -dsimp [o5, c1a]
         · by_cases o6 : p.op = 6
           · simp -dsimp [o6, c1a]
           · by_cases o7 : p.op = 7
             · simp -dsimp [o7, c1a]
             · by_cases o8 : p.op = 8
               · simp -dsimp [o8, c1a]
               · by_cases hc : 0 ≤ c
                 · simp -dsimp [o3, o4, o5, o6, o7, o8, c1a, hc]
                   refine a0G (b7n x p.w hs) (by simp) (by simp) ?_
                   simp -dsimp [o3, o4, o5, o6, o7, o8, c1a, hc]
                 · simp -dsimp [o3, o4, o5, o6, o7, o8, c1a, hc]
mutual
def Pd.holds (r : List Vl) : Pd → Bool
 | .mk o c v w l => if 3 ≤ o ∧ o ≤ 9 then (Pd.mk o c v w l).leafB r else if o = 1 then true else if o = 10 then !((Pd.holdsL r l).headD false) else if o = 11 then (Pd.holdsL r l).all id else if o = 12 then (Pd.holdsL r l).any id else false
def Pd.holdsL (r : List Vl) : List Pd → List Bool
 | [] => []
 | p :: q => p.holds r :: Pd.holdsL r q
end
theorem Pd.holdsL_map (r : List Vl) : ∀ l : List Pd, Pd.holdsL r l = l.map (Pd.holds r)
 | [] => by simp [Pd.holdsL]
 | p :: q => by simp [Pd.holdsL, Pd.holdsL_map r q]
theorem Pd.holds_eq (r : List Vl) (p : Pd) : p.holds r = if 3 ≤ p.op ∧ p.op ≤ 9 then p.leafB r else if p.op = 1 then true else if p.op = 10 then !((p.l.map (Pd.holds r)).headD false) else if p.op = 11 then p.l.all (Pd.holds r) else if p.op = 12 then p.l.any (Pd.holds r) else false := by
 cases p with
 | mk o c v w l =>
   rw [Pd.holds, Pd.holdsL_map]
   simp only [Pd.op, Pd.l, List.all_map, List.any_map]
   rfl
def fstB (r : List Vl) (l : List Pd) : Bool := (l.map (Pd.holds r)).headD false
def allB (r : List Vl) (l : List Pd) : Bool := l.all (Pd.holds r)
def anyB (r : List Vl) (l : List Pd) : Bool := l.any (Pd.holds r)
theorem c7a {r : List Vl} {l : List Pd} {i : Nat} {q : Pd} (h : l[i]? = some q) : fstB r (l.take (i + 1)) = if i = 0 then q.holds r else fstB r (l.take i) := by
 have htn : l.take (i + 1) = l.take i ++ [q] := by rw [List.take_add_one, h]; rfl
 have hil := (List.getElem?_eq_some_iff.1 h).1
 unfold fstB
 rw [htn]
 cases i with
 | zero => rfl
 | succ i =>
   cases l with
   | nil => cases hil
   | cons a b => rfl
theorem c8a {r : List Vl} {l : List Pd} {i : Nat} {q : Pd} (h : l[i]? = some q) : allB r (l.take (i + 1)) = (allB r (l.take i) && q.holds r) := by
 have htn : l.take (i + 1) = l.take i ++ [q] := by rw [List.take_add_one, h]; rfl
 unfold allB; rw [htn, List.all_append]; simp
theorem c9a {r : List Vl} {l : List Pd} {i : Nat} {q : Pd} (h : l[i]? = some q) : anyB r (l.take (i + 1)) = (anyB r (l.take i) || q.holds r) := by
 have htn : l.take (i + 1) = l.take i ++ [q] := by rw [List.take_add_one, h]; rfl
 unfold anyB; rw [htn, List.any_append]; simp
theorem Pd.holds_eq' (r : List Vl) (p : Pd) : p.holds r = if 3 ≤ p.op ∧ p.op ≤ 9 then p.leafB r else if p.op = 1 then true else if p.op = 10 then !fstB r p.l else if p.op = 11 then allB r p.l else if p.op = 12 then anyB r p.l else false := Pd.holds_eq r p
set_option maxHeartbeats 4000000 in
theorem c0b {p : Pd} (h : p.Ok) (r : List Vl) (hr : r.length < 2 ^ 63) (hv : ∀ x, x ∈ r → x.s.size < 2 ^ 63) : b1v prog true n_a1h [p.av, .iv (.lst 3 (rowC r))] [] (vb (p.holds r)) [] := by
 induction h with
 | mk p hl _ _ hq ih =>
 refine a4H a1h_is (by simp) (by decide) rfl ?_
 rw [Pd.holds_eq']
 by_cases ho : 3 ≤ p.op ∧ p.op ≤ 9
 · simp -dsimp [a1h, Pd.av_eq, ho.1, ho.2]
   refine a0G (c6a p r hr hv) (by simp [Pd.av_eq]) (by simp [Pd.av_eq]) ?_
   simp -dsimp
 · rw [if_neg ho]
   have hbox : ∀ i : Nat, i ≤ p.l.length → True := fun _ _ => trivial
   by_cases h3 : 3 ≤ p.op
   all_goals
     have h9 : 3 ≤ p.op → ¬p.op ≤ 9 := fun h h' => ho ⟨h, h'⟩
     simp -dsimp [a1h, Pd.av_eq, h3, h9]
     refine a7H [] [] p.l.length (fun i => ⟨[(8, vi i), (7, vb (fstB r (p.l.take i))), (6, vb (anyB r (p.l.take i))), (5, vb (allB r (p.l.take i))), (2, .ptr 2 0), (1, .iv (.lst 3 (rowC r)))], [(2, p.box)]⟩) (fun _ => True) (by simp [Pd.box, fstB, allB, anyB]) trivial ?_
     intro i hi _
     by_cases hil : i < p.l.length
     · obtain ⟨q, hqi⟩ := c8Y hil
       have hw := c9Y (n := (i : Int) + 1) (by omega)
       simp -dsimp [a1h_l14, Pd.box, hqi, Pd.cells_eq q]
       refine ⟨fun _ => ?_, fun h => absurd h (by omega)⟩
       refine a0G (ih q (List.mem_of_getElem? hqi)) (by simp [Pd.av_eq]) (by simp [Pd.av_eq]) ?_
       have hF := c7a (r := r) hqi
       have hA := c8a (r := r) hqi
       have hO := c9a (r := r) hqi
       rw [hF, hA, hO]
       generalize q.holds r = b
       generalize allB r (p.l.take i) = ba
       generalize anyB r (p.l.take i) = bo
       generalize fstB r (p.l.take i) = bf
       by_cases h0 : i = 0
       · subst h0
         cases ba <;> cases bo <;> simp -dsimp
         all_goals exact ⟨hil, by decide⟩
       · cases ba <;> cases bo <;> simp -dsimp [h0, hw]
         all_goals exact hil
     · have hie : i = p.l.length := by omega
       subst hie
       rw [List.take_length]
       simp -dsimp [a1h_l14, Pd.box]
       by_cases o1 : p.op = 1
       · simp -dsimp [o1]
       · by_cases o10 : p.op = 10
         · simp -dsimp [o10]
         · by_cases o11 : p.op = 11
           · simp -dsimp [o11]
           · by_cases o12 : p.op = 12
             · simp -dsimp [o12]
             · simp -dsimp [o1, o10, o11, o12]
end Go.Rt
end

section
namespace Go.Rt
open Go.Vm
def ixP {α : Type} (p : α → Bool) (l : List α) : Int := match l.findIdx? p with
 | some i => i
 | none => -1
theorem b0I {α : Type} {p : α → Bool} {l : List α} {i : Nat} {e : α} (he : l[i]? = some e) (h : p e = true) (hn : Upto i fun j => ∀ x, l[j]? = some x → p x = false) : ixP p l = i := by
 have : l.findIdx? p = some i := by
   rw [List.findIdx?_eq_some_iff_getElem]
   have hl := (List.getElem?_eq_some_iff.1 he).1
   have hg := (List.getElem?_eq_some_iff.1 he).2
   refine ⟨hl, by rw [hg]; exact h, fun j hj => ?_⟩
   have := hn j hj l[j] (List.getElem?_eq_getElem (by omega))
   simpa using this
 unfold ixP; rw [this]
theorem b1I {α : Type} {p : α → Bool} {l : List α} (hn : ∀ x, x ∈ l → p x = false) : ixP p l = -1 := by
 have : l.findIdx? p = none := by
   rw [List.findIdx?_eq_none_iff]
   exact hn
 unfold ixP; rw [this]
theorem b2I {α : Type} {l : List α} {i : Nat} {p : α → Prop} (hi : l.length ≤ i) (h : Upto i fun j => ∀ x, l[j]? = some x → p x) : ∀ x, x ∈ l → p x := by
 intro x hx
 obtain ⟨j, hj⟩ := List.getElem?_of_mem hx
 exact h j (by have := (List.getElem?_eq_some_iff.1 hj).1; omega) x hj
theorem b3I {α : Type} (p : α → Bool) (l : List α) : (∃ (i : Nat) (x : α), l[i]? = some x ∧ p x = true ∧ ixP p l = i ∧ ∀ j y, j < i → l[j]? = some y → p y = false) ∨ ((∀ x, x ∈ l → p x = false) ∧ ixP p l = -1) := by
 unfold ixP
 cases h : l.findIdx? p with
 | none =>
   rw [List.findIdx?_eq_none_iff] at h
   exact .inr ⟨h, rfl⟩
 | some i =>
   rw [List.findIdx?_eq_some_iff_getElem] at h
   obtain ⟨hl, h1, h2⟩ := h
   refine .inl ⟨i, l[i], List.getElem?_eq_getElem hl, h1, rfl, fun j y hj hy => ?_⟩
   have := h2 j hj
   have hy2 := (List.getElem?_eq_some_iff.1 hy).2
   rw [hy2] at this
   simpa using this
theorem b4I {α : Type} (p : α → Bool) (l : List α) : 0 ≤ ixP p l ↔ ∃ x, x ∈ l ∧ p x = true := by
 rcases b3I p l with ⟨i, x, h1, h2, h3, _⟩ | ⟨h1, h2⟩
 · rw [h3]; exact ⟨fun _ => ⟨x, List.mem_of_getElem? h1, h2⟩, fun _ => by omega⟩
 · rw [h2]
   refine ⟨fun h => by omega, ?_⟩
   rintro ⟨x, hx, hp⟩
   rw [h1 x hx] at hp; cases hp
def b5I (l : List Int) (x : Int) : Int := ixP (fun y => decide (x = y)) l
end Go.Rt
end

section
namespace Go.Vm
theorem b2A {s : St} {g : Nat} {Z Z' : GZ} (hg : look s.hp g = some (.gh Z [] [])) (hz : ∀ A B w, Z A B w → Z' A B w) : Le s (s.add g (.gh Z' [] [])) := by
 rintro E n a w ⟨ψ, h⟩
 have lk : ∀ {id o}, look (s.add g (.gh Z' [] [])).hp id = some o → (id = g ∧ o = .gh Z' [] []) ∨ (id ≠ g ∧ look s.hp id = some o) := by
   intro id o ho
   rw [d9g] at ho
   by_cases e : g = id
   · subst e; rw [if_pos rfl] at ho; cases ho; exact .inl ⟨rfl, rfl⟩
   · rw [if_neg e] at ho; exact .inr ⟨Ne.symm e, ho⟩
 have old : ∀ {id o}, look (s.add g (.gh Z' [] [])).hp id = some o → ∃ o', look s.hp id = some o' ∧ o'.org id = o.org id ∧ o'.multi = o.multi := by
   intro id o ho
   rcases lk ho with ⟨rfl, rfl⟩ | ⟨_, h⟩
   · exact ⟨_, hg, rfl, rfl⟩
   · exact ⟨o, h, rfl, rfl⟩
 have hheld : ∀ b, Held ψ (s.add g (.gh Z' [] [])).hp b → Held ψ s.hp b := by
   rintro b ⟨id, o, ho, hb⟩
   obtain ⟨o', h1, _⟩ := old ho
   exact ⟨id, o', h1, hb⟩
 have hI : ∀ b, b < w.heap.size → Im E ψ s.hp b → Im E ψ (s.add g (.gh Z' [] [])).hp b := fun b _ hb => ⟨hb.1, fun hh => hb.2 (hheld b hh)⟩
 have hk : c8T ψ ψ s.hp (s.add g (.gh Z' [] [])).hp := by
   intro id o ho
   refine ⟨?_, rfl⟩
   by_cases e : g = id
   · subst e; rw [hg] at ho; cases ho; exact ⟨_, by rw [d9g, if_pos rfl], Ob.le_none rfl⟩
   · exact ⟨o, by rw [d9g, if_neg e]; exact ho, o.le_refl⟩
 refine ⟨ψ, { size := h.size, defers := h.defers.mono hI (fun _ _ _ => rfl), frame := fun t => (h.frame t).mono hI (fun _ _ _ => rfl) hk, obs := fun id o ho => ?_, inj := fun id id' o o' b q1 q2 => ?_, own := fun id o b ho hb => ?_, subs := fun id o b ho hb => ?_, par := h.par, old := h.old, grow := h.grow, same := h.same }⟩
 · rcases lk ho with ⟨rfl, rfl⟩ | ⟨_, ho⟩
   · obtain ⟨q1, q2, _, _⟩ := h.obs id _ hg
     have q2' := q2.mono hI (fun _ h => h) (fun _ _ _ => rfl) (fun _ _ => rfl)
     exact ⟨q1, fun A' B' w' k1 k2 k3 k4 => hz _ _ _ (q2' A' B' w' k1 k2 k3 k4), rfl, by simp⟩
   · exact (h.obs id o ho).mono hI (fun _ _ _ => rfl) hk ⟨rfl, fun _ h => h⟩ (fun _ _ => rfl)
 · obtain ⟨o1, g1, _⟩ := old q1
   obtain ⟨o2, g2, _⟩ := old q2
   exact h.inj id id' o1 o2 b g1 g2
 · obtain ⟨o1, g1, g2, _⟩ := old ho
   rw [← g2]; exact h.own id o1 b g1 hb
 · obtain ⟨o1, g1, _, g3⟩ := old ho
   rw [← g3]; exact h.subs id o1 b g1 hb
def EndI (Ze : GZ) (s : St) : Prop := ∃ Z, look s.hp 1000 = some (.gh Z [] []) ∧ (∀ A B w, Z A B w → Ze A B w) ∧ ownH s.hp [1000] = true
theorem b3A {P : Program} {f : FuncId} {args : List AV} {Z0 Ze : GZ} {n : Nat} {c : VCode} (hf : fnV P f = some (n, c, [])) (hargs : args.length ≤ n) (hn : n ≤ 999)
   (h : wpV P c ⟨c6j 0 args, [(1000, .gh Z0 [] [])]⟩ ⟨EndI Ze, fun _ _ => False, EndI Ze, fun _ _ => False⟩) : b1v P false f args [(1000, .gh Z0 [] [])] (.tup []) [(1000, .gh Ze [] [])] :=
 d3a hf hargs rfl rfl (a3H (c3s hn _ _ _ h) fun s h => by
   obtain ⟨Z, h1, h2, h3⟩ := h
   obtain ⟨D, g1, g2⟩ := a9I (H' := [(1000, .gh Z [] [])]) (s := s) ⟨h1, trivial⟩ h3 rfl
   have g3 : look (s.drops D).hp 1000 = some (.gh Z [] []) := by rw [g2]; rfl
   refine ⟨(s.drops D).add 1000 (.gh Ze [] []), [], (c3t D g1 s).trans (b2A g3 h2), rfl, rfl, fun id => ?_, fun h => by cases h⟩
   rw [d9g]
   by_cases e : 1000 = id
   · subst e; simp [look]
   · rw [if_neg e, g2]; simp [look, e])
theorem b4A {P : Program} {l g : Nat} {Z Z' : GZ} {b : Bool} {xs : List AV} {ops : List Operand} {s : St} {K : St → AV → Prop} (hy : b0Q P l xs Z b Z') (hg : look s.hp g = some (.gh Z [] []))
   (hops : ops.map s.ev = xs) (hpl : xs.all AV.plain = true) (hk : K (s.join [(g, .gh Z' [] [])]) (.iv (.v (.bool b)))) : a2P P l ops s K := ⟨s, g, Z, b, Z', xs, Le.refl s, hg, ⟨hops, hpl⟩, hy, hk⟩
theorem b5A {P : Program} {g : Operand} {ps : List Nat} {X Y : VCode} {s : St} {O : Outs} (D D' : List Nat) (r : Nat) (fr : List (Nat × AV)) (I : List (List AV) → Prop) (H : List (List AV) → Hp)
   {f : FuncId} {caps : List IV} {Pre : List (List AV) → List AV → Prop} {S : List (List AV) → Prop} (hspec : b8n P f caps Pre S) (h0 : LeTo D s ⟨fr, H []⟩) (hg : St.ev ⟨fr, H []⟩ g = .fn f [] (caps.map CapV.val)) (hok : okFn P f = true)
   (hr : r < 1000) (hr0 : look (H []) r = none) (hnd : (fr.map (·.1)).Nodup) (hlen : ∀ pre x, Pre pre x → x.length = ps.length) (hI : I [])
   (hround : ∀ vs pre x, I pre → Pre pre x → I (pre ++ [x]) ∧ wpV P X (parS ps x ⟨fr, (r, .gh ZT vs (frCs fr)) :: H pre⟩)
     ⟨fun s' => wpV P Y s' ⟨fun s2 => LeTo D' s2 ⟨[], (r, .gh ZT vs (frCs fr)) :: H (pre ++ [x])⟩, fun _ _ => False, fun _ => False, fun _ _ => False⟩, fun _ _ => False, fun _ => False, fun _ _ => False⟩)
   (hend : ∀ vs xs, I xs → S xs → O.n ⟨fr, (r, .gh ZT vs (frCs fr)) :: H xs⟩) : rngW P g ps X Y s O := by
 refine ⟨f, caps, Pre, S, r, fr, I, H, fun _ _ => true, fun _ _ => [], ⟨h0.le, hg, hok, hspec, hr, hr0, hnd, hlen, hI⟩, fun vs pre x q1 q2 _ => ⟨(hround vs pre x q1 q2).1, ?_⟩, fun _ _ _ _ _ h => (by cases h), fun vs xs q1 q2 => ⟨_, Le.refl _, hend vs xs q1 q2⟩⟩
 refine c0c X ?_ ?_ ?_ ?_ (hround vs pre x q1 q2).2
 · intro s h
   refine c0c Y ?_ ?_ ?_ ?_ h
   · exact fun s2 h => h.le
   · exact fun _ _ h => h
   · exact fun _ h => h
   · exact fun _ _ h => h
 · exact fun _ _ h => h
 · exact fun _ h => h
 · exact fun _ _ h => h
def EndR (t : Nat) (R : AV → Hp → Prop) (s : St) : Prop := ∃ (D : List Nat) (x : AV) (H' : Hp), R x H' ∧ LeTo D s ⟨[(t, x)], H'⟩
theorem b6A {P : Program} {f : FuncId} {args : List AV} {n t : Nat} {c : VCode} (R : AV → Hp → Prop) (hf : fnV P f = some (n, c, [.tmp t])) (hargs : args.length ≤ n) (hn : n ≤ 999)
   (hR : ∀ x H', R x H' → (∀ id o, look H' id = some o → o.isLent = false) ∧ (∀ cs, x ≠ .tup cs))
   (h : wpV P c ⟨c6j 0 args, []⟩ ⟨EndR t R, fun _ _ => False, EndR t R, fun _ _ => False⟩) : b2v P false f args [] R :=
 d2a hf hargs rfl rfl (fun x H' h => (hR x H' h).1) (a3H (c3s hn _ _ _ h) fun s h => by
   obtain ⟨D, x, H', h1, h2⟩ := h
   exact ⟨⟨[(t, x)], H'⟩, [x], H', h2.le, by simp [resV, St.get, look], h1, fun _ => rfl, fun h => by cases h⟩)
theorem b7A {P : Program} {f : FuncId} {args : List AV} {n t : Nat} {c : VCode} (R : AV → Hp → Prop) (hf : fnV P f = some (n, c, [.tmp t])) (hargs : args.length ≤ n) (hn : n ≤ 999)
   (hR : ∀ x H', R x H' → (∀ id o, look H' id = some o → o.isLent = false ∧ o.flat) ∧ x.flat = true)
   (h : wpV P c ⟨c6j 0 args, []⟩ ⟨EndR t R, fun _ _ => False, EndR t R, fun _ _ => False⟩) : b2v P true f args [] R :=
 d2a hf hargs rfl rfl (fun x H' h id o ho => ((hR x H' h).1 id o ho).1) (a3H (c3s hn _ _ _ h) fun s h => by
   obtain ⟨D, x, H', h1, h2⟩ := h
   exact ⟨⟨[(t, x)], H'⟩, [x], H', h2.le, by simp [resV, St.get, look], h1, fun _ => rfl, fun _ => ⟨(hR x H' h1).2, fun id o ho => ((hR x H' h1).1 id o ho).2⟩⟩)
attribute [simp] b2Q
theorem b8A {P : Program} {d : Nat} {f : FuncId} {ops : List Operand} {s : St} {K : St → AV → Prop} {args : List AV} {R : AV → Hp → Prop} (h : b2v P true f args [] R)
   (ha : b2Q (s.drop d) true [] ((s.drop d).args [] ops []) args) (hr : args.all (AV.inns []) = true)
   (hnew : ∀ x H', R x H' → ∀ id o, look H' id = some o → look (s.drop d).hp id = none ∧ id < 1000) (hk : ∀ x H', R x H' → K ((s.drop d).join H') x) : a1P P d f [] ops [] none s K :=
 ⟨s, Le.refl s, true, [], R, s.drop d, rfl, trivial, args, ha, { spec := h, refs := hr, sub := fun _ _ h => (by cases h), own := fun _ _ h => (by cases h), keep := fun _ _ _ _ _ h => (by cases h), new := fun x H' hR id o h1 _ => hnew x H' hR id o h1 }, hk⟩
end Go.Vm
end

section
namespace Go.Vm
theorem d3l {P : Program} {d : Nat} {f : FuncId} {ops : List Operand} {s s1 : St} {K : St → AV → Prop} {args : List AV} {res : AV} {H' : Hp} (h : b1v P false f args [] res H')
   (hs1 : (s.frz ((s.args [] ops []).filter fun x => !x.inns [])).drop d = s1)
   (ha : ((s1.args [] ops []).map (s1.arg false [])) = args) (hr : args.all (AV.inns []) = true) (hn : a5G H' (H'.map (·.1)) = true) (hf : H'.all (fun p => decide (p.1 < 1000) && (look s1.hp p.1).isNone) = true)
   (hk : K (s1.join H') res) : a1P P d f [] ops [] none s K := by
 refine b6Q ⟨s, Le.refl s, false, [], res, H', s1, hs1.symm, trivial, { spec := ?_, refs := ?_, sub := fun _ _ h => ?_, own := fun _ _ h => ?_, keep := fun _ _ h => ?_, new := fun id o h1 _ => ?_ }, hk⟩
 · rw [List.map_nil]; rw [ha]; exact h
 · rw [List.map_nil]; rw [ha]; exact hr
 · cases h
 · cases h
 · cases h
 · have := List.all_eq_true.1 hf _ (d1a h1)
   simp only [Bool.and_eq_true, decide_eq_true_eq, Option.isNone_iff_eq_none] at this
   exact ⟨this.2, this.1⟩
theorem d5h {s : St} {t : Nat} {y : IV} (h : (s.get t).ivc = some y) : Le s (s.set t (.iv y)) := by
 rintro E n a w ⟨ψ, hs⟩
 refine ⟨ψ, { hs with frame := fun u => ?_ }⟩
 rw [St.get_set]
 split
 · rename_i e; subst e
   exact .iv _ _ (c2A (hs.frame t) h (fun _ _ h => h))
 · exact hs.frame u
def EndV (D : List Nat) (t : Nat) (x : IV) (s : St) : Prop := D.all (· < 1000) = true ∧ ((s.drops D).get t).ivc = some x ∧ a1G s.hp = true
theorem d6h {P : Program} {f : FuncId} {args : List AV} {x : IV} {n t : Nat} {c : VCode} (hf : fnV P f = some (n, c, [.tmp t]))
   (hargs : args.length ≤ n) (hn : n ≤ 999) (h : wpV P c ⟨c6j 0 args, []⟩ ⟨fun s => ∃ D, EndV D t x s, fun _ _ => False, fun s => ∃ D, EndV D t x s, fun _ _ => False⟩) : b1v P false f args [] (.iv x) [] :=
 d3a hf hargs rfl rfl (a3H (c3s hn _ _ _ h) fun s h => by
   obtain ⟨D, h1, h2, h3⟩ := h
   have hk : (((s.drops D).set t (.iv x)).hp.map (·.1)).all (· < 1000) = true := by
     show ((s.drops D).hp.map (·.1)).all (· < 1000) = true
     rw [List.all_eq_true]
     intro k hk
     exact List.all_eq_true.1 (a4G h3) k (d1k D hk)
   refine ⟨((s.drops D).set t (.iv x)).drops (((s.drops D).set t (.iv x)).hp.map (·.1)), [.iv x], ((c3t D h1 s).trans (d5h h2)).trans (c3t _ hk _), ?_, rfl, fun id => ?_, fun h => by cases h⟩
   · simp [resV, a6F _ (show ((s.drops D).set t (.iv x)).get t = .iv x by rw [St.get_set, if_pos rfl])]
   · refine a8F _ ?_
     cases hl : Vm.look ((s.drops D).set t (.iv x)).hp id with
     | none => exact .inr rfl
     | some o => exact .inl (List.contains_iff_mem.1 (b5v hl)))
theorem d7h {s : St} {t sz id : Nat} (h : s.get t = .nil sz) (hno : Vm.look s.hp id = none) (hid : id < 1000) : Le s ((s.add id (.list sz [])).set t (.sl id sz 0 0)) := by
 rintro E n a w ⟨ψ, hs⟩
 have h1 := hs.new (o := .list sz []) (p := none) (w' := w) hid hno (Ext.refl w) (fun b k e => by cases e) ⟨fun _ h => (by cases h), .inl ⟨by simp [upd], rfl⟩⟩
 have hψ : upd ψ id none id = none := by simp [upd]
 refine ⟨_, { h1 with frame := fun u => ?_ }⟩
 have hf := h1.frame u
 rw [St.get_set]
 split
 · rename_i e; subst e
   rw [show (s.add id (.list sz [])).get t = .nil sz from h] at hf
   generalize a.tmps.getD t undef = v at hf
   cases hf
   exact .sl0 id sz (.list sz []) 0 (by rw [show ((s.add id (.list sz [])).set t (.sl id sz 0 0)).hp = (s.add id (.list sz [])).hp from rfl, d9g, if_pos rfl]) rfl hψ
 · exact hf
def d4l (D : List Nat) (t u : Nat) (x y : IV) (s : St) : Prop := D.all (· < 1000) = true ∧ ((s.drops D).get t).ivc = some x ∧ (s.drops D).get u = .iv y ∧ a1G s.hp = true
theorem d5l {P : Program} {f : FuncId} {args : List AV} {x y : IV} {n t u : Nat} {c : VCode} (htu : t ≠ u) (hf : fnV P f = some (n, c, [.tmp t, .tmp u]))
   (hargs : args.length ≤ n) (hn : n ≤ 999) (h : wpV P c ⟨c6j 0 args, []⟩ ⟨fun s => ∃ D, d4l D t u x y s, fun _ _ => False, fun s => ∃ D, d4l D t u x y s, fun _ _ => False⟩) : b1v P false f args [] (.tup [.iv x, .iv y]) [] :=
 d3a hf hargs rfl rfl (a3H (c3s hn _ _ _ h) fun s h => by
   obtain ⟨D, h1, h2, h4, h3⟩ := h
   have hk : (((s.drops D).set t (.iv x)).hp.map (·.1)).all (· < 1000) = true := by
     show ((s.drops D).hp.map (·.1)).all (· < 1000) = true
     rw [List.all_eq_true]
     intro k hk
     exact List.all_eq_true.1 (a4G h3) k (d1k D hk)
   refine ⟨((s.drops D).set t (.iv x)).drops (((s.drops D).set t (.iv x)).hp.map (·.1)), [.iv x, .iv y], ((c3t D h1 s).trans (d5h h2)).trans (c3t _ hk _), ?_, rfl, fun id => ?_, fun h => by cases h⟩
   · simp [resV, a6F _ (show ((s.drops D).set t (.iv x)).get t = .iv x by rw [St.get_set, if_pos rfl]), a6F _ (show ((s.drops D).set t (.iv x)).get u = .iv y by rw [St.get_set, if_neg (by first | exact htu | exact Ne.symm htu)]; exact h4)]
   · refine a8F _ ?_
     cases hl : Vm.look ((s.drops D).set t (.iv x)).hp id with
     | none => exact .inr rfl
     | some o => exact .inl (List.contains_iff_mem.1 (b5v hl)))
end Go.Vm
end

section
namespace Go.Vm
theorem c7u {P : Program} {d : Nat} {f : FuncId} {pre post : List CapV} {ops : List Operand} {y : Option Operand} {s s' : St} {K : St → AV → Prop} (h : Le s s')
   (k : a1P P d f pre ops post y s' K) : a1P P d f pre ops post y s K := by
 obtain ⟨s2, h2, h3⟩ := k
 exact ⟨s2, h.trans h2, h3⟩
end Go.Vm
end

section
namespace Go.Rt
open Go.Vm
theorem c7e : okFn prog n_a4g = true := by kernel_rfl
theorem c8e : okFn prog n_a7g = true := by kernel_rfl
def c9e (r : List Vl) (p : Pd) : Prop := b1v prog true n_a9e [p.av, .iv (.lst 3 (rowC r))] [] (vb (p.holds r)) []
theorem c0f {r : List Vl} {q : Pd} (h : c9e r q) : b1v prog true n_a4g [q.av, .iv (.pt [.lst 3 (rowC r)])] [] (vb (q.holds r)) [] := by
 refine a4H a4g_is (by simp) (by decide) rfl ?_
 simp -dsimp [a4g, Pd.av_eq]
 refine a0G h (by simp [Pd.av_eq]) (by simp [Pd.av_eq]) ?_
 simp -dsimp
def Hc (r : List Vl) : Ob := .box [.fn n_a4g [] [.val (.pt [.lst 3 (rowC r)])]]
@[simp] theorem Hc_hi (r : List Vl) : (Hc r).hi = true := rfl
theorem c1f {r : List Vl} {q : Pd} (h : c9e r q) : b1v prog false n_a7g [q.av, .ptr 1000 0] [(1000, Hc r)] (vb (!q.holds r)) [(1000, Hc r)] := by
 refine a1J a7g_is (by simp) (by decide) (by simp) rfl ?_
 simp -dsimp [a7g, Pd.av_eq, Hc]
 refine ⟨c7e, a4K (c0f h) (by simp) (by simp [Pd.av_eq]) (by simp [Pd.av_eq]) ?_⟩
 simp -dsimp
 rfl
theorem c2f {l : List Pd} (hl : l.length < 2 ^ 63) {r : List Vl} (h : ∀ q, q ∈ l → c9e r q) :
   b1v prog true n_a9h [.iv (.lst 9 (l.map Pd.cells)), .fn n_a4g [] [.val (.pt [.lst 3 (rowC r)])]] [] (vi (ixP (Pd.holds r) l)) [] := by
 refine a4H a9h_is (by simp) (by decide) rfl ?_
 simp -dsimp [a9h]
 refine a7H [] [] l.length (fun i => ⟨[(8, vi i), (7, vi l.length), (0, .iv (.lst 9 (l.map Pd.cells))), (1, .fn n_a4g [] [.val (.pt [.lst 3 (rowC r)])])], []⟩) (fun i => Upto i fun j => ∀ e, l[j]? = some e → e.holds r = false) ?_ c7Y ?_
 · simp -dsimp
 · intro i hi hq
   simp -dsimp [a9h_l7]
   refine ⟨fun hlt => ?_, fun hge => ?_⟩
   · obtain ⟨e, he⟩ := c8Y hlt
     have hw := c9Y (n := (i : Int) + 1) (by omega)
     simp -dsimp [he, Pd.cells_eq e]
     refine ⟨c7e, a4K (c0f (h e (List.mem_of_getElem? he))) (by simp) (by simp [Pd.av_eq]) (by simp [Pd.av_eq]) ?_⟩
     cases hf : e.holds r with
     | true =>
       have := b0I (p := Pd.holds r) he hf hq
       simp -dsimp [this]
     | false =>
       simp -dsimp [hw]
       exact ⟨hlt, hq.succ fun y hy => by rw [he] at hy; cases hy; exact hf⟩
   · rw [b1I (b2I hge hq)]
theorem c3f {l : List Pd} (hl : l.length < 2 ^ 63) {r : List Vl} (h : ∀ q, q ∈ l → c9e r q) :
   b1v prog false n_a9h [.iv (.lst 9 (l.map Pd.cells)), .fn n_a7g [] [.ptr 1000 0]] [(1000, Hc r)] (vi (ixP (fun q => !q.holds r) l)) [(1000, Hc r)] := by
 refine a1J a9h_is (by simp) (by decide) (by simp) rfl ?_
 simp -dsimp [a9h]
 refine a7H [] [] l.length (fun i => ⟨[(8, vi i), (7, vi l.length), (0, .iv (.lst 9 (l.map Pd.cells))), (1, .fn n_a7g [] [.ptr 1000 0])], [(1000, Hc r)]⟩) (fun i => Upto i fun j => ∀ e, l[j]? = some e → (!e.holds r) = false) ?_ c7Y ?_
 · simp -dsimp
 · intro i hi hq
   simp -dsimp [a9h_l7]
   refine ⟨fun hlt => ?_, fun hge => ?_⟩
   · obtain ⟨e, he⟩ := c8Y hlt
     have hw := c9Y (n := (i : Int) + 1) (by omega)
     simp -dsimp [he, Pd.cells_eq e]
     refine ⟨c8e, a3K (c1f (h e (List.mem_of_getElem? he))) rfl (by simp) (by simp [Pd.av_eq]) (by simp [Pd.av_eq]) (by simp) (by simp [Hc]) (by simp [Hc]) (by simp) ?_⟩
     cases hf : e.holds r with
     | true =>
       simp -dsimp [hw]
       exact ⟨hlt, Upto.succ (fun j hj y hy => by simpa using hq j hj y hy) fun y hy => by rw [he] at hy; cases hy; exact hf⟩
     | false =>
       have := b0I (p := fun q => !Pd.holds r q) he (by rw [hf]; rfl) hq
       simp -dsimp [this]
   · rw [b1I (b2I hge hq)]
theorem c4f {α : Type} (p : α → Bool) (l : List α) : decide (0 ≤ ixP p l) = l.any p := by
 rw [Bool.eq_iff_iff, decide_eq_true_eq, b4I, List.any_eq_true]
theorem c5f {l : List Pd} (hl : l.length < 2 ^ 63) {r : List Vl} (h : ∀ q, q ∈ l → c9e r q) :
   b1v prog true n_a6g [.iv (.lst 9 (l.map Pd.cells)), .fn n_a4g [] [.val (.pt [.lst 3 (rowC r)])]] [] (vb (anyB r l)) [] := by
 refine a4H a6g_is (by simp) (by decide) rfl ?_
 simp -dsimp [a6g]
 refine a0G (c2f hl h) (by simp) (by simp) ?_
 simp -dsimp
 have := c4f (Pd.holds r) l
 simpa [anyB] using this
theorem c6f {l : List Pd} (hl : l.length < 2 ^ 63) {r : List Vl} (h : ∀ q, q ∈ l → c9e r q) :
   b1v prog false n_a6g [.iv (.lst 9 (l.map Pd.cells)), .fn n_a7g [] [.ptr 1000 0]] [(1000, Hc r)] (vb (!allB r l)) [(1000, Hc r)] := by
 refine a1J a6g_is (by simp) (by decide) (by simp) rfl ?_
 simp -dsimp [a6g]
 refine a3K (c3f hl h) rfl (by simp) (by simp) (by simp) (by simp) (by simp [Hc]) (by simp [Hc]) (by simp) ?_
 simp -dsimp
 have := c4f (fun q => !Pd.holds r q) l
 have h2 : (l.any fun q => !Pd.holds r q) = !allB r l := by unfold allB; rw [List.not_all_eq_any_not]
 rw [h2] at this
 simpa using this
theorem c7f {l : List Pd} (hl : l.length < 2 ^ 63) {r : List Vl} (h : ∀ q, q ∈ l → c9e r q) :
   b1v prog false n_a6g [.iv (.lst 9 (l.map Pd.cells)), .fn n_a7g [] [.ptr 5 0]] [(5, Hc r)] (vb (!allB r l)) [(5, Hc r)] :=
 (c6f hl h).ren (Ren.swaps [(1000, 5)]) rfl
set_option maxHeartbeats 4000000 in
theorem c8f {p : Pd} (h : p.Ok) (r : List Vl) (hr : r.length < 2 ^ 63) : c9e r p := by
 induction h with
 | mk p hl _ _ hq ih =>
 refine a4H a9e_is (by simp) (by decide) rfl ?_
 rw [Pd.holds_eq']
 by_cases o1 : p.op = 1
 · simp -dsimp [a9e, Pd.av_eq, o1]
 · by_cases ho : 3 ≤ p.op ∧ p.op ≤ 9
   · rw [if_pos ho]
     have : p.op = 3 ∨ p.op = 4 ∨ p.op = 5 ∨ p.op = 6 ∨ p.op = 7 ∨ p.op = 8 ∨ p.op = 9 := by omega
     rcases this with o | o | o | o | o | o | o
     all_goals
       simp -dsimp [a9e, Pd.av_eq, o]
       refine a0G (c5a p r hr) (by simp [Pd.av_eq, o]) (by simp [Pd.av_eq]) ?_
       simp -dsimp
   · rw [if_neg ho]
     have n3 : ¬p.op = 3 := by omega
     have n4 : ¬p.op = 4 := by omega
     have n5 : ¬p.op = 5 := by omega
     have n6 : ¬p.op = 6 := by omega
     have n7 : ¬p.op = 7 := by omega
     have n8 : ¬p.op = 8 := by omega
     have n9 : ¬p.op = 9 := by omega
     by_cases o10 : p.op = 10
     · simp -dsimp [a9e, Pd.av_eq, o10]
       cases hpl : p.l with
       | nil => simp -dsimp [hpl, fstB]
       | cons a b =>
         have ha : a ∈ p.l := by rw [hpl]; exact List.mem_cons_self
         simp -dsimp [hpl, Pd.cells_eq a]
         refine ⟨c7e, a4K (c0f (ih a ha)) (by simp) (by simp [Pd.av_eq]) (by simp [Pd.av_eq]) ?_⟩
         simp -dsimp [fstB]
     · by_cases o11 : p.op = 11
       · simp -dsimp [a9e, Pd.av_eq, o11]
         refine c7u (c3t [3] (by decide) _) ?_
         refine a3K (c7f (l := p.l) hl ih) rfl (by simp) (by simp) (by simp) (by simp [Hc]) (by simp [Hc]) (by simp [Hc]) (by simp) ?_
         simp -dsimp
       · by_cases o12 : p.op = 12
         · simp -dsimp [a9e, Pd.av_eq, o12]
           refine a0G (c5f (l := p.l) hl ih) (by simp) (by simp) ?_
           simp -dsimp
         · simp -dsimp [a9e, Pd.av_eq, o1, n3, n4, n5, n6, n7, n8, n9, o10, o11, o12]
end Go.Rt
end

section
namespace Go.Vm
@[simp] theorem ev_pn {s : St} : s.ev (.const (.pointer none)) = .iv (.v (.pointer none)) := rfl
theorem b4h {s : St} {j i sz id : Nat} {cs : List AV} (h : look s.hp j = some (.box cs)) (hi : cs[i]? = some (.nil sz)) (hno : look s.hp id = none) (hid : id < 1000) :
   Le s ((s.add id (.list sz [])).add j (.box (cs.set i (.sl id sz 0 0)))) := by
 rintro E n a w ⟨ψ, hs⟩
 have h1 := hs.new (o := .list sz []) (p := none) (w' := w) hid hno (Ext.refl w) (fun b k e => by cases e) ⟨fun _ h => (by cases h), .inl ⟨by simp [upd], rfl⟩⟩
 have hj : j ≠ id := by rintro rfl; rw [hno] at h; cases h
 have hl : look (s.add id (.list sz [])).hp j = some (.box cs) := by rw [d9g, if_neg (Ne.symm hj)]; exact h
 obtain ⟨b, c, e, g1, g2, g3, g4⟩ := h1.obs j _ hl
 have hψ : upd ψ id none id = none := by simp [upd]
 refine ⟨_, h1.chg (o' := .box (cs.set i (.sl id sz 0 0))) hl (Ob.le_none rfl) rfl (fun h => by cases h) g1 (fun _ _ => rfl) rfl ⟨rfl, rfl, rfl, Nat.le_refl _⟩ fun hm _ => ⟨b, c, e, g1, g2, by simpa using g3, fun k x hx => ?_⟩⟩
 rw [List.getElem?_set] at hx
 split at hx
 · rename_i e1
   subst e1
   split at hx
   · simp only [Option.some.injEq] at hx
     subst hx
     have := g4 i _ hi
     generalize c.getD i undef = v at this
     cases this
     exact .sl0 id sz (.list sz []) 0 (by rw [d9g, if_neg hj, d9g, if_pos rfl]) rfl hψ
   · cases hx
 · exact hm x _ (g4 k x hx)
theorem b5h {P : Program} {c : VCode} {s : St} {O : Outs} (D' : List Nat) (n : Nat) (S : Nat → St) (Q : Nat → Prop) (h0 : Le s (S 0)) (q0 : Q 0)
   (hs : ∀ i, i ≤ n → Q i → wpV P c (S i) { O with n := fun s2 => i < n ∧ LeTo D' s2 (S (i + 1)) ∧ Q (i + 1) }) : a3P P c s O := by
 refine ⟨fun k s => ∃ i, i ≤ n ∧ k = n - i ∧ s = S i ∧ Q i, h0.x ⟨_, 0, Nat.zero_le _, rfl, rfl, q0⟩, ?_⟩
 rintro k s' ⟨i, hi, rfl, rfl, hq⟩
 refine c0c c (O := { O with n := fun s2 => i < n ∧ LeTo D' s2 (S (i + 1)) ∧ Q (i + 1) }) (fun s2 h => ?_) (fun _ _ h => h) (fun _ h => h) (fun _ _ h => h) (hs i hi hq)
 obtain ⟨hlt, hle, hq'⟩ := h
 exact ⟨_, _, by omega, hle.le, i + 1, hlt, rfl, rfl, hq'⟩
end Go.Vm
end
