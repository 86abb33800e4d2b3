/- Contracts of functions of the program, and what they lean on. Conditions: those of each theorem. -/
import Derived.Test.YthkdpdpgmhmgoaaGreatBD
import Derived.Test.YthkdpdpgmhmgoaaGreatBC

set_option linter.unusedVariables false
set_option linter.unusedSimpArgs false

section
namespace Go.Vm
section
variable {P : Program} {d id off : Nat} {s : St} {K : St → AV → Prop} {x y m k : Operand} {sk : Sk} {z : List AV} {ok : Bool}
abbrev Mo := Nat × Sk × Nat × (List Value → Option (List (List IV))) × Option (List Value)
def onZ (z : List AV) (K : Nat → Prop) [Tg K] : Prop := match z with | [.nil sz] => K sz | _ => False
@[simp] theorem c8D {sz : Nat} {K : Nat → Prop} : onZ [.nil sz] K ↔ K sz := ⟨fun h => h, fun h => h⟩
theorem c9D {z : List AV} {K : Nat → Prop} : onZ z K ↔ ∃ sz, z = [.nil sz] ∧ K sz := by
 unfold onZ; split <;> simp_all
def lkpK (d : Nat) (s : St) (sk : Sk) (z : List AV) (m k : Operand) (ok : Bool) (K : St → AV → Prop) [Tg K] : Option Mo → Prop
 | none => onS (s.mapOf (s.ev m)) fun p => onS (c7b (s.ev k)) fun q => p.1 = sk ∧ q.1 = (sk.1, sk.2.1) ∧ K s (lkR z sk.2.2 ok (p.2 q.2))
 | some (id, sk1, sz, g, hole) => onS (c7b ((s.drop d).ev k)) fun q => onZ z fun sz' => ok = false ∧ sk1 = sk ∧ q.1 = (sk.1, sk.2.1) ∧ sz' = sz ∧ hole = none ∧
     (g q.2 = none → K (s.drop d) (.nil sz)) ∧ ∀ xs, g q.2 = some xs → K (((s.drop d).add id (.mapo sk sz (gset g q.2 none) (some q.2))).add d (.lent id sz xs)) (.sl d sz 0 xs.length)
@[simp] theorem c0E : lkpK d s sk z m k ok K none ↔ onS (s.mapOf (s.ev m)) fun p => onS (c7b (s.ev k)) fun q => p.1 = sk ∧ q.1 = (sk.1, sk.2.1) ∧ K s (lkR z sk.2.2 ok (p.2 q.2)) := ⟨fun h => h, fun h => h⟩
@[simp] theorem c1E {sk1 sz g hole} : lkpK d s sk z m k ok K (some (id, sk1, sz, g, hole)) ↔ onS (c7b ((s.drop d).ev k)) fun q => onZ z fun sz' => ok = false ∧ sk1 = sk ∧ q.1 = (sk.1, sk.2.1) ∧ sz' = sz ∧ hole = none ∧
     (g q.2 = none → K (s.drop d) (.nil sz)) ∧ ∀ xs, g q.2 = some xs → K (((s.drop d).add id (.mapo sk sz (gset g q.2 none) (some q.2))).add d (.lent id sz xs)) (.sl d sz 0 xs.length) := ⟨fun h => h, fun h => h⟩
@[simp] theorem c2E : stp P d s K (.lkp sk z m k ok) ↔ lkpK d s sk z m k ok K ((s.drop d).moOf ((s.drop d).ev m)) := by
 simp only [stp]
 split
 · rename_i id sk1 sz g hole e
   rw [e]
   simp only [c1E]
   split
   · rename_i sk2 kk sz' e2
     rw [e2]
     simp only [a5U, c8D]
     cases hg : g kk <;> simp
   · rename_i hn
     refine ⟨fun h => h.elim, fun h => ?_⟩
     obtain ⟨q, e2, h⟩ := a1W.1 h
     obtain ⟨sz', e3, h⟩ := c9D.1 h
     exact hn _ _ _ e2 e3
 · rename_i e
   rw [e]
   simp only [c0E]
   split
   · rename_i e1 e2; rw [e1, e2]; exact ⟨fun h => h, fun h => h⟩
   · rename_i hn
     refine ⟨fun h => h.elim, fun h => ?_⟩
     obtain ⟨q, e2, h⟩ := a1W.1 h
     obtain ⟨p, e3, h⟩ := a1W.1 h
     exact hn _ _ _ _ e2 e3
def onSl (x : AV) (K : Nat → Nat → Nat → Prop) [Tg K] : Prop := match x with | .sl id sz 0 len => K id sz len | _ => False
@[simp] theorem c3E {sz len : Nat} {K : Nat → Nat → Nat → Prop} : onSl (.sl id sz 0 len) K ↔ K id sz len := ⟨fun h => h, fun h => h⟩
theorem c4E {x : AV} {K : Nat → Nat → Nat → Prop} : onSl x K ↔ ∃ id sz len, x = .sl id sz 0 len ∧ K id sz len := by
 unfold onSl
 split
 · exact ⟨fun h => ⟨_, _, _, rfl, h⟩, fun ⟨_, _, _, e, h⟩ => by cases e; exact h⟩
 · rename_i hn; exact ⟨fun h => h.elim, fun ⟨_, _, _, e, h⟩ => (hn _ _ _ e).elim⟩
def msetK (s : St) (sk : Sk) (m k x : Operand) (K : St → AV → Prop) [Tg K] : Option Mo → Prop
 | none => a8T ((s.frz [s.ev x]).unr ((s.frz [s.ev x]).ev m)) fun id => onS (c7b ((s.frz [s.ev x]).ev k)) fun q => onS (((s.frz [s.ev x]).ev x).cellsOf.bind fun cs => allO AV.iv? cs) fun c => a5T (look (s.frz [s.ev x]).hp id) fun sk1 g =>
     sk1 = sk ∧ q.1 = (sk.1, sk.2.1) ∧ c8b ((s.frz [s.ev x]).ev x) = sk.2.2 ∧ K ((s.frz [s.ev x]).add id (.map sk (gset g q.2 (some c)))) .un
 | some (id, sk1, sz, g, hole) => onS (c7b (s.ev k)) fun q => onSl (s.ev x) fun d' sz' len => onS (look s.hp d') fun o => onS o.els fun xs =>
     sk1 = sk ∧ q.1 = (sk.1, sk.2.1) ∧ sz' = sz ∧ d' < 1000 ∧ d' ≠ id ∧ len = xs.2.length ∧ (o.org? = none ∨ o.org? = some id) ∧
           (hole = some q.2 ∨ (hole = none ∧ g q.2 = none)) ∧ K ((s.kill d').add id (.mapo sk sz (gset g q.2 (some xs.2)) none)) .un
@[simp] theorem c5E : msetK s sk m k x K none ↔ a8T ((s.frz [s.ev x]).unr ((s.frz [s.ev x]).ev m)) fun id => onS (c7b ((s.frz [s.ev x]).ev k)) fun q => onS (((s.frz [s.ev x]).ev x).cellsOf.bind fun cs => allO AV.iv? cs) fun c => a5T (look (s.frz [s.ev x]).hp id) fun sk1 g =>
     sk1 = sk ∧ q.1 = (sk.1, sk.2.1) ∧ c8b ((s.frz [s.ev x]).ev x) = sk.2.2 ∧ K ((s.frz [s.ev x]).add id (.map sk (gset g q.2 (some c)))) .un := ⟨fun h => h, fun h => h⟩
@[simp] theorem c6E {sk1 sz g hole} : msetK s sk m k x K (some (id, sk1, sz, g, hole)) ↔ onS (c7b (s.ev k)) fun q => onSl (s.ev x) fun d' sz' len => onS (look s.hp d') fun o => onS o.els fun xs =>
     sk1 = sk ∧ q.1 = (sk.1, sk.2.1) ∧ sz' = sz ∧ d' < 1000 ∧ d' ≠ id ∧ len = xs.2.length ∧ (o.org? = none ∨ o.org? = some id) ∧
           (hole = some q.2 ∨ (hole = none ∧ g q.2 = none)) ∧ K ((s.kill d').add id (.mapo sk sz (gset g q.2 (some xs.2)) none)) .un := ⟨fun h => h, fun h => h⟩
@[simp] theorem c7E : stp P d s K (.mset sk m k x) ↔ msetK s sk m k x K (s.moOf (s.ev m)) := by
 simp only [stp]
 split
 · rename_i id sk1 sz g hole e
   rw [e]
   simp only [c6E]
   split
   · rename_i sk2 kk d' sz' len e1 e2
     rw [e1, e2]
     simp only [a5U, c3E]
     cases look s.hp d' with
     | none => simp
     | some o =>
       simp only [a5U]
       cases o.els with
       | none => simp
       | some p => obtain ⟨_, xs⟩ := p; simp
   · rename_i hn
     refine ⟨fun h => h.elim, fun h => ?_⟩
     obtain ⟨q, e2, h⟩ := a1W.1 h
     obtain ⟨_, _, _, e3, h⟩ := c4E.1 h
     exact hn _ _ _ _ _ e2 e3
 · rename_i e
   rw [e]
   simp only [c5E, b0d]
   split
   · rename_i id sk2 kk c e1 e2 e3
     rw [e1, e2, e3]
     simp only [a3V, a5U]
     split
     · rename_i sk1 g e4; rw [e4]; simp
     · rename_i hn
       refine ⟨fun h => h.elim, fun h => ?_⟩
       obtain ⟨_, _, e4, h⟩ := a7W.1 h
       exact hn _ _ e4
   · rename_i hn
     refine ⟨fun h => h.elim, fun h => ?_⟩
     obtain ⟨id, e1, h⟩ := a9V.1 h
     obtain ⟨q, e2, h⟩ := a1W.1 h
     obtain ⟨c, e3, h⟩ := a1W.1 h
     exact hn _ _ _ _ e1 e2 e3
end
section
variable {id sz lo len i off : Nat} {x : IV} {cs : List AV} {f : FuncId} {a b : List CapV} {s : St}
@[simp] theorem c8E : AV.cellsOf (.agg cs) = some cs := rfl
@[simp] theorem c9E : AV.cellsOf (.iv x) = some [.iv x] := rfl
@[simp] theorem c0F : AV.cellsOf (.nil sz) = some [.nil sz] := rfl
@[simp] theorem c1F : AV.cellsOf (.sl id sz lo len) = some [.sl id sz lo len] := rfl
@[simp] theorem c2F : AV.cellsOf (.ptr id off) = some [.ptr id off] := rfl
@[simp] theorem c3F : AV.cellsOf (.ep id sz i off) = some [.ep id sz i off] := rfl
@[simp] theorem c4F : AV.cellsOf (.mpr id) = some [.mpr id] := rfl
@[simp] theorem c5F : AV.cellsOf (.fn f a b) = some [.fn f a b] := rfl
@[simp] theorem c6F : AV.one (.iv x) = true := rfl
@[simp] theorem one_nil : AV.one (.nil sz) = true := rfl
@[simp] theorem one_sl : AV.one (.sl id sz lo len) = true := rfl
@[simp] theorem one_ptr : AV.one (.ptr id off) = true := rfl
@[simp] theorem one_ep : AV.one (.ep id sz i off) = true := rfl
@[simp] theorem one_mpr : AV.one (.mpr id) = true := rfl
@[simp] theorem one_fn : AV.one (.fn f a b) = true := rfl
@[simp] theorem ivq_iv : AV.iv? (.iv x) = some x := rfl
@[simp] theorem ivq_nil : AV.iv? (.nil sz) = some (.lst sz []) := rfl
@[simp] theorem ivc_iv : AV.ivc (.iv x) = some x := rfl
@[simp] theorem ivc_nil : AV.ivc (.nil sz) = some (.lst sz []) := rfl
@[simp] theorem ivc_sl : AV.ivc (.sl id sz lo len) = none := rfl
@[simp] theorem ivc_ptr : AV.ivc (.ptr id off) = none := rfl
@[simp] theorem ivc_mpr : AV.ivc (.mpr id) = none := rfl
@[simp] theorem ivc_fn : AV.ivc (.fn f a b) = none := rfl
@[simp] theorem c7F : b8R [] = some [] := rfl
@[simp] theorem ivAll_iv : b8R (.iv x :: cs) = (b8R cs).map fun l => x :: l := rfl
@[simp] theorem ivAll_ni : b8R (.nil sz :: cs) = (b8R cs).map fun l => .lst sz [] :: l := rfl
@[simp] theorem ivAll_sl : b8R (.sl id sz lo len :: cs) = none := rfl
@[simp] theorem c8F : b8R (.mpr id :: cs) = none := rfl
@[simp] theorem c9F : b8R (.ptr id off :: cs) = none := rfl
@[simp] theorem ivAll_fn : b8R (.fn f a b :: cs) = none := rfl
@[simp] theorem c0G {l : List IV} : b8R (l.map .iv) = some l := by
 induction l with
 | nil => rfl
 | cons x l ih => simp [ih]
@[simp] theorem allO_nil {α β : Type} {g : α → Option β} : allO g [] = some [] := rfl
@[simp] theorem allO_ivs {l : List IV} : allO AV.iv? (l.map .iv) = some l := by
 induction l with
 | nil => rfl
 | cons x l ih => simp [allO, ih]
@[simp] theorem allO_iv : allO AV.iv? (.iv x :: cs) = (allO AV.iv? cs).map fun l => x :: l := rfl
@[simp] theorem allO_niv : allO AV.iv? (.nil sz :: cs) = (allO AV.iv? cs).map fun l => .lst sz [] :: l := rfl
@[simp] theorem c1G : allO AV.cap (.ptr id off :: cs) = (allO AV.cap cs).map fun l => .ptr id off :: l := rfl
@[simp] theorem c2G : allO AV.cap (.iv x :: cs) = (allO AV.cap cs).map fun l => .val x :: l := rfl
@[simp] theorem c3G : allO AV.cap (.nil sz :: cs) = (allO AV.cap cs).map fun l => .val (.lst sz []) :: l := rfl
@[simp] theorem c4G : CapV.av (.ptr id off) = .ptr id off := rfl
@[simp] theorem c5G : CapV.av (.val x) = .iv x := rfl
@[simp] theorem c6G : c8b (.agg cs) = true := rfl
@[simp] theorem isAgg_iv : c8b (.iv x) = false := rfl
@[simp] theorem c7G : c8b (.nil sz) = false := rfl
@[simp] theorem pack_t : c9b true cs = .agg cs := rfl
@[simp] theorem pack_f {y : AV} : c9b false [y] = y := rfl
@[simp] theorem lkR_s {z : List AV} {ag ok : Bool} {c : List IV} : lkR z ag ok (some c) = if ok then .tup [c9b ag (c.map .iv), .iv (.v (.bool true))] else c9b ag (c.map .iv) := rfl
@[simp] theorem lkR_n {z : List AV} {ag ok : Bool} : lkR z ag ok none = if ok then .tup [c9b ag z, .iv (.v (.bool false))] else c9b ag z := rfl
@[simp] theorem kd_b {b : Bool} : kdOf (.bool b) = some .b := rfl
@[simp] theorem kd_i {k : IntKind} {n : Int} : kdOf (.int k n) = some (.i k) := rfl
@[simp] theorem kd_s {t : ByteArray} : kdOf (.string t) = some .s := rfl
@[simp] theorem keyAV_b {b : Bool} : c7b (.iv (.v (.bool b))) = some ((false, [.b]), [.bool b]) := rfl
@[simp] theorem keyAV_i {k : IntKind} {n : Int} : c7b (.iv (.v (.int k n))) = some ((false, [.i k]), [.int k n]) := rfl
@[simp] theorem keyAV_s {t : ByteArray} : c7b (.iv (.v (.string t))) = some ((false, [.s]), [.string t]) := rfl
@[simp] theorem c8G : c7b (.agg cs) = (allO c6b cs).map fun l => ((true, l.map (·.1)), l.map (·.2)) := by simp [c7b, b0d]
@[simp] theorem c9G {b : Bool} : allO c6b (.iv (.v (.bool b)) :: cs) = (allO c6b cs).map fun l => (.b, .bool b) :: l := rfl
@[simp] theorem c0H {k : IntKind} {n : Int} : allO c6b (.iv (.v (.int k n)) :: cs) = (allO c6b cs).map fun l => (.i k, .int k n) :: l := rfl
@[simp] theorem c1H {t : ByteArray} : allO c6b (.iv (.v (.string t)) :: cs) = (allO c6b cs).map fun l => (.s, .string t) :: l := rfl
theorem c2H (a b : ByteArray) : (a == b) = decide (a = b) := by
 cases a with | mk x => cases b with | mk y =>
 rw [Bool.eq_iff_iff, decide_eq_true_eq, ByteArray.mk.injEq, ← beq_iff_eq (a := x) (b := y)]
 exact ⟨fun h => h, fun h => h⟩
@[simp] theorem c3H : c8d [] [] [] = some true := rfl
@[simp] theorem c4H {ks : List Kd} {a b : Bool} {r q : List AV} : c8d (.b :: ks) (.iv (.v (.bool a)) :: r) (.iv (.v (.bool b)) :: q) = (c8d ks r q).map fun y => (a == b) && y := rfl
@[simp] theorem c5H {ks : List Kd} {k : IntKind} {a b : Int} {r q : List AV} : c8d (.i k :: ks) (.iv (.v (.int .i64 a)) :: r) (.iv (.v (.int .i64 b)) :: q) = (c8d ks r q).map fun y => (a == b) && y := rfl
@[simp] theorem c6H {ks : List Kd} {a b : ByteArray} {r q : List AV} : c8d (.s :: ks) (.iv (.v (.string a)) :: r) (.iv (.v (.string b)) :: q) = (c8d ks r q).map fun y => decide (a = b) && y := by rw [← c2H]; rfl
theorem c7H {a b : ByteArray} : c5d a b = decide (a = b) := by
 unfold c5d
 rw [Bool.eq_iff_iff]
 simp only [beq_iff_eq, decide_eq_true_eq]
 constructor
 · intro h
   have e : a.data.toList = b.data.toList := by simpa [ByteArray.toList_eq] using h
   cases a; cases b
   simp only at e
   congr 1
   exact Array.toList_inj.1 e
 · rintro rfl; rfl
@[simp] theorem bin_add {k k' : IntKind} {m n : Int} : binV .add (.int .i64 m) (.int .i64 n) = some (.int .i64 (IntKind.i64.wrap (m + n))) := rfl
@[simp] theorem bin_sub {m n : Int} : binV .sub (.int .i64 m) (.int .i64 n) = some (.int .i64 (IntKind.i64.wrap (m - n))) := rfl
@[simp] theorem bin_mul {m n : Int} : binV .mul (.int .i64 m) (.int .i64 n) = some (.int .i64 (IntKind.i64.wrap (m * n))) := rfl
@[simp] theorem bin_rem {m n : Int} : binV .rem (.int .i64 m) (.int .i64 n) = if n = 0 then none else some (.int .i64 (m.tmod n)) := rfl
@[simp] theorem bin_and {m n : Int} : binV .and (.int .i64 m) (.int .i64 n) = some (.int .i64 (c3d .and .i64 m n)) := rfl
@[simp] theorem bin_eql {k : IntKind} {m n : Int} : binV .eql (.int k m) (.int k n) = some (.bool (m == n)) := by simp [binV, binI]
@[simp] theorem bin_neq {k : IntKind} {m n : Int} : binV .neq (.int k m) (.int k n) = some (.bool (m != n)) := by simp [binV, binI]
@[simp] theorem bin_lss {k : IntKind} {m n : Int} : binV .lss (.int k m) (.int k n) = some (.bool (decide (m < n))) := by simp [binV, binI]
@[simp] theorem bin_leq {k : IntKind} {m n : Int} : binV .leq (.int k m) (.int k n) = some (.bool (decide (m ≤ n))) := by simp [binV, binI]
@[simp] theorem bin_gtr {k : IntKind} {m n : Int} : binV .gtr (.int k m) (.int k n) = some (.bool (decide (n < m))) := by simp [binV, binI]
@[simp] theorem bin_geq {k : IntKind} {m n : Int} : binV .geq (.int k m) (.int k n) = some (.bool (decide (n ≤ m))) := by simp [binV, binI]
@[simp] theorem bins_eql {m n : ByteArray} : binV .eql (.string m) (.string n) = some (.bool (decide (m = n))) := by rw [← c7H]; rfl
@[simp] theorem bins_neq {m n : ByteArray} : binV .neq (.string m) (.string n) = some (.bool !(decide (m = n))) := by rw [← c7H]; rfl
@[simp] theorem bins_lss {m n : ByteArray} : binV .lss (.string m) (.string n) = some (.bool (c6d m n)) := rfl
@[simp] theorem bins_leq {m n : ByteArray} : binV .leq (.string m) (.string n) = some (.bool (c6d m n || decide (m = n))) := by rw [← c7H]; rfl
@[simp] theorem bins_gtr {m n : ByteArray} : binV .gtr (.string m) (.string n) = some (.bool !(c6d m n || decide (m = n))) := by rw [← c7H]; rfl
@[simp] theorem un_not {b : Bool} : unV .not (.bool b) = some (.bool (!b)) := rfl
@[simp] theorem un_neg {n : Int} : unV .neg (.int .i64 n) = some (.int .i64 (IntKind.i64.wrap (0 - n))) := rfl
@[simp] theorem bound_n {d : Nat} : s.bound d none = some (d : Int) := rfl
def AV.int? : AV → Option Int
 | .iv (.v (.int _ n)) => some n
 | _ => none
@[simp] theorem int?_i {k : IntKind} {n : Int} : AV.int? (.iv (.v (.int k n))) = some n := rfl
@[simp] theorem bound_s {d : Nat} {x : Operand} : s.bound d (some x) = (s.ev x).int? := by
 simp only [St.bound]
 cases s.ev x with
 | iv x => cases x with
   | v u => cases u <;> rfl
   | _ => rfl
 | _ => rfl
@[simp] theorem ev_tmp {t : Nat} : s.ev (.tmp t) = s.get t := rfl
@[simp] theorem ev_b {b : Bool} : s.ev (.const (.bool b)) = .iv (.v (.bool b)) := rfl
@[simp] theorem ev_i {k : IntKind} {n : Int} : s.ev (.const (.int k n)) = .iv (.v (.int k n)) := rfl
@[simp] theorem ev_s {t : ByteArray} : s.ev (.const (.string t)) = .iv (.v (.string t)) := rfl
@[simp] theorem ev_f {f : FuncId} : s.ev (.func f) = .fn f [] [] := rfl
@[simp] theorem elems_iv {xs : List (List IV)} : s.elems (.iv (.lst sz xs)) = some (sz, xs) := rfl
@[simp] theorem c8H : s.elems (.nil sz) = some (sz, []) := rfl
@[simp] theorem elems_sl : s.elems (.sl id sz lo len) = ((look s.hp id).bind Ob.els).map fun p => (sz, (p.2.drop lo).take len) := by
 simp only [St.elems]
 cases look s.hp id with
 | none => rfl
 | some o => cases h : o.els <;> simp [h]
@[simp] theorem els_list {xs : List (List IV)} : Ob.els (.list sz xs) = some (sz, xs) := rfl
@[simp] theorem els_lent {xs : List (List IV)} : Ob.els (.lent id sz xs) = some (sz, xs) := rfl
@[simp] theorem c9H {z : Nat} {xs ys : List (List IV)} : Ob.setEls (.list z ys) sz xs = .list sz xs := rfl
@[simp] theorem c0I {z : Nat} {xs ys : List (List IV)} : Ob.setEls (.lent id z ys) sz xs = .lent id sz xs := rfl
@[simp] theorem org_list {xs : List (List IV)} : Ob.org? (.list sz xs) = none := rfl
@[simp] theorem org_lent {xs : List (List IV)} : Ob.org? (.lent id sz xs) = some id := rfl
def moH (id : Nat) : Option Ob → Option Mo
 | some (.mapo sk sz g hole) => some (id, sk, sz, g, hole)
 | _ => none
def maH : Option Ob → Option (Sk × (List Value → Option (List IV)))
 | some (.map sk g) => some (sk, g)
 | some (.mapS sk g _ _) => some (sk, g)
 | _ => none
@[simp] theorem moH_mapo {sk g hole} : moH id (some (.mapo sk sz g hole)) = some (id, sk, sz, g, hole) := rfl
@[simp] theorem moH_map {sk g} : moH id (some (.map sk g)) = none := rfl
@[simp] theorem moH_mapS {sk g n k} : moH id (some (.mapS sk g n k)) = none := rfl
@[simp] theorem maH_map {sk g} : maH (some (.map sk g)) = some (sk, g) := rfl
@[simp] theorem maH_mapS {sk g n k} : maH (some (.mapS sk g n k)) = some (sk, g) := rfl
@[simp] theorem c1I : s.mapOf (.mpr id) = maH (look s.hp id) := rfl
@[simp] theorem mapOf_mp {sk g} : s.mapOf (.iv (.mp sk g)) = some (sk, g) := rfl
@[simp] theorem moOf_mpr : s.moOf (.mpr id) = moH id (look s.hp id) := rfl
@[simp] theorem moOf_iv : s.moOf (.iv x) = none := rfl
@[simp] theorem ids_iv : AV.ids (.iv x) = [] := rfl
@[simp] theorem ids_nil : AV.ids (.nil sz) = [] := rfl
@[simp] theorem ids_un : AV.ids .un = [] := rfl
@[simp] theorem ids_ptr : AV.ids (.ptr id off) = [] := rfl
@[simp] theorem ids_fn : AV.ids (.fn f a b) = [] := rfl
@[simp] theorem ids_sl : AV.ids (.sl id sz lo len) = [id] := rfl
@[simp] theorem ids_mpr : AV.ids (.mpr id) = [id] := rfl
@[simp] theorem frz_nil : s.frz [] = s := rfl
@[simp] theorem frz_iv {l : List AV} : s.frz (.iv x :: l) = s.frz l := rfl
@[simp] theorem frz_ni {l : List AV} : s.frz (.nil sz :: l) = s.frz l := rfl
@[simp] theorem frz_ptr {l : List AV} : s.frz (.ptr id off :: l) = s.frz l := rfl
@[simp] theorem frz_fn {l : List AV} : s.frz (.fn f a b :: l) = s.frz l := rfl
@[simp] theorem frz_sl {l : List AV} : s.frz (.sl id sz lo len :: l) = (if id < 1000 then s.drop id else s).frz l := rfl
@[simp] theorem frz_mpr {l : List AV} : s.frz (.mpr id :: l) = (if id < 1000 then s.drop id else s).frz l := rfl
@[simp] theorem frz_ivs {l : List IV} {r : List AV} : s.frz (.agg (l.map .iv) :: r) = s.frz r := by
 have : AV.ids (.agg (l.map .iv)) = [] := by
   simp only [AV.ids]
   induction l with
   | nil => rfl
   | cons x l ih => simp [ih]
 simp [St.frz, this]
@[simp] theorem c2I {r : List AV} : s.frz (.agg [] :: r) = s.frz r := rfl
@[simp] theorem c3I {l r : List AV} : s.frz (.agg (.iv x :: l) :: r) = s.frz (.agg l :: r) := rfl
@[simp] theorem c4I {l r : List AV} : s.frz (.agg (.nil sz :: l) :: r) = s.frz (.agg l :: r) := rfl
@[simp] theorem c5I {l r : List AV} : s.frz (.agg (.fn f a b :: l) :: r) = s.frz (.agg l :: r) := rfl
@[simp] theorem c6I {l r : List AV} : s.frz (.agg (.sl id sz lo len :: l) :: r) = (if id < 1000 then s.drop id else s).frz (.agg l :: r) := rfl
@[simp] theorem look_n {α : Type} {k : Nat} : look ([] : List (Nat × α)) k = none := rfl
@[simp] theorem look_c {α : Type} {j k : Nat} {y : α} {r : List (Nat × α)} : look ((j, y) :: r) k = if j = k then some y else look r k := rfl
@[simp] theorem c7I {z : List AV} : b9U s z [] = some z := rfl
@[simp] theorem litA_nil : litA s sz [] = some [] := rfl
@[simp] theorem mm_i {mx : Bool} {k : IntKind} {n : Int} {r : List AV} : c0e mx (.iv (.v (.int k n)) :: r) = c9d mx k n r := rfl
@[simp] theorem mmf_nil {mx : Bool} {k : IntKind} {n : Int} : c9d mx k n [] = some (k, n) := rfl
@[simp] theorem mmf_i {mx : Bool} {k j : IntKind} {n m : Int} {r : List AV} : c9d mx k n (.iv (.v (.int j m)) :: r) = c9d mx k (if mx then max n m else min n m) r := rfl
@[simp] theorem kc_iv {p : Nat → Bool} : AV.kc p (.iv x) = .iv x := rfl
@[simp] theorem kc_nil {p : Nat → Bool} : AV.kc p (.nil sz) = .nil sz := rfl
@[simp] theorem kc_un {p : Nat → Bool} : AV.kc p .un = .un := rfl
@[simp] theorem kc_junk {p : Nat → Bool} : AV.kc p .junk = .junk := rfl
@[simp] theorem kc_ptr {p : Nat → Bool} : AV.kc p (.ptr id off) = if p id then .junk else .ptr id off := rfl
@[simp] theorem kc_sl {p : Nat → Bool} : AV.kc p (.sl id sz lo len) = if p id then .junk else .sl id sz lo len := rfl
@[simp] theorem kc_ep {p : Nat → Bool} : AV.kc p (.ep id sz i off) = if p id then .junk else .ep id sz i off := rfl
@[simp] theorem kc_mpr {p : Nat → Bool} : AV.kc p (.mpr id) = if p id then .junk else .mpr id := rfl
@[simp] theorem kc_fn {p : Nat → Bool} : AV.kc p (.fn f a b) = if a.any (CapV.of p) || b.any (CapV.of p) then .junk else .fn f a b := rfl
@[simp] theorem kc_aggj {p : Nat → Bool} : AV.kc p (.agg cs) = .junk := rfl
@[simp] theorem kc_tupj {p : Nat → Bool} : AV.kc p (.tup cs) = .junk := rfl
@[simp] theorem cof_ptr {p : Nat → Bool} : CapV.of p (.ptr id off) = p id := rfl
@[simp] theorem cof_val {p : Nat → Bool} : CapV.of p (.val x) = false := rfl
@[simp] theorem mapc_iv {g : AV → AV} : AV.mapc g (.iv x) = g (.iv x) := rfl
@[simp] theorem mapc_ni {g : AV → AV} : AV.mapc g (.nil sz) = g (.nil sz) := rfl
@[simp] theorem mapc_un {g : AV → AV} : AV.mapc g .un = g .un := rfl
@[simp] theorem c8I {g : AV → AV} : AV.mapc g .junk = g .junk := rfl
@[simp] theorem mapc_ptr {g : AV → AV} : AV.mapc g (.ptr id off) = g (.ptr id off) := rfl
@[simp] theorem mapc_sl {g : AV → AV} : AV.mapc g (.sl id sz lo len) = g (.sl id sz lo len) := rfl
@[simp] theorem mapc_ep {g : AV → AV} : AV.mapc g (.ep id sz i off) = g (.ep id sz i off) := rfl
@[simp] theorem mapc_mpr {g : AV → AV} : AV.mapc g (.mpr id) = g (.mpr id) := rfl
@[simp] theorem mapc_fn {g : AV → AV} : AV.mapc g (.fn f a b) = g (.fn f a b) := rfl
@[simp] theorem mapc_agg {g : AV → AV} : AV.mapc g (.agg cs) = .agg (cs.map g) := rfl
@[simp] theorem mapc_tup {g : AV → AV} : AV.mapc g (.tup cs) = .tup (cs.map (AV.map1 g)) := rfl
@[simp] theorem map1_iv {g : AV → AV} : AV.map1 g (.iv x) = g (.iv x) := rfl
@[simp] theorem map1_agg {g : AV → AV} : AV.map1 g (.agg cs) = .agg (cs.map g) := rfl
@[simp] theorem c9I {g : AV → AV} : Ob.mapc g (.box cs) = .box (cs.map g) := rfl
@[simp] theorem c0J {g : AV → AV} {xs : List (List IV)} : Ob.mapc g (.list sz xs) = .list sz xs := rfl
@[simp] theorem c1J {g : AV → AV} {xs : List (List IV)} : Ob.mapc g (.lent id sz xs) = .lent id sz xs := rfl
@[simp] theorem c2J {g : AV → AV} {sk h} : Ob.mapc g (.map sk h) = .map sk h := rfl
@[simp] theorem c3J {g : AV → AV} {sk h n k} : Ob.mapc g (.mapS sk h n k) = .mapS sk h n k := rfl
@[simp] theorem c4J {g : AV → AV} {sk h k} : Ob.mapc g (.mapo sk sz h k) = .mapo sk sz h k := rfl
@[simp] theorem c5J {g : AV → AV} {sk h l k} : Ob.mapc g (.iter sk h l k) = .iter sk h l k := rfl
end
def gone (id : Nat) (o : Ob) (x : AV) : AV := (x.fc id o).kc (· == id)
def goneP (off : Nat) : Option (List IV) → AV
 | some l => .iv (.pt (l.drop off))
 | none => .junk
def gonF (id : Nat) (o : Ob) : List (Nat × AV) → List (Nat × AV)
 | [] => []
 | (t, x) :: r => (t, x.mapc (gone id o)) :: gonF id o r
def gonH (id : Nat) (o : Ob) : Hp → Hp
 | [] => []
 | (j, q) :: r => if j = id then gonH id o r else (j, q.mapc (gone id o)) :: gonH id o r
def dropH (id : Nat) (fr : List (Nat × AV)) (hp : Hp) : Option Ob → St
 | none => ⟨fr, hp⟩
 | some o => ⟨gonF id o fr, gonH id o hp⟩
section
variable {id : Nat} {o : Ob}
@[simp] theorem goneP_s {off : Nat} {l : List IV} : goneP off (some l) = .iv (.pt (l.drop off)) := rfl
@[simp] theorem goneP_n {off : Nat} : goneP off none = .junk := rfl
@[simp] theorem gonF_nil : gonF id o [] = [] := rfl
@[simp] theorem c6J {t : Nat} {x : AV} {r : List (Nat × AV)} : gonF id o ((t, x) :: r) = (t, x.mapc (gone id o)) :: gonF id o r := rfl
@[simp] theorem gonH_nil : gonH id o [] = [] := rfl
@[simp] theorem c7J {j : Nat} {q : Ob} {r : Hp} : gonH id o ((j, q) :: r) = if j = id then gonH id o r else (j, q.mapc (gone id o)) :: gonH id o r := rfl
@[simp] theorem dropH_n {fr : List (Nat × AV)} {hp : Hp} : dropH id fr hp none = ⟨fr, hp⟩ := rfl
@[simp] theorem dropH_s {fr : List (Nat × AV)} {hp : Hp} : dropH id fr hp (some o) = ⟨gonF id o fr, gonH id o hp⟩ := rfl
theorem c8J (fr : List (Nat × AV)) : gonF id o fr = fr.map fun (t, x) => (t, x.mapc fun x => (x.fc id o).kc (· == id)) := by
 induction fr with
 | nil => rfl
 | cons p r ih => obtain ⟨t, x⟩ := p; simp only [gonF, List.map_cons, ih]; rfl
theorem c9J (hp : Hp) : gonH id o hp = (hp.map fun (t, x) => (t, x.mapc fun x => (x.fc id o).kc (· == id))).filter (·.1 != id) := by
 induction hp with
 | nil => rfl
 | cons p r ih =>
   obtain ⟨t, x⟩ := p
   simp only [gonH, List.map_cons, List.filter_cons, ih]
   by_cases h : t = id
   · simp [h]
   · simp [h]; rfl
@[simp] theorem drop_mk {fr : List (Nat × AV)} {hp : Hp} : St.drop id ⟨fr, hp⟩ = dropH id fr hp (look hp id) := by
 simp only [St.drop]
 cases look hp id with
 | none => rfl
 | some o => simp only [dropH, c8J, c9J]; rfl
@[simp] theorem c0K {x : IV} : gone id o (.iv x) = .iv x := rfl
@[simp] theorem gone_nil {sz : Nat} : gone id o (.nil sz) = .nil sz := rfl
@[simp] theorem gone_un : gone id o .un = .un := rfl
@[simp] theorem c1K : gone id o .junk = .junk := rfl
@[simp] theorem gone_fn {f : FuncId} {a b : List CapV} : gone id o (.fn f a b) = AV.kc (· == id) (.fn f (a.map (CapV.fc id o)) (b.map (CapV.fc id o))) := rfl
@[simp] theorem c2K {x : IV} : CapV.fc id o (.val x) = .val x := rfl
def capP (j off : Nat) : Option (List IV) → CapV
 | some l => .val (.pt (l.drop off))
 | none => .ptr j off
@[simp] theorem capP_s {j off : Nat} {l : List IV} : capP j off (some l) = .val (.pt (l.drop off)) := rfl
@[simp] theorem capP_n {j off : Nat} : capP j off none = .ptr j off := rfl
@[simp] theorem c3K {cs : List AV} {j off : Nat} : CapV.fc id (.box cs) (.ptr j off) = if j = id then capP j off (b8R cs) else .ptr j off := by
 simp only [CapV.fc]; split
 · cases b8R cs <;> rfl
 · rfl
@[simp] theorem c4K {cs : List AV} {j sz2 lo len : Nat} : gone id (.box cs) (.sl j sz2 lo len) = if j = id then .junk else .sl j sz2 lo len := by
 by_cases h : j = id <;> simp [gone, AV.fc, h]
@[simp] theorem c5K {cs : List AV} {j sz2 i off : Nat} : gone id (.box cs) (.ep j sz2 i off) = if j = id then .junk else .ep j sz2 i off := by
 by_cases h : j = id <;> simp [gone, AV.fc, h]
@[simp] theorem c6K {cs : List AV} {j : Nat} : gone id (.box cs) (.mpr j) = if j = id then .junk else .mpr j := by
 by_cases h : j = id <;> simp [gone, AV.fc, h]
@[simp] theorem c7K {cs : List AV} {j off : Nat} : gone id (.box cs) (.ptr j off) = if j = id then goneP off (b8R cs) else .ptr j off := by
 by_cases h : j = id <;> simp [gone, AV.fc, h]
 cases b8R cs <;> simp
@[simp] theorem c8K {sz : Nat} {xs : List (List IV)} {j off : Nat} : CapV.fc id (.list sz xs) (.ptr j off) = .ptr j off := by
 simp only [CapV.fc, ite_self]
@[simp] theorem c9K {sz : Nat} {xs : List (List IV)} {j sz2 lo len : Nat} : gone id (.list sz xs) (.sl j sz2 lo len) = if j = id then .iv (.lst sz2 ((xs.drop lo).take len)) else .sl j sz2 lo len := by
 by_cases h : j = id <;> simp [gone, AV.fc, h]
@[simp] theorem c0L {sz : Nat} {xs : List (List IV)} {j sz2 i off : Nat} : gone id (.list sz xs) (.ep j sz2 i off) = if j = id then .iv (.pt ((xs.getD i []).drop off)) else .ep j sz2 i off := by
 by_cases h : j = id <;> simp [gone, AV.fc, h]
@[simp] theorem c1L {sz : Nat} {xs : List (List IV)} {j : Nat} : gone id (.list sz xs) (.mpr j) = if j = id then .junk else .mpr j := by
 by_cases h : j = id <;> simp [gone, AV.fc, h]
@[simp] theorem c2L {sz : Nat} {xs : List (List IV)} {j off : Nat} : gone id (.list sz xs) (.ptr j off) = if j = id then .junk else .ptr j off := by
 by_cases h : j = id <;> simp [gone, AV.fc, h]
@[simp] theorem c3L {sk : Sk} {g : List Value → Option (List IV)} {j off : Nat} : CapV.fc id (.map sk g) (.ptr j off) = .ptr j off := by
 simp only [CapV.fc, ite_self]
attribute [simp] c0B
@[simp] theorem c4L {Z : GZ} {vs : List Value} {cs : List AV} {j sz2 lo len : Nat} : gone id (.gh Z vs cs) (.sl j sz2 lo len) = if j = id then .junk else .sl j sz2 lo len := by
 by_cases h : j = id <;> simp [gone, AV.fc, h]
@[simp] theorem c5L {Z : GZ} {vs : List Value} {cs : List AV} {j sz2 i off : Nat} : gone id (.gh Z vs cs) (.ep j sz2 i off) = if j = id then .junk else .ep j sz2 i off := by
 by_cases h : j = id <;> simp [gone, AV.fc, h]
@[simp] theorem c6L {Z : GZ} {vs : List Value} {cs : List AV} {j : Nat} : gone id (.gh Z vs cs) (.mpr j) = if j = id then .junk else .mpr j := by
 by_cases h : j = id <;> simp [gone, AV.fc, h]
@[simp] theorem c7L {Z : GZ} {vs : List Value} {cs : List AV} {j off : Nat} : gone id (.gh Z vs cs) (.ptr j off) = if j = id then .junk else .ptr j off := by
 by_cases h : j = id <;> simp [gone, AV.fc, h]
@[simp] theorem c8L {sk : Sk} {g : List Value → Option (List IV)} {j sz2 lo len : Nat} : gone id (.map sk g) (.sl j sz2 lo len) = if j = id then .junk else .sl j sz2 lo len := by
 by_cases h : j = id <;> simp [gone, AV.fc, h]
@[simp] theorem c9L {sk : Sk} {g : List Value → Option (List IV)} {j sz2 i off : Nat} : gone id (.map sk g) (.ep j sz2 i off) = if j = id then .junk else .ep j sz2 i off := by
 by_cases h : j = id <;> simp [gone, AV.fc, h]
@[simp] theorem c0M {sk : Sk} {g : List Value → Option (List IV)} {j : Nat} : gone id (.map sk g) (.mpr j) = if j = id then .iv (.mp sk g) else .mpr j := by
 by_cases h : j = id <;> simp [gone, AV.fc, h]
@[simp] theorem c1M {sk : Sk} {g : List Value → Option (List IV)} {j off : Nat} : gone id (.map sk g) (.ptr j off) = if j = id then .junk else .ptr j off := by
 by_cases h : j = id <;> simp [gone, AV.fc, h]
@[simp] theorem c2M {sk : Sk} {g : List Value → Option (List IV)} {n : Int} {k : List Value} {j off : Nat} : CapV.fc id (.mapS sk g n k) (.ptr j off) = .ptr j off := by
 simp only [CapV.fc, ite_self]
@[simp] theorem c3M {sk : Sk} {g : List Value → Option (List IV)} {n : Int} {k : List Value} {j sz2 lo len : Nat} : gone id (.mapS sk g n k) (.sl j sz2 lo len) = if j = id then .junk else .sl j sz2 lo len := by
 by_cases h : j = id <;> simp [gone, AV.fc, h]
@[simp] theorem c4M {sk : Sk} {g : List Value → Option (List IV)} {n : Int} {k : List Value} {j sz2 i off : Nat} : gone id (.mapS sk g n k) (.ep j sz2 i off) = if j = id then .junk else .ep j sz2 i off := by
 by_cases h : j = id <;> simp [gone, AV.fc, h]
@[simp] theorem c5M {sk : Sk} {g : List Value → Option (List IV)} {n : Int} {k : List Value} {j : Nat} : gone id (.mapS sk g n k) (.mpr j) = if j = id then .junk else .mpr j := by
 by_cases h : j = id <;> simp [gone, AV.fc, h]
@[simp] theorem c6M {sk : Sk} {g : List Value → Option (List IV)} {n : Int} {k : List Value} {j off : Nat} : gone id (.mapS sk g n k) (.ptr j off) = if j = id then .junk else .ptr j off := by
 by_cases h : j = id <;> simp [gone, AV.fc, h]
@[simp] theorem c7M {n sz : Nat} {xs : List (List IV)} {j off : Nat} : CapV.fc id (.lent n sz xs) (.ptr j off) = .ptr j off := by
 simp only [CapV.fc, ite_self]
@[simp] theorem c8M {n sz : Nat} {xs : List (List IV)} {j sz2 lo len : Nat} : gone id (.lent n sz xs) (.sl j sz2 lo len) = if j = id then .junk else .sl j sz2 lo len := by
 by_cases h : j = id <;> simp [gone, AV.fc, h]
@[simp] theorem c9M {n sz : Nat} {xs : List (List IV)} {j sz2 i off : Nat} : gone id (.lent n sz xs) (.ep j sz2 i off) = if j = id then .junk else .ep j sz2 i off := by
 by_cases h : j = id <;> simp [gone, AV.fc, h]
@[simp] theorem c0N {n sz : Nat} {xs : List (List IV)} {j : Nat} : gone id (.lent n sz xs) (.mpr j) = if j = id then .junk else .mpr j := by
 by_cases h : j = id <;> simp [gone, AV.fc, h]
@[simp] theorem c1N {n sz : Nat} {xs : List (List IV)} {j off : Nat} : gone id (.lent n sz xs) (.ptr j off) = if j = id then .junk else .ptr j off := by
 by_cases h : j = id <;> simp [gone, AV.fc, h]
@[simp] theorem c2N {sk : Sk} {sz : Nat} {h : List Value → Option (List (List IV))} {hole : Option (List Value)} {j off : Nat} : CapV.fc id (.mapo sk sz h hole) (.ptr j off) = .ptr j off := by
 simp only [CapV.fc, ite_self]
@[simp] theorem c3N {sk : Sk} {sz : Nat} {h : List Value → Option (List (List IV))} {hole : Option (List Value)} {j sz2 lo len : Nat} : gone id (.mapo sk sz h hole) (.sl j sz2 lo len) = if j = id then .junk else .sl j sz2 lo len := by
 by_cases h : j = id <;> simp [gone, AV.fc, h]
@[simp] theorem c4N {sk : Sk} {sz : Nat} {h : List Value → Option (List (List IV))} {hole : Option (List Value)} {j sz2 i off : Nat} : gone id (.mapo sk sz h hole) (.ep j sz2 i off) = if j = id then .junk else .ep j sz2 i off := by
 by_cases h : j = id <;> simp [gone, AV.fc, h]
@[simp] theorem c5N {sk : Sk} {sz : Nat} {h : List Value → Option (List (List IV))} {hole : Option (List Value)} {j off : Nat} : gone id (.mapo sk sz h hole) (.ptr j off) = if j = id then .junk else .ptr j off := by
 by_cases h : j = id <;> simp [gone, AV.fc, h]
@[simp] theorem c6N {sz : Nat} {ys : List (List (List IV))} {hole : Option Nat} {j off : Nat} : CapV.fc id (.listo sz ys hole) (.ptr j off) = .ptr j off := by
 simp only [CapV.fc, ite_self]
@[simp] theorem c7N {sz : Nat} {ys : List (List (List IV))} {hole : Option Nat} {j sz2 i off : Nat} : gone id (.listo sz ys hole) (.ep j sz2 i off) = if j = id then .junk else .ep j sz2 i off := by
 by_cases h : j = id <;> simp [gone, AV.fc, h]
@[simp] theorem c8N {sz : Nat} {ys : List (List (List IV))} {hole : Option Nat} {j : Nat} : gone id (.listo sz ys hole) (.mpr j) = if j = id then .junk else .mpr j := by
 by_cases h : j = id <;> simp [gone, AV.fc, h]
@[simp] theorem c9N {sz : Nat} {ys : List (List (List IV))} {hole : Option Nat} {j off : Nat} : gone id (.listo sz ys hole) (.ptr j off) = if j = id then .junk else .ptr j off := by
 by_cases h : j = id <;> simp [gone, AV.fc, h]
@[simp] theorem c0O {sk : Sk} {g : List Value → Option (List IV)} {left : List (List Value)} {last : Option (List Value)} {j off : Nat} : CapV.fc id (.iter sk g left last) (.ptr j off) = .ptr j off := by
 simp only [CapV.fc, ite_self]
@[simp] theorem c1O {sk : Sk} {g : List Value → Option (List IV)} {left : List (List Value)} {last : Option (List Value)} {j sz2 lo len : Nat} : gone id (.iter sk g left last) (.sl j sz2 lo len) = if j = id then .junk else .sl j sz2 lo len := by
 by_cases h : j = id <;> simp [gone, AV.fc, h]
@[simp] theorem c2O {sk : Sk} {g : List Value → Option (List IV)} {left : List (List Value)} {last : Option (List Value)} {j sz2 i off : Nat} : gone id (.iter sk g left last) (.ep j sz2 i off) = if j = id then .junk else .ep j sz2 i off := by
 by_cases h : j = id <;> simp [gone, AV.fc, h]
@[simp] theorem c3O {sk : Sk} {g : List Value → Option (List IV)} {left : List (List Value)} {last : Option (List Value)} {j : Nat} : gone id (.iter sk g left last) (.mpr j) = if j = id then .junk else .mpr j := by
 by_cases h : j = id <;> simp [gone, AV.fc, h]
@[simp] theorem c4O {sk : Sk} {g : List Value → Option (List IV)} {left : List (List Value)} {last : Option (List Value)} {j off : Nat} : gone id (.iter sk g left last) (.ptr j off) = if j = id then .junk else .ptr j off := by
 by_cases h : j = id <;> simp [gone, AV.fc, h]
@[simp] theorem c5O {sz : Nat} {ys : List (List (List IV))} {j sz2 lo len : Nat} : gone id (.listo sz ys none) (.sl j sz2 lo len) = if j = id then .iv (.lst 1 (((ys.map fun x => [IV.lst sz x]).drop lo).take len)) else .sl j sz2 lo len := by
 by_cases h : j = id <;> simp [gone, AV.fc, h]
@[simp] theorem c6O {sk : Sk} {sz : Nat} {h : List Value → Option (List (List IV))} {j : Nat} : gone id (.mapo sk sz h none) (.mpr j) = if j = id then .iv (.mp sk fun k => (h k).map fun xs => [IV.lst sz xs]) else .mpr j := by
 by_cases h : j = id <;> simp [gone, AV.fc, h]
end
section
variable {s : St} {id : Nat} {fr : List (Nat × AV)} {hp : Hp}
@[simp] theorem c7O {z : List AV} {off n : Nat} {x : Operand} {r : List (Nat × Nat × Operand)} : b9U s z ((off, n, x) :: r) = (s.ev x).cellsOf.bind fun cs => if cs.length = n ∧ off + n ≤ z.length then b9U s (c2d z off cs) r else none := by
 simp only [b9U]
 cases (s.ev x).cellsOf <;> rfl
@[simp] theorem c8O {sz i : Nat} {x : Operand} {r : List (Nat × Operand)} : litA s sz ((i, x) :: r) = ((s.ev x).cellsOf.bind fun cs => allO AV.iv? cs).bind fun c => if c.length = sz then (litA s sz r).map fun q => c :: q else none := by
 simp only [litA, b0d]
 cases ((s.ev x).cellsOf.bind fun cs => allO AV.iv? cs) <;> rfl
@[simp] theorem c9O {α : Type} {z cs : List α} {off : Nat} : c2d z off cs = z.take off ++ cs ++ z.drop (off + cs.length) := rfl
@[simp] theorem add_mk {o : Ob} : St.add ⟨fr, hp⟩ id o = ⟨fr, (id, o) :: hp⟩ := rfl
@[simp] theorem join_mk {H : Hp} : St.join ⟨fr, hp⟩ H = ⟨fr, H ++ hp⟩ := rfl
@[simp] theorem put_s {d : Nat} {x : AV} : St.put ⟨fr, hp⟩ (some d) x = ⟨(d, x) :: fr, hp⟩ := rfl
@[simp] theorem put_n {x : AV} : St.put ⟨fr, hp⟩ none x = ⟨fr, hp⟩ := rfl
@[simp] theorem get_mk' {t : Nat} : St.get ⟨fr, hp⟩ t = (look fr t).getD .junk := rfl
def loF (id : Nat) : List (Nat × AV) → List (Nat × AV)
 | [] => []
 | (t, x) :: r => (t, x.mapc (AV.kc (· == id))) :: loF id r
def loH (id : Nat) : Hp → Hp
 | [] => []
 | (t, x) :: r => (t, x.mapc (AV.kc (· == id))) :: loH id r
def kiH (id : Nat) : Hp → Hp
 | [] => []
 | (t, x) :: r => if t = id then kiH id r else (t, x.mapc (AV.kc (· == id))) :: kiH id r
@[simp] theorem loF_nil : loF id [] = [] := rfl
@[simp] theorem loF_cons {t : Nat} {x : AV} {r : List (Nat × AV)} : loF id ((t, x) :: r) = (t, x.mapc (AV.kc (· == id))) :: loF id r := rfl
@[simp] theorem loH_nil : loH id [] = [] := rfl
@[simp] theorem loH_cons {t : Nat} {x : Ob} {r : Hp} : loH id ((t, x) :: r) = (t, x.mapc (AV.kc (· == id))) :: loH id r := rfl
@[simp] theorem kiH_nil : kiH id [] = [] := rfl
@[simp] theorem kiH_cons {t : Nat} {x : Ob} {r : Hp} : kiH id ((t, x) :: r) = if t = id then kiH id r else (t, x.mapc (AV.kc (· == id))) :: kiH id r := rfl
theorem c0P (fr : List (Nat × AV)) : loF id fr = fr.map fun (t, x) => (t, x.mapc (AV.kc (· == id))) := by
 induction fr with
 | nil => rfl
 | cons p r ih => obtain ⟨t, x⟩ := p; simp only [loF, List.map_cons, ih]
theorem c1P (fr : Hp) : loH id fr = fr.map fun (t, x) => (t, x.mapc (AV.kc (· == id))) := by
 induction fr with
 | nil => rfl
 | cons p r ih => obtain ⟨t, x⟩ := p; simp only [loH, List.map_cons, ih]
theorem c2P (fr : Hp) : kiH id fr = (fr.map fun (t, x) => (t, x.mapc (AV.kc (· == id)))).filter (·.1 != id) := by
 induction fr with
 | nil => rfl
 | cons p r ih =>
   obtain ⟨t, x⟩ := p
   simp only [kiH, List.map_cons, List.filter_cons, ih]
   by_cases h : t = id <;> simp [h]
@[simp] theorem lone_mk : St.lone id ⟨fr, hp⟩ = ⟨loF id fr, loH id hp⟩ := by
 simp only [St.lone, St.mapc, c0P, c1P]
@[simp] theorem kill_mk : St.kill id ⟨fr, hp⟩ = ⟨loF id fr, kiH id hp⟩ := by
 simp only [St.kill, St.mapc, c0P, c2P]
end
@[simp] theorem c3P {i : Nat} : c8l i [] = [] := rfl
@[simp] theorem c4P {i : Nat} {x : AV} {r : List AV} : c8l i (x :: r) = (i, x) :: c8l (i + 1) r := rfl
def wL (sz lo len : Nat) : Option Ob → Option IV
 | some (.list _ xs) => some (.lst sz ((xs.drop lo).take len))
 | some (.listo sz' xs none) => some (.lst 1 (((xs.map fun x => [IV.lst sz' x]).drop lo).take len))
 | _ => none
def wM : Option Ob → Option IV
 | some (.map sk g) => some (.mp sk g)
 | some (.mapo sk sz g none) => some (.mp sk fun k => (g k).map fun xs => [IV.lst sz xs])
 | _ => none
def wB (off : Nat) (f : List AV → Option (List IV)) : Option Ob → Option IV
 | some (.box cs) => (f cs).map fun l => .pt (l.drop off)
 | _ => none
def IV.or (y : Option IV) (x : AV) : AV := match y with | some y => .iv y | none => x
def IV.orC (y : Option IV) (x : CapV) : CapV := match y with | some y => .val y | none => x
section
variable {s : St} {ids : List Nat} {d id sz lo len i off : Nat} {x : IV} {cs : List AV} {f : FuncId} {a b : List CapV} {fr : Bool}
@[simp] theorem wL_list {z : Nat} {xs : List (List IV)} : wL sz lo len (some (.list z xs)) = some (.lst sz ((xs.drop lo).take len)) := rfl
@[simp] theorem wL_listo {z : Nat} {xs : List (List (List IV))} : wL sz lo len (some (.listo z xs none)) = some (.lst 1 (((xs.map fun x => [IV.lst z x]).drop lo).take len)) := rfl
@[simp] theorem wM_map {sk g} : wM (some (.map sk g)) = some (.mp sk g) := rfl
@[simp] theorem wM_mapo {sk g} : wM (some (.mapo sk sz g none)) = some (.mp sk fun k => (g k).map fun xs => [IV.lst sz xs]) := rfl
@[simp] theorem wB_box {g : List AV → Option (List IV)} : wB off g (some (.box cs)) = (g cs).map fun l => .pt (l.drop off) := rfl
@[simp] theorem or_s {y : IV} {x : AV} : IV.or (some y) x = .iv y := rfl
@[simp] theorem or_n {x : AV} : IV.or none x = x := rfl
@[simp] theorem orC_s {y : IV} {x : CapV} : IV.orC (some y) x = .val y := rfl
@[simp] theorem orC_n {x : CapV} : IV.orC none x = x := rfl
@[simp] theorem ivW_iv : s.ivW ids d (.iv x) = some x := by cases d <;> rfl
@[simp] theorem ivW_nil : s.ivW ids d (.nil sz) = some (.lst sz []) := by cases d <;> rfl
@[simp] theorem ivW_sl : s.ivW ids d (.sl id sz lo len) = if ids.contains id then none else wL sz lo len (look s.hp id) := by cases d <;> rfl
@[simp] theorem ivW_mpr : s.ivW ids d (.mpr id) = if ids.contains id then none else wM (look s.hp id) := by cases d <;> rfl
@[simp] theorem ivW_ptr3 : s.ivW ids 3 (.ptr id off) = if ids.contains id then none else wB off (fun cs => allO (s.ivW ids 2) cs) (look s.hp id) := rfl
@[simp] theorem ivW_ptr2 : s.ivW ids 2 (.ptr id off) = if ids.contains id then none else wB off (fun cs => allO (s.ivW ids 1) cs) (look s.hp id) := rfl
@[simp] theorem ivW_ptr1 : s.ivW ids 1 (.ptr id off) = if ids.contains id then none else wB off (fun cs => allO (s.ivW ids 0) cs) (look s.hp id) := rfl
@[simp] theorem c5P : allO (s.ivW ids d) (.iv x :: cs) = (allO (s.ivW ids d) cs).map fun l => x :: l := by simp [allO]
@[simp] theorem c6P : allO (s.ivW ids d) (.nil sz :: cs) = (allO (s.ivW ids d) cs).map fun l => .lst sz [] :: l := by simp [allO]
@[simp] theorem c7P : allO (s.ivW ids d) (.sl id sz lo len :: cs) = (s.ivW ids d (.sl id sz lo len)).bind fun y => (allO (s.ivW ids d) cs).map fun l => y :: l := by
 simp only [allO]; cases s.ivW ids d (.sl id sz lo len) <;> rfl
@[simp] theorem c8P : allO (s.ivW ids d) (.mpr id :: cs) = (s.ivW ids d (.mpr id)).bind fun y => (allO (s.ivW ids d) cs).map fun l => y :: l := by
 simp only [allO]; cases s.ivW ids d (.mpr id) <;> rfl
@[simp] theorem c9P : allO (s.ivW ids d) (.ptr id off :: cs) = (s.ivW ids d (.ptr id off)).bind fun y => (allO (s.ivW ids d) cs).map fun l => y :: l := by
 simp only [allO]; cases s.ivW ids d (.ptr id off) <;> rfl
@[simp] theorem c0Q {l : List IV} : allO (s.ivW ids d) (l.map .iv) = some l := by
 induction l with
 | nil => rfl
 | cons x l ih => simp [ih]
@[simp] theorem bor_ptr : CapV.bor s ids (.ptr id off) = IV.orC (s.ivW ids 3 (.ptr id off)) (.ptr id off) := by
 simp only [CapV.bor]; cases s.ivW ids 3 (.ptr id off) <;> rfl
@[simp] theorem bor_val : CapV.bor s ids (.val x) = .val x := rfl
@[simp] theorem c1Q : CapV.inn ids (.ptr id off) = ids.contains id := rfl
@[simp] theorem c2Q : CapV.inn ids (.val x) = true := rfl
@[simp] theorem c3Q : AV.inn ids (.iv x) = true := rfl
@[simp] theorem inn_nil : AV.inn ids (.nil sz) = true := rfl
@[simp] theorem inn_sl : AV.inn ids (.sl id sz lo len) = ids.contains id := rfl
@[simp] theorem inn_ptr : AV.inn ids (.ptr id off) = ids.contains id := rfl
@[simp] theorem inn_ep : AV.inn ids (.ep id sz i off) = ids.contains id := rfl
@[simp] theorem inn_mpr : AV.inn ids (.mpr id) = ids.contains id := rfl
@[simp] theorem inn_fn : AV.inn ids (.fn f a b) = (a.all (CapV.inn ids) && b.all (CapV.inn ids)) := rfl
@[simp] theorem inns_agg : AV.inns ids (.agg cs) = cs.all (AV.inn ids) := rfl
@[simp] theorem inns_iv : AV.inns ids (.iv x) = true := rfl
@[simp] theorem inns_nil : AV.inns ids (.nil sz) = true := rfl
@[simp] theorem inns_sl : AV.inns ids (.sl id sz lo len) = ids.contains id := rfl
@[simp] theorem inns_ptr : AV.inns ids (.ptr id off) = ids.contains id := rfl
@[simp] theorem inns_mpr : AV.inns ids (.mpr id) = ids.contains id := rfl
@[simp] theorem inns_fn : AV.inns ids (.fn f a b) = (a.all (CapV.inn ids) && b.all (CapV.inn ids)) := rfl
@[simp] theorem arg1_iv : s.arg1 fr ids (.iv x) = .iv x := rfl
@[simp] theorem arg1_nil : s.arg1 fr ids (.nil sz) = .iv (.lst sz []) := rfl
@[simp] theorem arg1_fn : s.arg1 fr ids (.fn f a b) = if fr && !((AV.fn f a b).inn ids) then .fn f (a.map (CapV.bor s ids)) (b.map (CapV.bor s ids)) else .fn f a b := rfl
@[simp] theorem arg1_sl : s.arg1 fr ids (.sl id sz lo len) = if fr && !(ids.contains id) then IV.or (s.ivW ids 3 (.sl id sz lo len)) (.sl id sz lo len) else .sl id sz lo len := rfl
@[simp] theorem arg1_mpr : s.arg1 fr ids (.mpr id) = if fr && !(ids.contains id) then IV.or (s.ivW ids 3 (.mpr id)) (.mpr id) else .mpr id := rfl
@[simp] theorem arg1_ptr : s.arg1 fr ids (.ptr id off) = if fr && !(ids.contains id) then IV.or (s.ivW ids 3 (.ptr id off)) (.ptr id off) else .ptr id off := rfl
@[simp] theorem arg_iv : s.arg fr ids (.iv x) = .iv x := rfl
@[simp] theorem arg_nil : s.arg fr ids (.nil sz) = .iv (.lst sz []) := rfl
@[simp] theorem arg_fn : s.arg fr ids (.fn f a b) = s.arg1 fr ids (.fn f a b) := rfl
@[simp] theorem arg_sl : s.arg fr ids (.sl id sz lo len) = s.arg1 fr ids (.sl id sz lo len) := rfl
@[simp] theorem arg_mpr : s.arg fr ids (.mpr id) = s.arg1 fr ids (.mpr id) := rfl
@[simp] theorem arg_ptr : s.arg fr ids (.ptr id off) = s.arg1 fr ids (.ptr id off) := rfl
@[simp] theorem c4Q {l : List IV} : s.arg fr ids (.agg (l.map .iv)) = .agg (l.map .iv) := by
 simp only [St.arg, List.map_map]
 congr 1
@[simp] theorem arg_agg : s.arg fr ids (.agg cs) = .agg (cs.map (s.arg1 fr ids)) := rfl
@[simp] theorem args_d {pre : List CapV} {ops : List Operand} {post : List CapV} : s.args pre ops post = pre.map CapV.av ++ ops.map s.ev ++ post.map CapV.av := rfl
end
@[simp] theorem c5Q {id : Nat} {o : Ob} {l : List IV} : (l.map AV.iv).map (gone id o) = l.map AV.iv := by
 induction l with
 | nil => rfl
 | cons x l ih => rw [List.map_cons, List.map_cons, ih, c0K]
@[simp] theorem c6Q {p : Nat → Bool} {l : List IV} : (l.map AV.iv).map (AV.kc p) = l.map AV.iv := by
 induction l with
 | nil => rfl
 | cons x l ih => rw [List.map_cons, List.map_cons, ih, kc_iv]
@[simp] theorem c7Q {ids : List Nat} {l : List IV} : (l.map AV.iv).all (AV.inn ids) = true := by
 induction l with
 | nil => rfl
 | cons x l ih => rw [List.map_cons, List.all_cons, ih, c3Q]; rfl
@[simp] theorem c8Q {l : List IV} : (l.map AV.iv).all AV.one = true := by
 induction l with
 | nil => rfl
 | cons x l ih => rw [List.map_cons, List.all_cons, ih, c6F]; rfl
attribute [simp ↓] c8D c0E c1E c2E c3E c5E c6E c7E
end Go.Vm
end

section
namespace Go.Vm
attribute [simp] St.lit St.pure1 St.pure St.ivOf at2 vtrue
@[simp] theorem a4F {α : Type} (l : List α) (i : Nat) (x : α) : (l.getD i x) = (l[i]?).getD x := rfl
theorem a5F {f : AV → AV} {s : St} {t : Nat} {x : IV} (hf : ∀ x, f (.iv x) = .iv x) (h : s.get t = .iv x) : (s.mapc f).get t = .iv x := by
 simp only [St.get, St.mapc] at h ⊢
 rw [b9R (AV.mapc f)]
 cases hl : look s.fr t with
 | none => rw [hl] at h; cases h
 | some y => rw [hl] at h; simp only [Option.getD_some] at h; subst h; simp [AV.mapc, hf]
theorem a6F {s : St} {t id : Nat} {x : IV} (h : s.get t = .iv x) : (s.drop id).get t = .iv x := by
 unfold St.drop
 split
 · exact h
 · rename_i o _
   exact a5F (f := fun x => (x.fc id o).kc (· == id)) (fun _ => rfl) h
theorem a7F (D : List Nat) : ∀ {s : St} {t : Nat} {x : IV}, s.get t = .iv x → (s.drops D).get t = .iv x := by
 induction D with
 | nil => intro s t x h; exact h
 | cons i D ih => intro s t x h; exact ih (a6F h)
theorem a8F {s : St} {id k : Nat} (h : look s.hp k = none) : look (s.drop id).hp k = none := by
 unfold St.drop
 split
 · exact h
 · simp only [b0S, c9A, h, Option.map_none]; split <;> rfl
theorem a9F (D : List Nat) : ∀ {s : St} {k : Nat}, (k ∈ D ∨ look s.hp k = none) → look (s.drops D).hp k = none := by
 induction D with
 | nil => intro s k h; rcases h with h | h; · cases h
          · exact h
 | cons i D ih =>
   intro s k h
   refine ih (s := s.drop i) ?_
   rcases h with h | h
   · rcases List.mem_cons.1 h with rfl | h
     · exact .inr (a3C s k)
     · exact .inl h
   · exact .inr (a8F h)
theorem a0G {t : Nat} {x : IV} {s : St} (h : s.get t = .iv x) (hf : x.flat = true) (hb : (s.hp.map (·.1)).all (· < 1000) = true) : Ends true [.tmp t] (.iv x) [] s := by
 refine ⟨s.drops (s.hp.map (·.1)), [.iv x], c8v _ hb s, ?_, rfl, fun id => ?_, fun _ => ⟨hf, fun _ _ h => by cases h⟩⟩
 · simp [resV, a7F _ h]
 · refine a9F _ ?_
   cases hl : look s.hp id with
   | none => exact .inr rfl
   | some o => exact .inl (List.contains_iff_mem.1 (b8z hl))
theorem a1G {P : Program} {d : Nat} {f : FuncId} {ops : List Operand} {s : St} {K : St → AV → Prop} {args : List AV} {res : AV} (h : b4z P true f args [] res [])
   (ha : (((s.drop d).args [] ops []).map ((s.drop d).arg true [])) = args) (hr : args.all (AV.inns []) = true) (hk : K (s.drop d) res) : a7S P d f [] ops [] none s K := by
 refine b8U ⟨s, Le.refl s, true, [], res, [], s.drop d, rfl, trivial, { spec := ?_, refs := ?_, sub := fun _ _ h => ?_, own := fun _ _ h => ?_, keep := fun _ _ h => ?_, new := fun _ _ h => ?_ }, hk⟩
 all_goals first | (rw [List.map_nil, ha]; assumption) | cases h
def a2G : Hp → Bool
 | [] => true
 | (i, _) :: r => decide (i < 1000) && a2G r
@[simp] theorem a3G : a2G [] = true := rfl
@[simp] theorem a4G {i : Nat} {o : Ob} {r : Hp} : a2G ((i, o) :: r) = (decide (i < 1000) && a2G r) := rfl
theorem a5G : ∀ {h : Hp}, a2G h = true → (h.map (·.1)).all (· < 1000) = true
 | [], _ => rfl
 | (i, _) :: r, h => by
   simp only [a2G, Bool.and_eq_true] at h
   simp only [List.map_cons, List.all_cons, Bool.and_eq_true]
   exact ⟨h.1, a5G h.2⟩
def a6G : Hp → List Nat → Bool
 | [], _ => true
 | (i, _) :: r, ks => ks.contains i && a6G r ks
@[simp] theorem a7G {ks : List Nat} : a6G [] ks = true := rfl
@[simp] theorem a8G {i : Nat} {o : Ob} {r : Hp} {ks : List Nat} : a6G ((i, o) :: r) ks = (ks.contains i && a6G r ks) := rfl
theorem a9G : ∀ {h l : Hp}, a6G h (l.map (·.1)) = true → c3w h l = true
 | [], _, _ => rfl
 | (i, _) :: r, l, h => by
   simp only [a6G, Bool.and_eq_true] at h
   have h2 := a9G h.2
   unfold c3w at h2 ⊢
   simp only [List.all_cons, Bool.and_eq_true]
   refine ⟨?_, h2⟩
   have := List.contains_iff_mem.1 h.1
   obtain ⟨q, hq, e⟩ := List.mem_map.1 this
   exact List.any_eq_true.2 ⟨q, hq, by simp [e]⟩
def a0H : Hp → List Nat
 | [] => []
 | (i, _) :: r => i :: a0H r
@[simp] theorem a1H : a0H [] = [] := rfl
@[simp] theorem a2H {i : Nat} {o : Ob} {r : Hp} : a0H ((i, o) :: r) = i :: a0H r := rfl
theorem a3H (h : Hp) : a0H h = h.map (·.1) := by
 induction h with
 | nil => rfl
 | cons p r ih => obtain ⟨i, o⟩ := p; simp [ih]
def End1 (t : Nat) (x : IV) (s : St) : Prop := s.get t = .iv x ∧ a2G s.hp = true
def End2 (t u : Nat) (x y : IV) (s : St) : Prop := s.get t = .iv x ∧ s.get u = .iv y ∧ a2G s.hp = true
def outs (r : St → Prop) : Outs := ⟨r, fun _ _ => False, r, fun _ _ => False⟩
theorem a4H {P : Program} {n : Nat} {c : VCode} {s : St} {r r' : St → Prop} (h : VC P n c s (outs r)) (hr : ∀ s, r s → r' s) : VC P n c s (outs r') :=
 h.mono hr (fun _ _ h => h) hr (fun _ _ h => h)
theorem a5H {P : Program} {f : FuncId} {args : List AV} {x : IV} {n t : Nat} {c : VCode} (hf : fnV P f = some (n, c, [.tmp t]))
   (hargs : args.length ≤ n) (hn : n ≤ 999) (hx : x.flat = true) (h : wpV P c ⟨c8l 0 args, []⟩ ⟨End1 t x, fun _ _ => False, End1 t x, fun _ _ => False⟩) : b4z P true f args [] (.iv x) [] :=
 d8a hf hargs rfl rfl (a4H (c8u hn _ _ _ h) fun _ h => a0G h.1 hx (a5G h.2))
def LeTo (D : List Nat) (s s' : St) : Prop := D.all (· < 1000) = true ∧ frLe (s.drops D) s'.fr ∧ hpLe (s.drops D).hp s'.hp ∧ a6G (s.drops D).hp (a0H s'.hp) = true
theorem LeTo.le {D : List Nat} {s s' : St} (h : LeTo D s s') : Le s s' := le_to D h.1 h.2.1 h.2.2.1 (a9G (by rw [← a3H]; exact h.2.2.2))
theorem a6H {P : Program} {c : VCode} {s : St} {O : Outs} (I : Nat → St → Prop) (hi : ∃ k s', Le s s' ∧ I k s')
   (hs : ∀ k s', I k s' → wpV P c s' { O with n := fun s2 => ∃ m s3, m < k ∧ Le s2 s3 ∧ I m s3 }) : a9S P c s O := ⟨I, by obtain ⟨k, s', h1, h2⟩ := hi; exact h1.x ⟨k, h2⟩, hs⟩
theorem a7H {P : Program} {c : VCode} {s : St} {O : Outs} (I : Nat → St → Prop) (hi : LeX s fun s' => ∃ k, I k s')
   (hs : ∀ k s', I k s' → wpV P c s' { O with n := fun s2 => ∃ m s3, m < k ∧ Le s2 s3 ∧ I m s3 }) : a9S P c s O := ⟨I, hi, hs⟩
theorem a8H {P : Program} {c : VCode} {s : St} {O : Outs} (D D' : List Nat) (n : Nat) (S : Nat → St) (Q : Nat → Prop) (h0 : LeTo D s (S 0)) (q0 : Q 0)
   (hs : ∀ i, i ≤ n → Q i → wpV P c (S i) { O with n := fun s2 => i < n ∧ LeTo D' s2 (S (i + 1)) ∧ Q (i + 1) }) : a9S P c s O := by
 refine ⟨fun k s => ∃ i, i ≤ n ∧ k = n - i ∧ s = S i ∧ Q i, h0.le.x ⟨_, 0, Nat.zero_le _, rfl, rfl, q0⟩, ?_⟩
 rintro k s' ⟨i, hi, rfl, rfl, hq⟩
 refine c4f c (O := { O with n := fun s2 => i < n ∧ LeTo D' s2 (S (i + 1)) ∧ Q (i + 1) }) (fun s2 h => ?_) (fun _ _ h => h) (fun _ h => h) (fun _ _ h => h) (hs i hi hq)
 obtain ⟨hlt, hle, hq'⟩ := h
 exact ⟨_, _, by omega, hle.le, i + 1, hlt, rfl, rfl, hq'⟩
@[simp] theorem a9H {s : St} : s.drops [] = s := rfl
@[simp] theorem a0I {s : St} {i : Nat} {D : List Nat} : s.drops (i :: D) = (s.drop i).drops D := rfl
@[simp] theorem frLe_nil {s : St} : frLe s [] ↔ True := ⟨fun h => h, fun h => h⟩
@[simp] theorem a1I {s : St} {t : Nat} {x : AV} {r : List (Nat × AV)} : frLe s ((t, x) :: r) ↔ s.get t = x ∧ frLe s r := ⟨fun h => h, fun h => h⟩
@[simp] theorem hpLe_nil {H : Hp} : hpLe H [] ↔ True := ⟨fun h => h, fun h => h⟩
@[simp] theorem a2I {H : Hp} {t : Nat} {x : Ob} {r : Hp} : hpLe H ((t, x) :: r) ↔ look H t = some x ∧ hpLe H r := ⟨fun h => h, fun h => h⟩
attribute [simp] End1 End2 LeTo
/-! ### Functions and calls that change what they are handed -/
def CapV.hi : CapV → Bool
 | .ptr id _ => decide (1000 ≤ id)
 | .val _ => true
def AV.hi : AV → Bool
 | .iv _ | .nil _ | .un | .junk => true
 | .sl id _ _ _ | .ptr id _ | .ep id _ _ _ | .mpr id => decide (1000 ≤ id)
 | .fn _ a b => a.all CapV.hi && b.all CapV.hi
 | .agg _ | .tup _ => false
def Ob.hi : Ob → Bool
 | .box cs => cs.all AV.hi
 | .gh _ _ cs => cs.all AV.hi
 | _ => true
@[simp] theorem ohi_gh {Z : GZ} {vs : List Value} {cs : List AV} : Ob.hi (.gh Z vs cs) = cs.all AV.hi := rfl
@[simp] theorem hi_iv {x : IV} : AV.hi (.iv x) = true := rfl
@[simp] theorem hi_nil {sz : Nat} : AV.hi (.nil sz) = true := rfl
@[simp] theorem hi_ptr {id off : Nat} : AV.hi (.ptr id off) = decide (1000 ≤ id) := rfl
@[simp] theorem hi_mpr {id : Nat} : AV.hi (.mpr id) = decide (1000 ≤ id) := rfl
@[simp] theorem hi_sl {id sz lo len : Nat} : AV.hi (.sl id sz lo len) = decide (1000 ≤ id) := rfl
@[simp] theorem hi_ivs {l : List IV} : (l.map AV.iv).all AV.hi = true := by simp
@[simp] theorem ohi_box {cs : List AV} : Ob.hi (.box cs) = cs.all AV.hi := rfl
@[simp] theorem ohi_list {sz : Nat} {xs : List (List IV)} : Ob.hi (.list sz xs) = true := rfl
@[simp] theorem ohi_map {sk g} : Ob.hi (.map sk g) = true := rfl
@[simp] theorem ohi_mapo {sk sz g h} : Ob.hi (.mapo sk sz g h) = true := rfl
theorem a3I {id : Nat} {o : Ob} (hid : id < 1000) {a : List CapV} (h : a.all CapV.hi = true) : a.map (CapV.fc id o) = a ∧ a.any (CapV.of (· == id)) = false := by
 induction a with
 | nil => exact ⟨rfl, rfl⟩
 | cons c a ih =>
   simp only [List.all_cons, Bool.and_eq_true] at h
   obtain ⟨i1, i2⟩ := ih h.2
   cases c with
   | ptr j off =>
     have hj : j ≠ id := by have := of_decide_eq_true h.1; omega
     refine ⟨?_, ?_⟩
     · simp only [List.map_cons, i1, CapV.fc, if_neg hj]
     · simp only [List.any_cons, i2, CapV.of, Bool.or_false, beq_eq_false_iff_ne]; exact hj
   | val x => exact ⟨by simp only [List.map_cons, i1, CapV.fc], by simp only [List.any_cons, i2, CapV.of, Bool.or_false]⟩
theorem a4I {id : Nat} {o : Ob} (hid : id < 1000) {x : AV} (h : x.hi = true) : gone id o x = x := by
 cases x with
 | agg _ => cases h
 | tup _ => cases h
 | fn f a b =>
   simp only [AV.hi, Bool.and_eq_true] at h
   obtain ⟨a1, a2⟩ := a3I (o := o) hid h.1
   obtain ⟨b1, b2⟩ := a3I (o := o) hid h.2
   simp only [gone, AV.fc, a1, b1, AV.kc, a2, b2, Bool.or_false, Bool.false_eq_true, if_false]
 | iv _ => rfl
 | nil _ => rfl
 | un => rfl
 | junk => rfl
 | _ =>
   have hj := of_decide_eq_true h
   simp only [gone, AV.fc, AV.kc]
   rw [if_neg (by omega)]
   simp only [AV.kc]
   rw [if_neg (by simp only [beq_iff_eq]; omega)]
theorem a5I {id : Nat} {o q : Ob} (hid : id < 1000) (h : q.hi = true) : q.mapc (gone id o) = q := by
 cases q with
 | box cs =>
   simp only [Ob.hi, List.all_eq_true] at h
   simp only [Ob.mapc]
   congr 1
   exact List.map_congr_left (fun x hx => a4I hid (h x hx)) |>.trans (List.map_id _)
 | gh Z vs cs =>
   simp only [Ob.hi, List.all_eq_true] at h
   simp only [Ob.mapc]
   congr 1
   refine (List.map_congr_left fun x hx => ?_).trans (List.map_id _)
   have hx' := h x hx
   have : AV.mapc (gone id o) x = gone id o x := by cases x <;> first | rfl | cases hx'
   rw [this]; exact a4I hid hx'
 | _ => rfl
theorem a6I {s : St} {id k : Nat} {q : Ob} (hid : id < 1000) (hk : 1000 ≤ k) (hq : q.hi = true) (h : look s.hp k = some q) : look (s.drop id).hp k = some q := by
 unfold St.drop
 split
 · exact h
 · simp only [b0S, c9A, h, Option.map_some]
   rw [if_neg (by omega)]
   exact congrArg some (a5I hid hq)
theorem a7I (D : List Nat) (hD : D.all (· < 1000) = true) : ∀ {s : St} {k : Nat} {q : Ob}, 1000 ≤ k → q.hi = true → look s.hp k = some q → look (s.drops D).hp k = some q := by
 induction D with
 | nil => intro s k q _ _ h; exact h
 | cons i D ih =>
   intro s k q hk hq h
   simp only [List.all_cons, Bool.and_eq_true, decide_eq_true_eq] at hD
   exact ih hD.2 hk hq (a6I hD.1 hk hq h)
def hiH : Hp → Bool
 | [] => true
 | (i, o) :: r => decide (1000 ≤ i) && o.hi && hiH r
@[simp] theorem hiH_nil : hiH [] = true := rfl
@[simp] theorem hiH_cons {i : Nat} {o : Ob} {r : Hp} : hiH ((i, o) :: r) = (decide (1000 ≤ i) && o.hi && hiH r) := rfl
def ownH : Hp → List Nat → Bool
 | [], _ => true
 | (i, _) :: r, ks => (decide (i < 1000) || ks.contains i) && ownH r ks
@[simp] theorem ownH_nil {ks : List Nat} : ownH [] ks = true := rfl
@[simp] theorem a8I {i : Nat} {o : Ob} {r : Hp} {ks : List Nat} : ownH ((i, o) :: r) ks = ((decide (i < 1000) || ks.contains i) && ownH r ks) := rfl
theorem a9I {α : Type} {H : List (Nat × α)} {id : Nat} {o : α} (h : look H id = some o) : id ∈ H.map (·.1) := List.contains_iff_mem.1 (b8z h)
theorem a0J {s : St} {H' : Hp} (h1 : hpLe s.hp H') (h2 : ownH s.hp (a0H H') = true) (h3 : hiH H' = true) :
   ∃ D : List Nat, D.all (· < 1000) = true ∧ ∀ id, look (s.drops D).hp id = look H' id := by
 have hall : ((s.hp.map (·.1)).filter (· < 1000)).all (· < 1000) = true := by simp
 have hhi : ∀ {H : Hp}, hiH H = true → ∀ id o, look H id = some o → 1000 ≤ id ∧ o.hi = true := by
   intro H
   induction H with
   | nil => intro _ id o h; cases h
   | cons p r ih =>
     obtain ⟨i, q⟩ := p
     intro h id o ho
     simp only [hiH, Bool.and_eq_true, decide_eq_true_eq] at h
     simp only [look] at ho
     split at ho
     · rename_i e; subst e; cases ho; exact h.1
     · exact ih h.2 id o ho
 have hown : ∀ {H : Hp} {ks : List Nat}, ownH H ks = true → ∀ id o, look H id = some o → id < 1000 ∨ id ∈ ks := by
   intro H ks
   induction H with
   | nil => intro _ id o h; cases h
   | cons p r ih =>
     obtain ⟨i, q⟩ := p
     intro h id o ho
     simp only [ownH, Bool.and_eq_true, Bool.or_eq_true, decide_eq_true_eq] at h
     simp only [look] at ho
     split at ho
     · rename_i e; subst e
       rcases h.1 with g | g
       · exact .inl g
       · exact .inr (List.contains_iff_mem.1 g)
     · exact ih h.2 id o ho
 refine ⟨(s.hp.map (·.1)).filter (· < 1000), hall, fun id => ?_⟩
 cases hl : look H' id with
 | some o =>
   obtain ⟨g1, g2⟩ := hhi h3 id o hl
   exact a7I _ hall g1 g2 (c2w h1 _ (d6a hl))
 | none =>
   refine a9F _ ?_
   cases hs : look s.hp id with
   | none => exact .inr rfl
   | some o =>
     left
     rcases hown h2 id o hs with g | g
     · exact List.mem_filter.2 ⟨a9I hs, by simpa using g⟩
     · rw [a3H] at g
       obtain ⟨q, hq⟩ := d5a g
       rw [hl] at hq; cases hq
def EndM (H' : Hp) (s : St) : Prop := hpLe s.hp H' ∧ ownH s.hp (a0H H') = true ∧ hiH H' = true
def EndM1 (t : Nat) (x : IV) (H' : Hp) (s : St) : Prop := s.get t = .iv x ∧ EndM H' s
attribute [simp] EndM EndM1
theorem a1J {P : Program} {f : FuncId} {args : List AV} {H H' : Hp} {n : Nat} {c : VCode} (hf : fnV P f = some (n, c, []))
   (hargs : args.length ≤ n) (hn : n ≤ 999) (hbig : (H.map (·.1)).all (1000 ≤ ·) = true) (hlent : ((H ++ H').all fun p => !p.2.isLent) = true)
   (h : wpV P c ⟨c8l 0 args, H⟩ ⟨EndM H', fun _ _ => False, EndM H', fun _ _ => False⟩) : b4z P false f args H (.tup []) H' :=
 d8a hf hargs hbig hlent (a4H (c8u hn _ _ _ h) fun s h => by
   obtain ⟨D, g1, g2⟩ := a0J h.1 h.2.1 h.2.2
   exact ⟨s.drops D, [], c8v D g1 s, rfl, rfl, g2, fun h => by cases h⟩)
theorem a2J {P : Program} {f : FuncId} {args : List AV} {H H' : Hp} {n t : Nat} {x : IV} {c : VCode} (hf : fnV P f = some (n, c, [.tmp t]))
   (hargs : args.length ≤ n) (hn : n ≤ 999) (hbig : (H.map (·.1)).all (1000 ≤ ·) = true) (hlent : ((H ++ H').all fun p => !p.2.isLent) = true)
   (h : wpV P c ⟨c8l 0 args, H⟩ ⟨EndM1 t x H', fun _ _ => False, EndM1 t x H', fun _ _ => False⟩) : b4z P false f args H (.iv x) H' :=
 d8a hf hargs hbig hlent (a4H (c8u hn _ _ _ h) fun s h => by
   obtain ⟨D, g1, g2⟩ := a0J h.2.1 h.2.2.1 h.2.2.2
   exact ⟨s.drops D, [.iv x], c8v D g1 s, by simp [resV, a7F _ h.1], rfl, g2, fun h => by cases h⟩)
def a3J : Hp → Hp → Prop
 | [], _ => True
 | (id, o) :: r, H' => (∃ o', look H' id = some o' ∧ o.le o') ∧ a3J r H'
@[simp] theorem a4J {H' : Hp} : a3J [] H' ↔ True := ⟨fun h => h, fun h => h⟩
@[simp] theorem a5J {id : Nat} {o : Ob} {r H' : Hp} : a3J ((id, o) :: r) H' ↔ (∃ o', look H' id = some o' ∧ o.le o') ∧ a3J r H' := ⟨fun h => h, fun h => h⟩
@[simp] theorem le_box {cs : List AV} {o : Ob} : (Ob.box cs).le o := Ob.le_none rfl
@[simp] theorem le_gh {Z : GZ} {vs : List Value} {cs : List AV} {o : Ob} : (Ob.gh Z vs cs).le o := Ob.le_none rfl
@[simp] theorem le_map {sk g} {o : Ob} : (Ob.map sk g).le o := Ob.le_none rfl
@[simp] theorem le_mapo' {sk sz g h} {o : Ob} : (Ob.mapo sk sz g h).le o := Ob.le_none rfl
theorem a6J : ∀ {H H' : Hp}, a3J H H' → ∀ id o, look H id = some o → ∃ o', look H' id = some o' ∧ o.le o'
 | [], _, _, id, o, h => by cases h
 | (i, q) :: r, H', h, id, o, ho => by
   simp only [look] at ho
   split at ho
   · rename_i e; subst e; cases ho; exact h.1
   · exact a6J h.2 id o ho
theorem a7J : ∀ {H : Hp} {ks : List Nat}, a6G H ks = true → ∀ id o, look H id = some o → id ∈ ks
 | [], _, _, id, o, h => by cases h
 | (i, q) :: r, ks, h, id, o, ho => by
   simp only [a6G, Bool.and_eq_true] at h
   simp only [look] at ho
   split at ho
   · rename_i e; subst e; exact List.contains_iff_mem.1 h.1
   · exact a7J h.2 id o ho
def a8J : Hp → List Nat → Bool
 | [], _ => true
 | (_, o) :: r, ks => o.inns ks && a8J r ks
@[simp] theorem a9J {ks : List Nat} : a8J [] ks = true := rfl
@[simp] theorem a0K {i : Nat} {o : Ob} {r : Hp} {ks : List Nat} : a8J ((i, o) :: r) ks = (o.inns ks && a8J r ks) := rfl
@[simp] theorem inns_box {ks : List Nat} {cs : List AV} : Ob.inns ks (.box cs) = cs.all (AV.inn ks) := rfl
@[simp] theorem a1K {ks : List Nat} {sz : Nat} {xs : List (List IV)} : Ob.inns ks (.list sz xs) = true := rfl
@[simp] theorem inns_map {ks : List Nat} {sk g} : Ob.inns ks (.map sk g) = true := rfl
@[simp] theorem a2K {ks : List Nat} {sk sz g h} : Ob.inns ks (.mapo sk sz g h) = true := rfl
theorem a3K : ∀ {H : Hp} {ks : List Nat}, a8J H ks = true → ∀ id o, look H id = some o → o.inns ks = true
 | [], _, _, id, o, h => by cases h
 | (i, q) :: r, ks, h, id, o, ho => by
   simp only [a8J, Bool.and_eq_true] at h
   simp only [look] at ho
   split at ho
   · cases ho; exact h.1
   · exact a3K h.2 id o ho
theorem a4K {P : Program} {d : Nat} {f : FuncId} {pre post : List CapV} {ops : List Operand} {y : Option Operand} {s s1 : St} {K : St → AV → Prop} {args : List AV} {res : AV} {H H' : Hp}
   (h : b4z P false f args H res H') (hs1 : (s.frz ((s.args pre ops post).filter fun x => !x.inns (a0H H))).drop d = s1)
   (hy : ∀ z, y = some z → s1.ev z = .fn f pre post) (ha : (s1.args pre ops post).map (s1.arg false (a0H H)) = args) (hr : args.all (AV.inns (a0H H)) = true)
   (hs : hpLe s1.hp H) (ho : a8J H (a0H H) = true) (hkp : a3J H H') (hn : a6G H' (a0H H) = true) (hk : K (s1.join H') res) : a7S P d f pre ops post y s K := by
 rw [a3H] at *
 refine b8U ⟨s, Le.refl s, false, H, res, H', s1, hs1.symm, ?_, { spec := ?_, refs := ?_, sub := fun id o h => c2w hs _ (d6a h), own := a3K ho, keep := a6J hkp, new := fun id o h1 h2 => ?_ }, hk⟩
 · cases y with
   | none => trivial
   | some z => exact hy z rfl
 · rw [ha]; exact h
 · rw [ha]; exact hr
 · have := a7J hn id o h1
   obtain ⟨o', h'⟩ := d5a this
   rw [h2] at h'; cases h'
theorem a5K {P : Program} {d : Nat} {f : FuncId} {pre post : List CapV} {ops : List Operand} {z : Operand} {s : St} {K : St → AV → Prop} {args : List AV} {res : AV} (h : b4z P true f args [] res [])
   (hy : (s.drop d).ev z = .fn f pre post) (ha : (((s.drop d).args pre ops post).map ((s.drop d).arg true [])) = args) (hr : args.all (AV.inns []) = true) (hk : K (s.drop d) res) : a7S P d f pre ops post (some z) s K := by
 refine b8U ⟨s, Le.refl s, true, [], res, [], s.drop d, rfl, hy, { spec := ?_, refs := ?_, sub := fun _ _ h => ?_, own := fun _ _ h => ?_, keep := fun _ _ h => ?_, new := fun _ _ h => ?_ }, hk⟩
 all_goals first | (rw [List.map_nil, ha]; assumption) | cases h
@[simp] theorem kc_comp {p : Nat → Bool} : AV.kc p ∘ AV.iv = AV.iv := funext fun _ => by simp
@[simp] theorem a6K {id : Nat} {o : Ob} : gone id o ∘ AV.iv = AV.iv := funext fun _ => by simp
end Go.Vm
end

section
namespace Go.Rt
open Go.Vm
abbrev ci (i : Int) : IV := .v (.int .i64 i)
abbrev cb (b : Bool) : IV := .v (.bool b)
abbrev vi (i : Int) : AV := .iv (ci i)
abbrev vb (b : Bool) : AV := .iv (cb b)
noncomputable def ofP (p : Prop) : Bool := @decide p (Classical.propDecidable p)
@[simp] theorem c7Y {p : Prop} : ofP p = true ↔ p := by unfold ofP; exact @decide_eq_true_iff p (Classical.propDecidable p)
@[simp] theorem c8Y {p : Prop} : ofP p = false ↔ ¬p := by unfold ofP; exact @decide_eq_false_iff_not p (Classical.propDecidable p)
theorem c9Y {p : Prop} {b : Bool} : b = ofP p ↔ (b = true ↔ p) := by
 rw [Bool.eq_iff_iff, c7Y]
@[simp] theorem c0Z {p : Prop} : true = ofP p ↔ p := by rw [eq_comm, c7Y]
@[simp] theorem c1Z {p : Prop} : false = ofP p ↔ ¬p := by rw [eq_comm, c8Y]
def Upto (n : Nat) (p : Nat → Prop) : Prop := ∀ j, j < n → p j
@[simp] theorem c2Z {p : Nat → Prop} : Upto 0 p := fun _ h => absurd h (Nat.not_lt_zero _)
theorem Upto.succ {n : Nat} {p : Nat → Prop} (h : Upto n p) (hp : p n) : Upto (n + 1) p := fun j hj => by
 rcases Nat.lt_or_ge j n with h1 | h1
 · exact h j h1
 · have : j = n := by omega
   subst this; exact hp
theorem c3Z {α : Type} {l : List α} {i : Nat} (h : i < l.length) : ∃ x, l[i]? = some x := ⟨_, List.getElem?_eq_getElem h⟩
theorem c4Z {n : Int} (h : -(2 ^ 63) ≤ n ∧ n < 2 ^ 63) : IntKind.i64.wrap n = n := by rw [IntKind.wrap_i64]; omega
@[ext] structure Vl where
 text : Bool
 n : Int
 s : ByteArray
@[simp] def Vl.cells (v : Vl) : List IV := [cb v.text, ci v.n, .v (.string v.s)]
def Vl.zero : Vl := ⟨false, 0, ⟨#[]⟩⟩
abbrev Vl.av (v : Vl) : AV := .agg (v.cells.map .iv)
@[simp] theorem Vl.eta (v : Vl) : Vl.mk v.text v.n v.s = v := rfl
@[simp] theorem Vl.mk_text (t : Bool) (n : Int) (s : ByteArray) : (Vl.mk t n s).text = t := rfl
@[simp] theorem Vl.mk_n (t : Bool) (n : Int) (s : ByteArray) : (Vl.mk t n s).n = n := rfl
@[simp] theorem Vl.mk_s (t : Bool) (n : Int) (s : ByteArray) : (Vl.mk t n s).s = s := rfl
abbrev Tb := List Bool
def c5Z (l : List Bool) : List (List IV) := l.map fun b => [cb b]
def tbIV (t : Tb) : IV := .lst 1 (c5Z t)
def tbAV (t : Tb) : AV := .agg [.iv (tbIV t)]
def c6Z (l : List Int) : List (List IV) := l.map fun i => [ci i]
def c7Z (l : List Int) : IV := .lst 1 (c6Z l)
def c8Z (r : List Vl) : IV := .lst 3 (r.map Vl.cells)
@[simp] theorem c9Z (l : List Bool) : (c5Z l).length = l.length := by simp [c5Z]
@[simp] theorem d0a (l : List Bool) (i : Nat) : (c5Z l)[i]? = (l[i]?).map fun b => [cb b] := by simp [c5Z]
@[simp] theorem d1a (l : List Int) : (c6Z l).length = l.length := by simp [c6Z]
@[simp] theorem d2a (l : List Int) (i : Nat) : (c6Z l)[i]? = (l[i]?).map fun b => [ci b] := by simp [c6Z]
inductive Pd where
 | mk (op col : Int) (v w : Vl) (l : List Pd)
def Pd.op : Pd → Int
 | .mk o _ _ _ _ => o
def Pd.col : Pd → Int
 | .mk _ c _ _ _ => c
def Pd.v : Pd → Vl
 | .mk _ _ v _ _ => v
def Pd.w : Pd → Vl
 | .mk _ _ _ w _ => w
def Pd.l : Pd → List Pd
 | .mk _ _ _ _ l => l
mutual
def Pd.cells : Pd → List IV
 | .mk o c v w l => [ci o, ci c, cb v.text, ci v.n, .v (.string v.s), cb w.text, ci w.n, .v (.string w.s), .lst 9 (Pd.cellsL l)]
def Pd.cellsL : List Pd → List (List IV)
 | [] => []
 | p :: r => p.cells :: Pd.cellsL r
end
theorem Pd.cellsL_map : ∀ l : List Pd, Pd.cellsL l = l.map Pd.cells
 | [] => by simp [Pd.cellsL]
 | p :: r => by simp [Pd.cellsL, Pd.cellsL_map r]
theorem Pd.cells_eq (p : Pd) : p.cells = [ci p.op, ci p.col, cb p.v.text, ci p.v.n, .v (.string p.v.s), cb p.w.text, ci p.w.n, .v (.string p.w.s), .lst 9 (p.l.map Pd.cells)] := by
 cases p with | mk o c v w l => rw [Pd.cells, Pd.cellsL_map]; rfl
def Pd.av (p : Pd) : AV := .agg (p.cells.map .iv)
theorem Pd.av_eq (p : Pd) : p.av = .agg [.iv (ci p.op), .iv (ci p.col), .iv (cb p.v.text), .iv (ci p.v.n), .iv (.v (.string p.v.s)), .iv (cb p.w.text), .iv (ci p.w.n), .iv (.v (.string p.w.s)), .iv (.lst 9 (p.l.map Pd.cells))] := by
 unfold Pd.av; rw [Pd.cells_eq]; rfl
inductive Pd.Ok : Pd → Prop where
 | mk (p : Pd) (h : p.l.length < 2 ^ 63) (hv : p.v.s.size < 2 ^ 63) (hw : p.w.s.size < 2 ^ 63) (hl : ∀ q, q ∈ p.l → q.Ok) : p.Ok
mutual
def Pd.size : Pd → Int
 | .mk _ _ _ _ l => 1 + Pd.sizes l
def Pd.sizes : List Pd → Int
 | [] => 0
 | p :: r => p.size + Pd.sizes r
end
theorem Pd.size_eq (p : Pd) : p.size = 1 + Pd.sizes p.l := by cases p; rw [Pd.size]; rfl
@[simp] theorem Pd.sizes_nil : Pd.sizes [] = 0 := by rw [Pd.sizes]
theorem Pd.sizes_take {l : List Pd} {i : Nat} {p : Pd} (h : l[i]? = some p) : Pd.sizes (l.take (i + 1)) = Pd.sizes (l.take i) + p.size := by
 induction l generalizing i with
 | nil => cases h
 | cons q r ih =>
   cases i with
   | zero => simp only [List.getElem?_cons_zero, Option.some.injEq] at h; subst h; simp [Pd.sizes]
   | succ i =>
     simp only [List.getElem?_cons_succ] at h
     simp only [List.take_succ_cons, Pd.sizes, ih h]
     omega
theorem d3a (a b : Int) : IntKind.i64.wrap (IntKind.i64.wrap a + IntKind.i64.wrap b) = IntKind.i64.wrap (a + b) := by
 simp only [IntKind.wrap_i64]; omega
theorem d4a (a b : Int) : IntKind.i64.wrap (IntKind.i64.wrap a + b) = IntKind.i64.wrap (a + b) := by
 simp only [IntKind.wrap_i64]; omega
end Go.Rt
end

section
namespace Go.Rt
open Go.Vm
def Vl.right (v : Vl) : Bool := if v.text then decide (v.n = 0) && decide (v.s.size ≤ 12) else decide (v.s = ⟨#[]⟩)
theorem d2c (v : Vl) : b4z prog true n_a4h [v.av] [] (vb v.right) [] := by
 refine a5H a4h_is (by simp) (by decide) rfl ?_
 simp -dsimp [a4h, Vl.right]
 grind
def TbOk (t : Tb) : Prop := 1 ≤ t.length ∧ t.length ≤ 4
noncomputable def d3c (t : Tb) : Int := if ofP (TbOk t) = true then 0 else 1
@[simp] theorem d4c (t : Tb) : (d3c t != 0) = !ofP (TbOk t) := by
 unfold d3c; cases ofP (TbOk t) <;> rfl
@[simp] theorem d5c (t : Tb) : (d3c t == 0) = ofP (TbOk t) := by
 unfold d3c; cases ofP (TbOk t) <;> rfl
theorem d6c {t : Tb} (h : TbOk t) : d3c t = 0 := by unfold d3c; rw [if_pos (c7Y.2 h)]
theorem d7c {t : Tb} (h : ¬TbOk t) : d3c t = 1 := by unfold d3c; rw [if_neg (by simpa using h)]
theorem d8c (t : Tb) : b4z prog true n_a2e [tbAV t] [] (vi (d3c t)) [] := by
 refine a5H a2e_is (by simp) (by decide) rfl ?_
 by_cases h : TbOk t
 · have h' := h
   unfold TbOk at h'
   simp -dsimp [a2e, tbAV, tbIV, d6c h]
   omega
 · have h' := h
   unfold TbOk at h'
   simp -dsimp [a2e, tbAV, tbIV, d7c h]
   omega
def d9c (t : Tb) (r : List Vl) (i : Nat) : Prop := ∀ (v : Vl) (c : Bool), r[i]? = some v → t[i]? = some c → v.text = c ∧ v.right = true
def Fits (t : Tb) (r : List Vl) : Prop := TbOk t ∧ r.length = t.length ∧ Upto r.length (d9c t r)
theorem d0d {t : Tb} {r : List Vl} {i : Nat} {v : Vl} {c : Bool} (hv : r[i]? = some v) (hc : t[i]? = some c) (h : ¬(v.text = c ∧ v.right = true)) : ¬Fits t r :=
 fun hf => h (hf.2.2 i (List.getElem?_eq_some_iff.1 hv).1 v c hv hc)
theorem d1d {t : Tb} {r : List Vl} {i : Nat} {v : Vl} {c : Bool} (hv : r[i]? = some v) (hc : t[i]? = some c) (h : v.text = c ∧ v.right = true) : d9c t r i := by
 intro v' c' h1 h2; rw [hv] at h1; rw [hc] at h2; cases h1; cases h2; exact h
theorem d2d (t : Tb) (r : List Vl) : b4z prog true n_a3g [tbAV t, .iv (c8Z r)] [] (vb (ofP (Fits t r))) [] := by
 refine a5H a3g_is (by simp) (by decide) rfl ?_
 simp -dsimp [a3g, tbAV]
 refine a1G (d8c t) (by simp [tbAV]) rfl ?_
 simp -dsimp [tbIV, c8Z, -List.length_eq_zero_iff]
 refine ⟨fun h1 => ⟨fun h3 h => by have := h.2.1; omega, fun h3 => ?_⟩, fun h h' => h h'.1⟩
 refine a8H [] [6] r.length (fun i => ⟨[(20, vi i), (19, vi r.length), (18, .iv (.lst 3 (r.map Vl.cells))), (2, .ptr 2 0)], [(2, .box [.iv (.lst 1 (c5Z t))])]⟩)
   (fun i => Upto i (d9c t r)) ?_ ?_ ?_
 · simp -dsimp
 · simp -dsimp
 · intro i hi hq
   simp -dsimp [a3g_l9]
   refine ⟨fun hlt => ?_, fun hge => ?_⟩
   · obtain ⟨v, hv⟩ := c3Z hlt
     obtain ⟨c, hc⟩ : ∃ c, t[i]? = some c := c3Z (by omega)
     simp -dsimp [hv, hc]
     refine ⟨fun e => a1G (d2c v) (by simp) rfl ?_, fun e => d0d hv hc fun h => e h.1⟩
     simp -dsimp
     have h2 := h1.2
     exact ⟨fun e2 => d0d hv hc (by simp [e2]), fun e2 => ⟨hlt, c4Z (by omega), hq.succ (d1d hv hc ⟨e, e2⟩)⟩⟩
   · exact ⟨h1, by omega, fun j hj => hq j (by omega)⟩
end Go.Rt
end

section
namespace Go.Rt
open Go.Vm
def icmp (a b : Int) : Int := if a < b then -1 else if b < a then 1 else 0
def scmp (a b : ByteArray) : Int := if c6d a b = true then -1 else if a = b then 0 else 1
def Vl.cmp (a b : Vl) : Int := if a.text = true then (if b.text = true then scmp a.s b.s else 1) else if b.text = true then -1 else icmp a.n b.n
theorem b9m (a : ByteArray) : b4z prog true n_a8g [.iv (.v (.string a))] [] (vb false) [] := by
 refine a5H a8g_is (by simp) (by decide) rfl ?_
 simp -dsimp [a9g_string]
theorem b0n (a : Int) : b4z prog true n_a0h [vi a] [] (vb false) [] := by
 refine a5H a0h_is (by simp) (by decide) rfl ?_
 simp -dsimp [a9g_int64]
theorem b1n (a : ByteArray) : c6d a a = false := by
 unfold c6d
 generalize a.toList = x
 induction x with
 | nil => rfl
 | cons c x ih => simp [Op.bytesLess, ih]
theorem cmpS (a b : ByteArray) : b4z prog true n_a0f [.iv (.v (.string a)), .iv (.v (.string b))] [] (vi (scmp a b)) [] := by
 refine a5H a0f_is (by simp) (by decide) rfl ?_
 simp -dsimp [a1f_string]
 refine a1G (b9m a) (by simp) rfl ?_
 simp -dsimp
 refine a1G (b9m b) (by simp) rfl ?_
 simp -dsimp [scmp]
 grind
theorem cmpI (a b : Int) : b4z prog true n_a2f [vi a, vi b] [] (vi (icmp a b)) [] := by
 refine a5H a2f_is (by simp) (by decide) rfl ?_
 simp -dsimp [a1f_int64]
 refine a1G (b0n a) (by simp) rfl ?_
 simp -dsimp
 refine a1G (b0n b) (by simp) rfl ?_
 simp -dsimp [icmp]
 grind
theorem b2n (a b : Vl) : b4z prog true n_a6c [a.av, b.av] [] (vi (a.cmp b)) [] := by
 refine a5H a6c_is (by simp) (by decide) rfl ?_
 cases ha : a.text <;> cases hb : b.text <;> simp -dsimp [a6c, ha, hb, Vl.cmp]
 · exact a1G (cmpI a.n b.n) (by simp) rfl (by simp)
 · exact a1G (cmpS a.s b.s) (by simp) rfl (by simp)
theorem b3n : ∀ (p x y : List UInt8), Op.bytesLess (p ++ x) (p ++ y) = Op.bytesLess x y
 | [], x, y => rfl
 | c :: p, x, y => by simp [Op.bytesLess, b3n p x y]
theorem b4n (a : ByteArray) : a.toList = a.data.toList := by simp [ByteArray.toList_eq]
def b5n (a b : ByteArray) (i : Nat) : Prop := i ≤ a.size ∧ i ≤ b.size ∧ ∀ j, j < i → a[j]? = b[j]?
theorem b6n (a : ByteArray) (i : Nat) : a[i]? = a.data.toList[i]? := by
 simp only [Array.getElem?_toList]
 rfl
theorem b5n.split {a b : ByteArray} {i : Nat} (h : b5n a b i) : ∃ p, a.toList = p ++ a.data.toList.drop i ∧ b.toList = p ++ b.data.toList.drop i := by
 refine ⟨a.data.toList.take i, by rw [b4n, List.take_append_drop], ?_⟩
 have : a.data.toList.take i = b.data.toList.take i := by
   apply List.ext_getElem?
   intro j
   simp only [List.getElem?_take]
   split
   · rename_i hj; rw [← b6n, ← b6n]; exact h.2.2 j hj
   · rfl
 rw [this, b4n, List.take_append_drop]
theorem b7n {l : List UInt8} {i : Nat} {c : UInt8} (h : l[i]? = some c) : l.drop i = c :: l.drop (i + 1) := by
 have hi := (List.getElem?_eq_some_iff.1 h).1
 rw [List.drop_eq_getElem_cons hi, (List.getElem?_eq_some_iff.1 h).2]
theorem b5n.lt {a b : ByteArray} {i : Nat} (h : b5n a b i) {c d : UInt8} (h1 : a[i]? = some c) (h2 : b[i]? = some d) (hcd : c < d) : scmp a b = -1 := by
 obtain ⟨p, e1, e2⟩ := h.split
 rw [b6n] at h1 h2
 have : c6d a b = true := by
   unfold c6d
   rw [e1, e2, b3n, b7n h1, b7n h2]
   simp -dsimp [Op.bytesLess, hcd]
 simp -dsimp [scmp, this]
theorem b5n.gt {a b : ByteArray} {i : Nat} (h : b5n a b i) {c d : UInt8} (h1 : a[i]? = some c) (h2 : b[i]? = some d) (hcd : d < c) : scmp a b = 1 := by
 obtain ⟨p, e1, e2⟩ := h.split
 have hne : a ≠ b := by
   rintro rfl
   rw [h1] at h2
   cases h2
   exact absurd hcd (by simp)
 rw [b6n] at h1 h2
 have : c6d a b = false := by
   unfold c6d
   rw [e1, e2, b3n, b7n h1, b7n h2]
   have : ¬ c < d := by
     have := UInt8.lt_iff_toNat_lt.1 hcd
     rw [UInt8.lt_iff_toNat_lt]; omega
   have h3 : ¬ c = d := by rintro rfl; exact absurd hcd (by simp)
   simp -dsimp [Op.bytesLess, this, h3]
 simp -dsimp [scmp, this, hne]
theorem b8n (a : ByteArray) : a.size = a.data.toList.length := by rw [Array.length_toList]; rfl
theorem b5n.endA {a b : ByteArray} (h : b5n a b a.size) (hl : a.size < b.size) : scmp a b = -1 := by
 obtain ⟨p, e1, e2⟩ := h.split
 have : c6d a b = true := by
   unfold c6d
   rw [e1, e2, b3n]
   rw [b8n] at hl ⊢
   simp only [List.drop_length]
   rw [b8n] at hl
   cases hd : b.data.toList.drop a.data.toList.length with
   | nil => have := congrArg List.length hd; simp at this; simp at hl; omega
   | cons x y => rfl
 simp -dsimp [scmp, this]
theorem b5n.endB {a b : ByteArray} (h : b5n a b b.size) (hl : b.size < a.size) : scmp a b = 1 := by
 obtain ⟨p, e1, e2⟩ := h.split
 have hne : a ≠ b := by rintro rfl; omega
 have : c6d a b = false := by
   unfold c6d
   rw [e1, e2, b3n]
   rw [b8n]
   simp only [List.drop_length]
   cases (a.data.toList.drop b.data.toList.length) <;> rfl
 simp -dsimp [scmp, this, hne]
theorem b5n.endE {a b : ByteArray} (h : b5n a b a.size) (hl : b.size = a.size) : scmp a b = 0 := by
 obtain ⟨p, e1, e2⟩ := h.split
 have : a = b := by
   have e : a.data.toList = b.data.toList := by
     rw [← b4n, ← b4n, e1, e2]
     congr 1
     rw [b8n]
     rw [b8n, b8n] at hl
     rw [List.drop_length, ← hl, List.drop_length]
   cases a; cases b
   simp only at e
   congr 1
   exact Array.toList_inj.1 e
 subst this
 simp -dsimp [scmp, b1n]
theorem b9n (a b : Vl) (hla : a.s.size < 2 ^ 63) : b4z prog true n_a3f [a.av, b.av] [] (vi (a.cmp b)) [] := by
 refine a5H a3f_is (by simp) (by decide) rfl ?_
 cases ha : a.text <;> cases hb : b.text <;> simp -dsimp [a3f, ha, hb, Vl.cmp]
 · simp -dsimp [icmp]; grind
 · refine a8H [] [] (min a.s.size b.s.size) (fun i => ⟨[(5, vi i), (2, .ptr 2 0), (3, .ptr 3 0)], [(3, .box [.iv (cb true), .iv (ci b.n), .iv (.v (.string b.s))]), (2, .box [.iv (cb true), .iv (ci a.n), .iv (.v (.string a.s))])]⟩)
     (fun i => b5n a.s b.s i) ?_ ?_ ?_
   · simp -dsimp
   · exact ⟨Nat.zero_le _, Nat.zero_le _, fun j hj => absurd hj (Nat.not_lt_zero _)⟩
   · intro i hi hq
     simp -dsimp [a3f_l18]
     have hE : ∀ h : a.s.size ≤ i ∨ b.s.size ≤ i, (a.s.size < b.s.size → -1 = scmp a.s b.s) ∧
           (b.s.size ≤ a.s.size → (b.s.size < a.s.size → 1 = scmp a.s b.s) ∧ (a.s.size ≤ b.s.size → 0 = scmp a.s b.s)) := by
       intro h
       have h1 := hq.1
       have h2 := hq.2.1
       refine ⟨fun g => ?_, fun g => ⟨fun g2 => ?_, fun g2 => ?_⟩⟩
       · have e : i = a.s.size := by omega
         subst e; exact hq.endA g |>.symm
       · have e : i = b.s.size := by omega
         subst e; exact hq.endB g2 |>.symm
       · have e : i = a.s.size := by omega
         subst e; exact (hq.endE (by omega)).symm
     refine ⟨fun h1 => ⟨fun h2 => ?_, fun h2 => hE (.inr h2)⟩, fun h => hE (.inl h)⟩
     obtain ⟨c, hc⟩ : ∃ c, a.s[i]? = some c := ⟨_, getElem?_pos a.s i h1⟩
     obtain ⟨d, hd⟩ : ∃ c, b.s[i]? = some c := ⟨_, getElem?_pos b.s i h2⟩
     simp -dsimp [hc, hd]
     refine ⟨fun g => (hq.lt hc hd (UInt8.lt_iff_toNat_lt.2 g)).symm, fun g => ⟨fun g2 => (hq.gt hc hd (UInt8.lt_iff_toNat_lt.2 g2)).symm, fun g2 => ⟨by omega, c4Z (by omega), by omega, by omega, fun j hj => ?_⟩⟩⟩
     by_cases e : j = i
     · subst e; rw [hc, hd]; congr 1; exact UInt8.toNat_inj.1 (by omega)
     · exact hq.2.2 j (by omega)
end Go.Rt
end

section
namespace Go.Rt
open Go.Vm
def Pd.box (p : Pd) : Ob := .box [.iv (ci p.op), .iv (ci p.col), .iv (cb p.v.text), .iv (ci p.v.n), .iv (.v (.string p.v.s)), .iv (cb p.w.text), .iv (ci p.w.n), .iv (.v (.string p.w.s)), .iv (.lst 9 (p.l.map Pd.cells))]
theorem b6x {p : Pd} (h : p.Ok) : b4z prog true n_a8b [p.av] [] (vi (IntKind.i64.wrap p.size)) [] := by
 induction h with
 | mk p hl _ _ hq ih =>
 refine a5H a8b_is (by simp) (by decide) rfl ?_
 simp -dsimp [a8b, Pd.av_eq]
 refine a8H [] [] p.l.length (fun i => ⟨[(4, vi i), (3, vi (IntKind.i64.wrap (1 + Pd.sizes (p.l.take i)))), (1, .ptr 1 0)], [(1, p.box)]⟩)
     (fun _ => True) ?_ trivial ?_
 · simp -dsimp [Pd.box]; rfl
 · intro i hi _
   simp -dsimp [a8b_l6, Pd.box]
   refine ⟨fun hlt => ?_, fun hge => ?_⟩
   · obtain ⟨q, hqi⟩ := c3Z hlt
     simp -dsimp [hqi, Pd.cells_eq q]
     refine a1G (ih q (List.mem_of_getElem? hqi)) (by simp [Pd.av_eq]) (by simp [Pd.av_eq]) ?_
     simp -dsimp
     refine ⟨hlt, c4Z (by omega), ?_⟩
     rw [d3a, Pd.sizes_take hqi, Int.add_assoc]
   · rw [Pd.size_eq, List.take_of_length_le hge]
mutual
def Pd.fold {σ : Type} (F : Pd → σ → σ) : Pd → σ → σ
 | .mk o c v w l, st => Pd.foldL F l (F (.mk o c v w l) st)
def Pd.foldL {σ : Type} (F : Pd → σ → σ) : List Pd → σ → σ
 | [], st => st
 | p :: r, st => Pd.foldL F r (p.fold F st)
end
theorem Pd.fold_eq {σ : Type} (F : Pd → σ → σ) (p : Pd) (st : σ) : p.fold F st = Pd.foldL F p.l (F p st) := by cases p; rw [Pd.fold]; rfl
theorem Pd.foldL_nil {σ : Type} (F : Pd → σ → σ) (st : σ) : Pd.foldL F [] st = st := by rw [Pd.foldL]
theorem Pd.foldL_take {σ : Type} (F : Pd → σ → σ) : ∀ {l : List Pd} {i : Nat} {p : Pd} (st : σ), l[i]? = some p → Pd.foldL F (l.take (i + 1)) st = p.fold F (Pd.foldL F (l.take i) st)
 | [], i, p, st, h => by cases h
 | q :: r, 0, p, st, h => by
   simp only [List.getElem?_cons_zero, Option.some.injEq] at h; subst h
   simp -dsimp [Pd.foldL]
 | q :: r, i + 1, p, st, h => by
   simp only [List.getElem?_cons_succ] at h
   simp only [List.take_succ_cons, Pd.foldL]
   exact Pd.foldL_take F _ h
theorem b7x {σ : Type} (f : FuncId) (b : Bool) (F : Pd → σ → σ) (cs : σ → List IV) (hf : okFn prog f = true)
   (hdo : ∀ (p : Pd) (st : σ), b4z prog false f (bif b then [.ptr 1000 0, p.av] else [p.av, .ptr 1000 0]) [(1000, .box ((cs st).map .iv))] (.tup []) [(1000, .box ((cs (F p st)).map .iv))]) {p : Pd} (h : p.Ok) :
   ∀ st : σ, b4z prog false n_a7h [p.av, .fn f (bif b then [.ptr 1000 0] else []) (bif b then [] else [.ptr 1000 0])] [(1000, .box ((cs st).map .iv))] (.tup []) [(1000, .box ((cs (p.fold F st)).map .iv))] := by
 induction h with
 | mk p hl _ _ hq ih =>
 intro st
 refine a1J a7h_is (by simp) (by decide) (by simp) rfl ?_
 have hgo : ∀ (i : Nat) (q : Pd), p.l[i]? = some q → IntKind.i64.wrap ((i : Int) + 1) = (i : Int) + 1 := fun i q h => c4Z (by have := (List.getElem?_eq_some_iff.1 h).1; omega)
 cases b
 all_goals
   simp -dsimp [b5W, Pd.av_eq, hf]
   refine a4K (hdo p st) rfl (by simp) (by simp [Pd.av_eq]) (by simp [Pd.av_eq]) (by simp) (by simp) (by simp) (by simp) ?_
   simp -dsimp
 · refine a8H [2] [5] p.l.length (fun i => ⟨[(12, vi i), (11, vi p.l.length), (10, .iv (.lst 9 (p.l.map Pd.cells))), (1, .fn f [] [.ptr 1000 0])], [(1000, .box ((cs (Pd.foldL F (p.l.take i) (F p st))).map .iv))]⟩)
     (fun _ => True) ?_ trivial ?_
   · simp -dsimp [Pd.foldL_nil]
   · intro i hi _
     simp -dsimp [a7h_l7]
     refine ⟨fun hlt => ?_, fun hge => ?_⟩
     · obtain ⟨q, hqi⟩ := c3Z hlt
       simp -dsimp [hqi, Pd.cells_eq q]
       refine a4K (ih q (List.mem_of_getElem? hqi) (Pd.foldL F (p.l.take i) (F p st))) rfl (by simp) (by simp [Pd.av_eq]) (by simp [Pd.av_eq]) (by simp) (by simp) (by simp) (by simp) ?_
       simp -dsimp [hlt, hgo i q hqi, Pd.foldL_take F _ hqi]
     · simp -dsimp [Pd.fold_eq, List.take_of_length_le hge]
 · refine a8H [2] [5] p.l.length (fun i => ⟨[(12, vi i), (11, vi p.l.length), (10, .iv (.lst 9 (p.l.map Pd.cells))), (1, .fn f [.ptr 1000 0] [])], [(1000, .box ((cs (Pd.foldL F (p.l.take i) (F p st))).map .iv))]⟩)
     (fun _ => True) ?_ trivial ?_
   · simp -dsimp [Pd.foldL_nil]
   · intro i hi _
     simp -dsimp [a7h_l7]
     refine ⟨fun hlt => ?_, fun hge => ?_⟩
     · obtain ⟨q, hqi⟩ := c3Z hlt
       simp -dsimp [hqi, Pd.cells_eq q]
       refine a4K (ih q (List.mem_of_getElem? hqi) (Pd.foldL F (p.l.take i) (F p st))) rfl (by simp) (by simp [Pd.av_eq]) (by simp [Pd.av_eq]) (by simp) (by simp) (by simp) (by simp) ?_
       simp -dsimp [hlt, hgo i q hqi, Pd.foldL_take F _ hqi]
     · simp -dsimp [Pd.fold_eq, List.take_of_length_le hge]
theorem b8x (p : Pd) (n : Int) : b4z prog false n_a3i [p.av, .ptr 1000 0] [(1000, .box [vi n])] (.tup []) [(1000, .box [vi (IntKind.i64.wrap (n + 1))])] := by
 refine a1J a3i_is (by simp) (by decide) (by simp) rfl ?_
 simp -dsimp [a3i, Pd.av_eq]
def b9x (_ : Pd) (n : Int) : Int := IntKind.i64.wrap (n + 1)
mutual
theorem b0y : ∀ (p : Pd) (n : Int), p.fold b9x (IntKind.i64.wrap n) = IntKind.i64.wrap (n + p.size)
 | .mk o c v w l, n => by
   rw [Pd.fold, b9x, d4a, b1y l, Pd.size, Int.add_assoc]
theorem b1y : ∀ (l : List Pd) (n : Int), Pd.foldL b9x l (IntKind.i64.wrap n) = IntKind.i64.wrap (n + Pd.sizes l)
 | [], n => by rw [Pd.foldL, Pd.sizes, Int.add_zero]
 | p :: r, n => by rw [Pd.foldL, b0y p, b1y r, Pd.sizes, Int.add_assoc]
end
theorem b2y {p : Pd} (h : p.Ok) : b4z prog true n_a8h [p.av] [] (vi (IntKind.i64.wrap p.size)) [] := by
 refine a5H a8h_is (by simp) (by decide) rfl ?_
 have he := b7x n_a3i false b9x (fun n : Int => [ci n]) (by kernel_rfl) (fun p n => b8x p n) h 0
 rw [Pd.av_eq] at he
 have hr : b4z prog false n_a7h [p.av, .fn n_a3i [] [.ptr 3 0]] [(3, .box [vi 0])] (.tup []) [(3, .box [vi (p.fold b9x 0)])] := by
   rw [Pd.av_eq]; exact he.ren (Ren.swaps [(1000, 3)]) rfl
 have hc : p.fold b9x 0 = IntKind.i64.wrap p.size := by
   have := b0y p 0
   rwa [Int.zero_add, show IntKind.i64.wrap 0 = 0 from rfl] at this
 simp -dsimp [a8h, Pd.av_eq]
 refine a4K hr rfl (by simp) (by simp [Pd.av_eq]) (by simp [Pd.av_eq]) (by simp) (by simp) (by simp) (by simp) ?_
 simp -dsimp [hc]
def b3y (t : Tb) (i : Int) (v : Vl) : Prop := 0 ≤ i ∧ i < t.length ∧ t[i.toNat]? = some v.text ∧ v.right = true
theorem b4y {t : Tb} {k : Nat} {v : Vl} {c : Bool} (hc : t[k]? = some c) : b3y t k v ↔ v.text = c ∧ v.right = true := by
 have hk := (List.getElem?_eq_some_iff.1 hc).1
 unfold b3y
 rw [show (k : Int).toNat = k from rfl, hc]
 constructor
 · rintro ⟨_, _, h, h2⟩; cases h; exact ⟨rfl, h2⟩
 · rintro ⟨h, h2⟩; exact ⟨by omega, by omega, by rw [h], h2⟩
theorem b5y (t : Tb) (w : Bool) (i : Int) (v : Vl) : b4z prog true n_a2i [.iv (.pt [tbIV t, cb w]), vi i, v.av] [] (vb (ofP (b3y t i v))) [] := by
 refine a5H a2i_is (by simp) (by decide) rfl ?_
 simp -dsimp [a6h_of, tbIV]
 refine ⟨fun h1 => ⟨fun h2 => ⟨h1, ?_⟩, fun h2 h => by have := h.2.1; omega⟩, fun h1 h => by have := h.1; omega⟩
 obtain ⟨k, rfl⟩ := Int.eq_ofNat_of_zero_le h1
 obtain ⟨c, hc⟩ : ∃ c, t[k]? = some c := c3Z (by omega)
 simp -dsimp [hc]
 refine ⟨fun h3 => a1G (d2c v) (by simp) rfl ?_, fun h3 => ?_⟩
 · simp -dsimp [c9Y, b4y hc, h3]
 · simp -dsimp [b4y hc, h3]
def b6y (t : Tb) (p : Pd) : Prop :=
 if p.op = 1 ∨ p.op = 2 then p.l.length = 0
 else if 3 ≤ p.op ∧ p.op ≤ 8 then p.l.length = 0 ∧ b3y t p.col p.v
 else if p.op = 9 then p.l.length = 0 ∧ b3y t p.col p.v ∧ b3y t p.col p.w
 else if p.op = 10 then p.l.length = 1
 else if p.op = 11 ∨ p.op = 12 then 0 < p.l.length
 else False
theorem b7y (t : Tb) (p : Pd) (w : Bool) : b4z prog false n_a5h [.ptr 1000 0, p.av] [(1000, .box [.iv (tbIV t), vb w])] (.tup []) [(1000, .box [.iv (tbIV t), vb (w || !ofP (b6y t p))])] := by
 refine a1J a5h_is (by simp) (by decide) (by simp) rfl ?_
 have hop : (p.op = 1 ∨ p.op = 2) ∨ (p.op = 3 ∨ p.op = 4 ∨ p.op = 5 ∨ p.op = 6 ∨ p.op = 7 ∨ p.op = 8) ∨ p.op = 9 ∨ p.op = 10 ∨ (p.op = 11 ∨ p.op = 12) ∨ (p.op < 1 ∨ 12 < p.op) := by omega
 have len0 : ((p.l.length : Int) == 0) = ofP (p.l.length = 0) := by rw [c9Y, beq_iff_eq]; omega
 have len1 : ((p.l.length : Int) == 1) = ofP (p.l.length = 1) := by rw [c9Y, beq_iff_eq]; omega
 have lenp : (decide (0 < (p.l.length : Int))) = ofP (0 < p.l.length) := by rw [c9Y, decide_eq_true_eq]; omega
 rcases hop with h | h | h | h | h | h
 · have e : b6y t p ↔ p.l.length = 0 := by unfold b6y; rw [if_pos h]
   rcases h with h | h <;> simp -dsimp [a6h_part, Pd.av_eq, h, len0, e] <;> cases w <;> simp
 · have e : b6y t p ↔ p.l.length = 0 ∧ b3y t p.col p.v := by
     unfold b6y; rw [if_neg (by omega), if_pos (by omega)]
   rcases h with h | h | h | h | h | h
   all_goals
     simp -dsimp [a6h_part, Pd.av_eq, h, len0, e]
     refine ⟨fun h0 => ?_, fun h0 => ?_⟩
     · refine a1G (b5y t w p.col p.v) (by simp) (by simp) ?_
       simp -dsimp [h0]
       cases w <;> simp
     · simp -dsimp [h0]
       try (cases w <;> simp)
 · have e : b6y t p ↔ p.l.length = 0 ∧ b3y t p.col p.v ∧ b3y t p.col p.w := by
     unfold b6y; rw [if_neg (by omega), if_neg (by omega), if_pos (by omega)]
   simp -dsimp [a6h_part, Pd.av_eq, h, len0, e]
   refine ⟨fun h0 => ?_, fun h0 => ?_⟩
   · refine a1G (b5y t w p.col p.v) (by simp) (by simp) ?_
     simp -dsimp
     refine ⟨fun h1 => ?_, fun h1 => ?_⟩
     · refine a1G (b5y t w p.col p.w) (by simp) (by simp) ?_
       simp -dsimp [h0, h1]
       cases w <;> simp
     · simp -dsimp [h0, h1]
       try (cases w <;> simp)
   · simp -dsimp [h0]
     try (cases w <;> simp)
 · have e : b6y t p ↔ p.l.length = 1 := by
     unfold b6y; rw [if_neg (by omega), if_neg (by omega), if_neg (by omega), if_pos h]
   simp -dsimp [a6h_part, Pd.av_eq, h, len1, e]
   cases w <;> simp
 · have e : b6y t p ↔ 0 < p.l.length := by
     unfold b6y; rw [if_neg (by omega), if_neg (by omega), if_neg (by omega), if_neg (by omega), if_pos h]
   rcases h with h | h <;> simp -dsimp [a6h_part, Pd.av_eq, h, lenp, e] <;> cases w <;> simp [c9Y]
 · have e : ¬b6y t p := by
     unfold b6y; rw [if_neg (by omega), if_neg (by omega), if_neg (by omega), if_neg (by omega), if_neg (by omega)]; exact id
   have ne : ∀ k : Int, 1 ≤ k → k ≤ 12 → (p.op == k) = false := fun k h1 h2 => by rw [beq_eq_false_iff_ne]; omega
   simp -dsimp [a6h_part, Pd.av_eq, e, ne]
mutual
def Pd.AllOk (t : Tb) : Pd → Prop
 | .mk o c v w l => b6y t (.mk o c v w l) ∧ Pd.AllOkL t l
def Pd.AllOkL (t : Tb) : List Pd → Prop
 | [] => True
 | p :: r => p.AllOk t ∧ Pd.AllOkL t r
end
noncomputable def b8y (t : Tb) (p : Pd) (w : Bool) : Bool := w || !ofP (b6y t p)
mutual
theorem b9y (t : Tb) : ∀ (p : Pd) (w : Bool), p.fold (b8y t) w = (w || !ofP (p.AllOk t))
 | .mk o c v w l, b => by
   rw [Pd.fold, b8y, b0z t l, Pd.AllOk, Bool.eq_iff_iff]
   simp only [Bool.or_eq_true, Bool.not_eq_true', c8Y]
   grind
theorem b0z (t : Tb) : ∀ (l : List Pd) (w : Bool), Pd.foldL (b8y t) l w = (w || !ofP (Pd.AllOkL t l))
 | [], b => by rw [Pd.foldL, Pd.AllOkL]; cases b <;> simp
 | p :: r, b => by
   rw [Pd.foldL, b9y t p, b0z t r, Pd.AllOkL, Bool.eq_iff_iff]
   simp only [Bool.or_eq_true, Bool.not_eq_true', c8Y]
   grind
end
def PdOk (t : Tb) (p : Pd) : Prop := TbOk t ∧ IntKind.i64.wrap p.size ≤ 15 ∧ p.AllOk t
noncomputable def b1z (t : Tb) (p : Pd) : Int := if ofP (TbOk t) = true then (if ofP (PdOk t p) = true then 0 else 30) else 1
@[simp] theorem b2z (t : Tb) (p : Pd) : (b1z t p != 0) = !ofP (PdOk t p) := by
 unfold b1z
 by_cases h : TbOk t
 · rw [if_pos (c7Y.2 h)]; cases ofP (PdOk t p) <;> rfl
 · rw [if_neg (by simpa using h)]
   have : ofP (PdOk t p) = false := c8Y.2 fun g => h g.1
   rw [this]; rfl
theorem b3z (t : Tb) {p : Pd} (h : p.Ok) : b4z prog true n_a2g [tbAV t, p.av] [] (vi (b1z t p)) [] := by
 refine a5H a2g_is (by simp) (by decide) rfl ?_
 have he := b7x n_a5h true (b8y t) (fun w : Bool => [tbIV t, cb w]) (by kernel_rfl) (fun p w => b7y t p w) h false
 rw [Pd.av_eq] at he
 have hr : b4z prog false n_a7h [p.av, .fn n_a5h [.ptr 15 0] []] [(15, .box [.iv (tbIV t), vb false])] (.tup []) [(15, .box [.iv (tbIV t), vb (p.fold (b8y t) false)])] := by
   rw [Pd.av_eq]; exact he.ren (Ren.swaps [(1000, 15)]) rfl
 rw [b9y, Bool.false_or] at hr
 simp -dsimp [a2g, Pd.av_eq, tbAV]
 refine a1G (d8c t) (by simp [tbAV]) (by simp [tbAV]) ?_
 simp -dsimp
 refine ⟨fun h1 => ?_, fun h1 => ?_⟩
 · simp [b1z, d3c, h1]
 · refine a4K hr rfl (by simp) (by simp [Pd.av_eq]) (by simp [Pd.av_eq]) (by simp) (by simp) (by simp) (by simp) ?_
   simp -dsimp
   refine ⟨fun h2 => ?_, fun h2 => ?_⟩
   · refine a1G (b2y h) (by simp [Pd.av_eq]) (by simp [Pd.av_eq]) ?_
     simp -dsimp
     rw [b1z, if_pos (c7Y.2 h1)]
     refine ⟨fun h3 => ?_, fun h3 => ?_⟩
     · rw [if_neg (by simp only [c7Y]; intro g; have := g.2.1; omega)]
     · rw [if_pos (by simp only [c7Y]; exact ⟨h1, h3, h2⟩)]
   · rw [b1z, if_pos (c7Y.2 h1), if_neg (by simp only [c7Y]; intro g; exact h2 g.2.2)]
end Go.Rt
end

section
namespace Go.Rt
open Go.Vm
instance : DecidableEq Vl := fun a b =>
 if h : a.text = b.text ∧ a.n = b.n ∧ a.s = b.s then .isTrue (by cases a; cases b; simp_all) else .isFalse (by rintro rfl; exact h ⟨rfl, rfl, rfl⟩)
theorem Vl.eq_iff {a b : Vl} : a = b ↔ a.text = b.text ∧ a.n = b.n ∧ a.s = b.s := by
 constructor
 · rintro rfl; exact ⟨rfl, rfl, rfl⟩
 · intro h; cases a; cases b; simp_all
structure Vs where
 txn : Int
 n : Int
 deriving DecidableEq
@[simp] def Vs.cells (v : Vs) : List IV := [ci v.txn, ci v.n]
abbrev Vs.av (v : Vs) : AV := .agg (v.cells.map .iv)
theorem Vs.eq_iff {a b : Vs} : a = b ↔ a.txn = b.txn ∧ a.n = b.n := by
 constructor
 · rintro rfl; exact ⟨rfl, rfl⟩
 · intro h; cases a; cases b; simp_all
structure Rf where
 key : Vl
 frm : Vs
def Rf.cells (r : Rf) : List IV := [cb r.key.text, ci r.key.n, .v (.string r.key.s), ci r.frm.txn, ci r.frm.n]
theorem Rf.cells_eq (r : Rf) : r.cells = [cb r.key.text, ci r.key.n, .v (.string r.key.s), ci r.frm.txn, ci r.frm.n] := rfl
structure Ev where
 txn : Int
 kind : Int
 level : Int
 table : Int
 key : Vl
 frm : Vs
 n : Int
 row : List Vl
 pred : Pd
 refs : List Rf
 cur : Bool
def rowC (r : List Vl) : List (List IV) := r.map Vl.cells
def c8R (r : List Rf) : List (List IV) := r.map Rf.cells
@[simp] theorem rowC_len (r : List Vl) : (rowC r).length = r.length := by simp [rowC]
@[simp] theorem rowC_get (r : List Vl) (i : Nat) : (rowC r)[i]? = (r[i]?).map Vl.cells := by simp [rowC]
@[simp] theorem c9R (r : List Rf) : (c8R r).length = r.length := by simp [c8R]
@[simp] theorem c0S (r : List Rf) (i : Nat) : (c8R r)[i]? = (r[i]?).map Rf.cells := by simp [c8R]
def Ev.cells (e : Ev) : List IV := ci e.txn :: ci e.kind :: ci e.level :: ci e.table :: cb e.key.text :: ci e.key.n :: .v (.string e.key.s) :: ci e.frm.txn :: ci e.frm.n :: ci e.n :: .lst 3 (rowC e.row) :: (e.pred.cells ++ [.lst 5 (c8R e.refs), cb e.cur])
theorem Ev.cells_eq (e : Ev) : e.cells = [ci e.txn, ci e.kind, ci e.level, ci e.table, cb e.key.text, ci e.key.n, .v (.string e.key.s), ci e.frm.txn, ci e.frm.n, ci e.n, .lst 3 (rowC e.row),
   ci e.pred.op, ci e.pred.col, cb e.pred.v.text, ci e.pred.v.n, .v (.string e.pred.v.s), cb e.pred.w.text, ci e.pred.w.n, .v (.string e.pred.w.s), .lst 9 (e.pred.l.map Pd.cells), .lst 5 (c8R e.refs), cb e.cur] := by
 unfold Ev.cells; rw [Pd.cells_eq]; rfl
@[simp] theorem Ev.len (e : Ev) : e.cells.length = 22 := by rw [Ev.cells_eq]; rfl
theorem Ev.at (e : Ev) (i : Nat) : e.cells[i]? = ([ci e.txn, ci e.kind, ci e.level, ci e.table, cb e.key.text, ci e.key.n, .v (.string e.key.s), ci e.frm.txn, ci e.frm.n, ci e.n, .lst 3 (rowC e.row),
   ci e.pred.op, ci e.pred.col, cb e.pred.v.text, ci e.pred.v.n, .v (.string e.pred.v.s), cb e.pred.w.text, ci e.pred.w.n, .v (.string e.pred.w.s), .lst 9 (e.pred.l.map Pd.cells), .lst 5 (c8R e.refs), cb e.cur] : List IV)[i]? := by rw [Ev.cells_eq]
theorem c1S {l : List IV} {i : Nat} {x : IV} {h : i < l.length} (e : l[i]? = some x) : l[i] = x := (List.getElem?_eq_some_iff.1 e).2
section
variable (e : Ev)
@[simp] theorem Ev.g0 {h} : e.cells[0]'h = ci e.txn := c1S (by rw [Ev.at]; rfl)
@[simp] theorem Ev.g1 {h} : e.cells[1]'h = ci e.kind := c1S (by rw [Ev.at]; rfl)
@[simp] theorem Ev.g2 {h} : e.cells[2]'h = ci e.level := c1S (by rw [Ev.at]; rfl)
@[simp] theorem Ev.g3 {h} : e.cells[3]'h = ci e.table := c1S (by rw [Ev.at]; rfl)
@[simp] theorem Ev.g4 {h} : e.cells[4]'h = cb e.key.text := c1S (by rw [Ev.at]; rfl)
@[simp] theorem Ev.g5 {h} : e.cells[5]'h = ci e.key.n := c1S (by rw [Ev.at]; rfl)
@[simp] theorem Ev.g6 {h} : e.cells[6]'h = .v (.string e.key.s) := c1S (by rw [Ev.at]; rfl)
@[simp] theorem Ev.g7 {h} : e.cells[7]'h = ci e.frm.txn := c1S (by rw [Ev.at]; rfl)
@[simp] theorem Ev.g8 {h} : e.cells[8]'h = ci e.frm.n := c1S (by rw [Ev.at]; rfl)
@[simp] theorem Ev.g9 {h} : e.cells[9]'h = ci e.n := c1S (by rw [Ev.at]; rfl)
@[simp] theorem Ev.g10 {h} : e.cells[10]'h = .lst 3 (rowC e.row) := c1S (by rw [Ev.at]; rfl)
@[simp] theorem Ev.g20 {h} : e.cells[20]'h = .lst 5 (c8R e.refs) := c1S (by rw [Ev.at]; rfl)
@[simp] theorem Ev.g21 {h} : e.cells[21]'h = cb e.cur := c1S (by rw [Ev.at]; rfl)
@[simp] theorem Ev.q0 : e.cells[0]? = some (ci e.txn) := by rw [Ev.at]; rfl
@[simp] theorem Ev.q1 : e.cells[1]? = some (ci e.kind) := by rw [Ev.at]; rfl
@[simp] theorem Ev.q2 : e.cells[2]? = some (ci e.level) := by rw [Ev.at]; rfl
@[simp] theorem Ev.q3 : e.cells[3]? = some (ci e.table) := by rw [Ev.at]; rfl
@[simp] theorem Ev.q4 : e.cells[4]? = some (cb e.key.text) := by rw [Ev.at]; rfl
@[simp] theorem Ev.q5 : e.cells[5]? = some (ci e.key.n) := by rw [Ev.at]; rfl
@[simp] theorem Ev.q6 : e.cells[6]? = some (.v (.string e.key.s)) := by rw [Ev.at]; rfl
@[simp] theorem Ev.q7 : e.cells[7]? = some (ci e.frm.txn) := by rw [Ev.at]; rfl
@[simp] theorem Ev.q8 : e.cells[8]? = some (ci e.frm.n) := by rw [Ev.at]; rfl
@[simp] theorem Ev.q9 : e.cells[9]? = some (ci e.n) := by rw [Ev.at]; rfl
@[simp] theorem Ev.q10 : e.cells[10]? = some (.lst 3 (rowC e.row)) := by rw [Ev.at]; rfl
@[simp] theorem Ev.q20 : e.cells[20]? = some (.lst 5 (c8R e.refs)) := by rw [Ev.at]; rfl
@[simp] theorem Ev.q21 : e.cells[21]? = some (cb e.cur) := by rw [Ev.at]; rfl
@[simp] theorem Ev.key_at : List.take 3 (List.drop 4 (e.cells.map AV.iv)) = [.iv (cb e.key.text), .iv (ci e.key.n), .iv (.v (.string e.key.s))] := by rw [Ev.cells_eq]; rfl
@[simp] theorem Ev.frm_at : List.take 2 (List.drop 7 (e.cells.map AV.iv)) = [.iv (ci e.frm.txn), .iv (ci e.frm.n)] := by rw [Ev.cells_eq]; rfl
@[simp] theorem Ev.pred_at : List.take 9 (List.drop 11 (e.cells.map AV.iv)) = e.pred.cells.map AV.iv := by rw [Ev.cells_eq, Pd.cells_eq]; rfl
@[simp] theorem Ev.take_all : List.take 22 e.cells = e.cells := List.take_of_length_le (by simp)
@[simp] theorem Ev.take_alla : List.take 22 (e.cells.map AV.iv) = e.cells.map AV.iv := List.take_of_length_le (by simp)
end
def Ev.av (e : Ev) : AV := .agg (e.cells.map .iv)
structure Ins where
 table : Int
 key : Vl
 txns : List Int
def Ins.cells (o : Ins) : List IV := [ci o.table, cb o.key.text, ci o.key.n, .v (.string o.key.s), .lst 1 (c6Z o.txns)]
theorem Ins.cells_eq (o : Ins) : o.cells = [ci o.table, cb o.key.text, ci o.key.n, .v (.string o.key.s), .lst 1 (c6Z o.txns)] := rfl
structure Hs where
 tables : List Tb
 events : List Ev
 order : List Ins
def tbsC (l : List Tb) : List (List IV) := l.map fun t => [tbIV t]
def evsC (l : List Ev) : List (List IV) := l.map Ev.cells
def insC (l : List Ins) : List (List IV) := l.map Ins.cells
@[simp] theorem tbsC_len (l : List Tb) : (tbsC l).length = l.length := by simp [tbsC]
@[simp] theorem tbsC_get (l : List Tb) (i : Nat) : (tbsC l)[i]? = (l[i]?).map fun t => [tbIV t] := by simp [tbsC]
@[simp] theorem evsC_len (l : List Ev) : (evsC l).length = l.length := by simp [evsC]
@[simp] theorem evsC_get (l : List Ev) (i : Nat) : (evsC l)[i]? = (l[i]?).map Ev.cells := by simp [evsC]
@[simp] theorem insC_len (l : List Ins) : (insC l).length = l.length := by simp [insC]
@[simp] theorem insC_get (l : List Ins) (i : Nat) : (insC l)[i]? = (l[i]?).map Ins.cells := by simp [insC]
def Hs.cells (h : Hs) : List IV := [.lst 1 (tbsC h.tables), .lst 22 (evsC h.events), .lst 5 (insC h.order)]
def Hs.av (h : Hs) : AV := .agg [.iv (.lst 1 (tbsC h.tables)), .iv (.lst 22 (evsC h.events)), .iv (.lst 5 (insC h.order))]
structure Ev.Ok (e : Ev) : Prop where
 row : e.row.length < 2 ^ 63
 refs : e.refs.length < 2 ^ 63
 pred : e.pred.Ok
 key : e.key.s.size < 2 ^ 63
 rkey : ∀ r, r ∈ e.refs → r.key.s.size < 2 ^ 63
structure Hs.Ok (h : Hs) : Prop where
 tables : h.tables.length < 2 ^ 63
 events : h.events.length < 2 ^ 63
 order : h.order.length < 2 ^ 63
 ev : ∀ e, e ∈ h.events → e.Ok
 txns : ∀ o, o ∈ h.order → o.txns.length < 2 ^ 63
 tb : ∀ t, t ∈ h.tables → t.length < 2 ^ 63
 cols : ∀ o, o ∈ h.order → o.key.s.size < 2 ^ 63
def Ev.isW (txn table : Int) (k : Vl) (e : Ev) : Bool := decide (e.kind = 3) && decide (e.txn = txn) && decide (e.table = table) && decide (e.key = k)
theorem Ev.isW_iff {e : Ev} {txn table : Int} {k : Vl} : e.isW txn table k = true ↔ e.kind = 3 ∧ e.txn = txn ∧ e.table = table ∧ e.key.text = k.text ∧ e.key.n = k.n ∧ e.key.s = k.s := by
 unfold Ev.isW
 simp only [Bool.and_eq_true, decide_eq_true_eq, Vl.eq_iff, and_assoc]
def c2S (es : List Ev) (txn table : Int) (k : Vl) : Nat := (es.filter (Ev.isW txn table k)).length
theorem c3S {es : List Ev} {i : Nat} {e : Ev} (h : es[i]? = some e) (txn table : Int) (k : Vl) : c2S (es.take (i + 1)) txn table k = c2S (es.take i) txn table k + if e.isW txn table k = true then 1 else 0 := by
 have : es.take (i + 1) = es.take i ++ [e] := by rw [List.take_add_one, h]; rfl
 rw [this]
 unfold c2S
 rw [List.filter_append, List.length_append]
 congr 1
 cases hw : e.isW txn table k <;> simp [hw]
theorem c4S (es : List Ev) (txn table : Int) (k : Vl) : c2S es txn table k ≤ es.length := List.length_filter_le _ _
theorem c5S {p q : Prop} : ofP p = ofP q ↔ (p ↔ q) := by rw [c9Y, c7Y]
theorem c6S {p q : Prop} [Decidable q] : decide q = ofP p ↔ (q ↔ p) := by rw [c9Y, decide_eq_true_eq]
theorem c7S {α : Type} {l : List α} {i : Nat} {x : α} (h : l[i]? = some x) : l.take (i + 1) = l.take i ++ [x] := by
 rw [List.take_add_one, h]; rfl
def c8S (es : List Ev) (txn : Int) : Prop := ∃ x, x ∈ es ∧ x.txn = txn
def c9S (es : List Ev) (txn : Int) : Prop := ∀ x, x ∈ es → x.txn = txn → x.kind ≠ 5 ∧ x.kind ≠ 6
@[simp] theorem c0T {txn : Int} : c8S [] txn ↔ False := by unfold c8S; simp
@[simp] theorem c1T {txn : Int} : c9S [] txn := fun _ h => by cases h
theorem c2T {es : List Ev} {e : Ev} {txn : Int} : c8S (es ++ [e]) txn ↔ c8S es txn ∨ e.txn = txn := by
 unfold c8S
 constructor
 · rintro ⟨x, h, h2⟩
   rcases List.mem_append.1 h with h | h
   · exact .inl ⟨x, h, h2⟩
   · simp only [List.mem_singleton] at h; subst h; exact .inr h2
 · rintro (⟨x, h, h2⟩ | h)
   · exact ⟨x, List.mem_append_left _ h, h2⟩
   · exact ⟨e, by simp, h⟩
theorem c3T {es : List Ev} {e : Ev} {txn : Int} : c9S (es ++ [e]) txn ↔ c9S es txn ∧ (e.txn = txn → e.kind ≠ 5 ∧ e.kind ≠ 6) := by
 unfold c9S
 constructor
 · intro h; exact ⟨fun x hx => h x (List.mem_append_left _ hx), h e (by simp)⟩
 · rintro ⟨h, h2⟩ x hx
   rcases List.mem_append.1 hx with hx | hx
   · exact h x hx
   · simp only [List.mem_singleton] at hx; subst hx; exact h2
theorem c9S.take {es : List Ev} {i a : Nat} {txn : Int} (h : c9S (es.take a) txn) (hi : i ≤ a) : c9S (es.take i) txn := fun x hx => h x ((List.take_subset_take_left es hi) hx)
def c4T (es : List Ev) (e : Ev) : Prop := 1 ≤ e.txn ∧ 1 ≤ e.kind ∧ e.kind ≤ 6 ∧ c9S es e.txn ∧ (e.kind = 1 → ¬c8S es e.txn ∧ 1 ≤ e.level ∧ e.level ≤ 5) ∧ (e.kind ≠ 1 → c8S es e.txn)
end Go.Rt
end

section
namespace Go.Rt
open Go.Vm
theorem b3k {h : Hs} (hok : h.Ok) (a : Nat) (txn table : Int) (k : Vl) : b4z prog true n_a4b [h.av, vi a, vi txn, vi table, k.av] [] (vi (c2S (h.events.take a) txn table k)) [] := by
 refine a5H a4b_is (by simp) (by decide) rfl ?_
 simp -dsimp [a4b, Hs.av]
 refine a8H [] [13] (min a h.events.length) (fun i => ⟨[(12, vi i), (11, vi (c2S (h.events.take i) txn table k)), (1, vi a), (2, vi txn), (3, vi table), (5, .ptr 5 0), (9, .ptr 9 0)],
     [(9, .box [.iv (cb k.text), .iv (ci k.n), .iv (.v (.string k.s))]), (5, .box [.iv (.lst 1 (tbsC h.tables)), .iv (.lst 22 (evsC h.events)), .iv (.lst 5 (insC h.order))])]⟩)
   (fun _ => True) ?_ trivial ?_
 · simp -dsimp [c2S]
 · intro i hi _
   have hev := hok.events
   simp -dsimp [a4b_l8]
   refine ⟨fun h1 => ⟨fun h2 => ?_, fun h2 => ?_⟩, fun h1 => ?_⟩
   · obtain ⟨e, he⟩ := c3Z h2
     have hw := c4Z (n := (i : Int) + 1) (by omega)
     have hw2 := c4Z (n := (c2S (h.events.take i) txn table k : Int) + 1) (by have := c4S (h.events.take i) txn table k; rw [List.length_take] at this; omega)
     have hn := c3S he txn table k
     have hi' : i < min a h.events.length := by omega
     simp only [Ev.isW_iff] at hn
     simp -dsimp [he]
     rw [hw, hw2, hn]
     grind
   · rw [show h.events.take a = h.events.take i from by rw [List.take_of_length_le (by omega), List.take_of_length_le h2]]
   · rw [show i = a from by omega]
def Ev.ends (txn : Int) (e : Ev) : Prop := e.txn = txn ∧ (e.kind = 5 ∨ e.kind = 6)
instance (txn : Int) (e : Ev) : Decidable (e.ends txn) := by unfold Ev.ends; exact inferInstance
def b4k : List Ev → Int → Int
 | [], _ => 0
 | e :: r, txn => if e.ends txn then e.kind else b4k r txn
theorem b5k : ∀ {es : List Ev} {txn : Int}, (∀ e, e ∈ es → ¬e.ends txn) → b4k es txn = 0
 | [], _, _ => rfl
 | e :: r, txn, h => by rw [b4k, if_neg (h e List.mem_cons_self)]; exact b5k fun x hx => h x (List.mem_cons_of_mem _ hx)
theorem b6k : ∀ {es : List Ev} {i : Nat} {e : Ev} {txn : Int}, (∀ j, j < i → ∀ x, es[j]? = some x → ¬x.ends txn) → es[i]? = some e → e.ends txn → b4k es txn = e.kind
 | [], i, e, txn, _, h, _ => by cases h
 | x :: r, 0, e, txn, _, h, he => by simp only [List.getElem?_cons_zero, Option.some.injEq] at h; subst h; rw [b4k, if_pos he]
 | x :: r, i + 1, e, txn, hn, h, he => by
   rw [b4k, if_neg (hn 0 (by omega) x rfl)]
   exact b6k (i := i) (fun j hj y hy => hn (j + 1) (by omega) y (by simpa using hy)) (by simpa using h) he
theorem b7k {h : Hs} (hok : h.Ok) (txn : Int) : b4z prog true n_a5b [h.av, vi txn] [] (vi (b4k h.events txn)) [] := by
 refine a5H a5b_is (by simp) (by decide) rfl ?_
 simp -dsimp [a5b, Hs.av]
 refine a8H [] [6] h.events.length (fun i => ⟨[(5, vi i), (1, vi txn), (2, .ptr 2 0)], [(2, .box [.iv (.lst 1 (tbsC h.tables)), .iv (.lst 22 (evsC h.events)), .iv (.lst 5 (insC h.order))])]⟩)
   (fun i => Upto i fun j => ∀ e, h.events[j]? = some e → ¬e.ends txn) ?_ ?_ ?_
 · simp -dsimp
 · simp
 · intro i hi hq
   have hev := hok.events
   simp -dsimp [a5b_l7]
   refine ⟨fun h2 => ?_, fun h2 => ?_⟩
   · obtain ⟨e, he⟩ := c3Z h2
     have hw := c4Z (n := (i : Int) + 1) (by omega)
     have hS : (e.txn = txn ∧ (e.kind = 5 ∨ e.kind = 6)) → e.kind = b4k h.events txn := fun hh => (b6k (i := i) (fun j hj => hq j hj) he hh).symm
     have hN : ¬(e.txn = txn ∧ (e.kind = 5 ∨ e.kind = 6)) → Upto (i + 1) fun j => ∀ e, h.events[j]? = some e → ¬e.ends txn := fun hn => hq.succ fun x hx => by rw [he] at hx; cases hx; exact hn
     simp -dsimp [he]
     rw [hw]
     grind
   · exact (b5k fun e he => by
       obtain ⟨j, hj⟩ := List.getElem?_of_mem he
       exact hq j (Nat.lt_of_lt_of_le (List.getElem?_eq_some_iff.1 hj).1 h2) e hj).symm
def b8k (h : Hs) (table : Int) (k : Vl) : Prop := 0 ≤ table ∧ ∃ t, h.tables[table.toNat]? = some t ∧ k.right = true ∧ t[0]? = some k.text
def Hs.TbsOk (h : Hs) : Prop := ∀ t, t ∈ h.tables → TbOk t
def b9k (es : List Ev) (table : Int) (k : Vl) (v : Vs) : Prop := 1 ≤ v.n ∧ v.n ≤ c2S es v.txn table k
end Go.Rt
end

section
namespace Go.Rt
open Go.Vm
def c4w (h : Hs) (es : List Ev) (e : Ev) : Prop := b8k h e.table e.key ∧ e.n = c2S es e.txn e.table e.key + 1 ∧ (e.row = [] ∨ ∃ t, h.tables[e.table.toNat]? = some t ∧ Fits t e.row ∧ e.row[0]? = some e.key)
def c5w (h : Hs) (es : List Ev) (e : Ev) : Prop := b8k h e.table e.key ∧
 if 0 < c2S es e.txn e.table e.key then e.frm = ⟨e.txn, c2S es e.txn e.table e.key⟩ else e.frm = ⟨0, 0⟩ ∨ b9k es e.table e.key e.frm
def c6w (h : Hs) (es : List Ev) (e : Ev) (i : Nat) : Prop := ∀ r, e.refs[i]? = some r → b8k h e.table r.key ∧ b9k es e.table r.key r.frm ∧ (∀ q, 0 < i → e.refs[i - 1]? = some q → q.key.cmp r.key < 0)
def c7w (es : List Ev) (e : Ev) (x : Ev) : Prop := x.kind = 3 → x.txn = e.txn → x.table = e.table → ∃ r, r ∈ e.refs ∧ r.key = x.key ∧ r.frm = ⟨e.txn, c2S es e.txn e.table x.key⟩
def c8w (h : Hs) (es : List Ev) (e : Ev) : Prop := (0 ≤ e.table ∧ ∃ t, h.tables[e.table.toNat]? = some t ∧ PdOk t e.pred) ∧ Upto e.refs.length (c6w h es e) ∧ ∀ x, x ∈ es → c7w es e x
def c9w (l : List Rf) (k : Vl) (v : Vs) : Prop := ∃ r, r ∈ l ∧ r.key = k ∧ r.frm = v
@[simp] theorem c0x {k : Vl} {v : Vs} : c9w [] k v ↔ False := by unfold c9w; simp
theorem c1x {l : List Rf} {q : Rf} {k : Vl} {v : Vs} : c9w (l ++ [q]) k v ↔ c9w l k v ∨ ((q.key.text = k.text ∧ q.key.n = k.n ∧ q.key.s = k.s) ∧ q.frm.txn = v.txn ∧ q.frm.n = v.n) := by
 unfold c9w
 rw [← Vl.eq_iff, ← Vs.eq_iff]
 constructor
 · rintro ⟨r, hr, g⟩
   rcases List.mem_append.1 hr with hr | hr
   · exact .inl ⟨r, hr, g⟩
   · simp only [List.mem_singleton] at hr; subst hr; exact .inr g
 · rintro (⟨r, hr, g⟩ | g)
   · exact ⟨r, List.mem_append_left _ hr, g⟩
   · exact ⟨q, by simp, g⟩
end Go.Rt
end

section
namespace Go.Rt
open Go.Vm
def b0x (h : Hs) (es : List Ev) (e : Ev) : Prop := c4T es e ∧ (e.kind = 2 → c5w h es e) ∧ (e.kind = 3 → c4w h es e) ∧ (e.kind = 4 → c8w h es e)
theorem b1x {h : Hs} (hok : h.Ok) (txn : Int) : b4z prog true n_a3a [h.av, vi txn] [] (vb (decide (b4k h.events txn = 5))) [] := by
 refine a5H a3a_is (by simp) (by decide) rfl ?_
 simp -dsimp [a3a, Hs.av]
 refine a1G (b7k hok txn) (by simp [Hs.av]) (by simp [Hs.av]) ?_
 simp -dsimp
 rfl
def Ins.isOf (table : Int) (k : Vl) (o : Ins) : Prop := o.table = table ∧ o.key = k
def b2x (h : Hs) (e : Ev) : Prop := e.kind = 3 → b4k h.events e.txn = 5 → ∃ o, o ∈ h.order ∧ o.isOf e.table e.key ∧ e.txn ∈ o.txns
def b3x (h : Hs) (a : Nat) (o : Ins) : Prop := (∀ x, x ∈ h.order.take a → ¬x.isOf o.table o.key) ∧
 (Upto o.txns.length fun i => ∀ t, o.txns[i]? = some t → b4k h.events t = 5 ∧ c2S h.events t o.table o.key ≠ 0 ∧ t ∉ o.txns.take i) ∧ 0 < o.txns.length
def b4x (h : Hs) : Prop := (1 ≤ h.tables.length ∧ h.tables.length ≤ 3) ∧ h.TbsOk
def b5x (h : Hs) : Prop := b4x h ∧ (Upto h.events.length fun i => ∀ e, h.events[i]? = some e → b0x h (h.events.take i) e ∧ b2x h e) ∧ Upto h.order.length fun i => ∀ o, h.order[i]? = some o → b3x h i o
end Go.Rt
end

section
namespace Go.Rt
open Go.Vm
mutual
def Pd.Flat (d : Int) : Pd → Prop
 | .mk o c v w l => d ≤ 6 ∧ l.length ≤ 6 ∧ Pd.FlatL (d + 1) l ∧ IntKind.i64.wrap (Pd.size (.mk o c v w l)) ≤ 30
def Pd.FlatL (d : Int) : List Pd → Prop
 | [] => True
 | p :: r => p.Flat d ∧ Pd.FlatL d r
end
theorem Pd.flat_eq (d : Int) (p : Pd) : p.Flat d ↔ d ≤ 6 ∧ p.l.length ≤ 6 ∧ Pd.FlatL (d + 1) p.l ∧ IntKind.i64.wrap p.size ≤ 30 := by cases p; rw [Pd.Flat]; rfl
theorem Pd.flatL_iff (d : Int) : ∀ l : List Pd, Pd.FlatL d l ↔ ∀ p, p ∈ l → p.Flat d
 | [] => by simp [Pd.FlatL]
 | p :: r => by simp [Pd.FlatL, Pd.flatL_iff d r]
theorem c7t {p : Pd} (h : p.Ok) : ∀ d : Int, 0 ≤ d → b4z prog true n_a7a [p.av, vi d] [] (vb (ofP (p.Flat d))) [] := by
 induction h with
 | mk p hl hv hw hq ih =>
 intro d hd
 refine a5H a7a_is (by simp) (by decide) rfl ?_
 by_cases h1 : d ≤ 6
 · by_cases h2 : p.l.length ≤ 6
   · have n1 : ¬6 < d := by omega
     have n2 : ¬(6 : Int) < p.l.length := by omega
     simp -dsimp [b2V, Pd.av_eq, n1, n2]
     refine a8H [] [] p.l.length (fun i => ⟨[(5, vi i), (1, vi d), (2, .ptr 2 0)], [(2, p.box)]⟩) (fun i => Upto i fun j => ∀ q, p.l[j]? = some q → q.Flat (d + 1)) ?_ ?_ ?_
     · simp -dsimp [Pd.box]
     · exact c2Z
     · intro i hi hqq
       simp -dsimp [a7a_l9, Pd.box]
       refine ⟨fun hlt => ?_, fun hge => ?_⟩
       · obtain ⟨q, hqi⟩ := c3Z hlt
         have hw := c4Z (n := (i : Int) + 1) (by omega)
         have hwd := c4Z (n := d + 1) (by omega)
         simp -dsimp [hqi, Pd.cells_eq q, hwd]
         refine a1G (ih q (List.mem_of_getElem? hqi) (d + 1) (by omega)) (by simp [Pd.av_eq]) (by simp [Pd.av_eq]) ?_
         simp -dsimp [hw]
         exact ⟨fun g g2 => g ((Pd.flatL_iff _ _).1 ((Pd.flat_eq d p).1 g2).2.2.1 q (List.mem_of_getElem? hqi)), fun g => ⟨hlt, hqq.succ fun q' hq' => by rw [hqi] at hq'; cases hq'; exact g⟩⟩
       · have hall : Pd.FlatL (d + 1) p.l := (Pd.flatL_iff _ _).2 fun q hqm => by
           obtain ⟨j, hj⟩ := List.getElem?_of_mem hqm
           exact hqq j (by have := (List.getElem?_eq_some_iff.1 hj).1; omega) q hj
         refine a1G (b6x (.mk p hl hv hw hq)) (by simp [Pd.av_eq]) (by simp [Pd.av_eq]) ?_
         simp -dsimp [c6S, Pd.flat_eq d p, h1, h2, hall]
   · have n1 : ¬6 < d := by omega
     have n2 : (6 : Int) < p.l.length := by omega
     simp -dsimp [b2V, Pd.av_eq, n1, n2]
     exact fun g => h2 ((Pd.flat_eq d p).1 g).2.1
 · have n1 : 6 < d := by omega
   simp -dsimp [b2V, Pd.av_eq, n1]
   exact fun g => h1 ((Pd.flat_eq d p).1 g).1
structure SmallEv (e : Ev) : Prop where
 refs : e.refs.length ≤ 12
 row : e.row.length ≤ 12
 flat : e.pred.Flat 0
structure SmallP (h : Hs) : Prop where
 tables : h.tables.length ≤ 6
 events : h.events.length ≤ 60
 order : h.order.length ≤ 30
 ev : Upto h.events.length fun i => ∀ e, h.events[i]? = some e → SmallEv e
 txns : Upto h.order.length fun i => ∀ o, h.order[i]? = some o → o.txns.length ≤ 20
theorem c8t {h : Hs} (hok : h.Ok) : b4z prog true n_a0a [h.av] [] (vb (ofP (SmallP h))) [] := by
 refine a5H a0a_is (by simp) (by decide) rfl ?_
 by_cases h1 : h.tables.length ≤ 6
 · by_cases h2 : h.events.length ≤ 60
   · by_cases h3 : h.order.length ≤ 30
     · have n1 : ¬(6 : Int) < h.tables.length := by omega
       have n2 : ¬(60 : Int) < h.events.length := by omega
       have n3 : ¬(30 : Int) < h.order.length := by omega
       simp -dsimp [a0a, Hs.av, n1, n2, n3]
       refine a8H [] [4] h.events.length (fun i => ⟨[(3, vi i), (1, .ptr 1 0)], [(1, .box [.iv (.lst 1 (tbsC h.tables)), .iv (.lst 22 (evsC h.events)), .iv (.lst 5 (insC h.order))])]⟩)
         (fun i => Upto i fun i => ∀ e, h.events[i]? = some e → SmallEv e) ?_ ?_ ?_
       · simp -dsimp
       · exact c2Z
       · intro i hi hq
         simp -dsimp [a0a_l9]
         refine ⟨fun hlt => ?_, fun hge => ?_⟩
         · obtain ⟨e, he⟩ := c3Z hlt
           have hw := c4Z (n := (i : Int) + 1) (by omega)
           have hno : ¬SmallEv e → ¬SmallP h := fun g g2 => g (g2.ev i hlt e he)
           have heok := hok.ev e (List.mem_of_getElem? he)
           by_cases e1 : e.refs.length ≤ 12
           · by_cases e2 : e.row.length ≤ 12
             · have m1 : ¬(12 : Int) < e.refs.length := by omega
               have m2 : ¬(12 : Int) < e.row.length := by omega
               simp -dsimp [he, m1, m2]
               refine a1G (c7t heok.pred 0 (by omega)) (by simp [Pd.av]) (by simp [Pd.av]) ?_
               simp -dsimp [hw]
               exact ⟨fun g => hno fun g2 => g g2.flat, fun g => ⟨hlt, hq.succ fun e' he' => by rw [he] at he'; cases he'; exact ⟨e1, e2, g⟩⟩⟩
             · have m1 : ¬(12 : Int) < e.refs.length := by omega
               have m2 : (12 : Int) < e.row.length := by omega
               simp -dsimp [he, m1, m2]
               exact hno fun g => e2 g.row
           · have m1 : (12 : Int) < e.refs.length := by omega
             simp -dsimp [he, m1]
             exact hno fun g => e1 g.refs
         · refine a8H [] [] h.order.length (fun i => ⟨[(5, vi i), (1, .ptr 1 0)], [(1, .box [.iv (.lst 1 (tbsC h.tables)), .iv (.lst 22 (evsC h.events)), .iv (.lst 5 (insC h.order))])]⟩)
             (fun i => Upto i fun i => ∀ o, h.order[i]? = some o → o.txns.length ≤ 20) ?_ ?_ ?_
           · simp -dsimp
           · exact c2Z
           · intro j hj hqj
             simp -dsimp [a0a_l15]
             refine ⟨fun hjlt => ?_, fun hjge => ?_⟩
             · obtain ⟨o, ho⟩ := c3Z hjlt
               have hw := c4Z (n := (j : Int) + 1) (by omega)
               simp -dsimp [ho, Ins.cells_eq o, hw]
               refine ⟨fun g g2 => ?_, fun g => ⟨hjlt, hqj.succ fun o' ho' => by rw [ho] at ho'; cases ho'; omega⟩⟩
               have := g2.txns j hjlt o ho
               omega
             · exact ⟨h1, h2, h3, fun k hk => hq k (by omega), fun k hk => hqj k (by omega)⟩
     · have n1 : ¬(6 : Int) < h.tables.length := by omega
       have n2 : ¬(60 : Int) < h.events.length := by omega
       have n3 : (30 : Int) < h.order.length := by omega
       simp -dsimp [a0a, Hs.av, n1, n2, n3]
       exact fun g => h3 g.order
   · have n1 : ¬(6 : Int) < h.tables.length := by omega
     have n2 : (60 : Int) < h.events.length := by omega
     simp -dsimp [a0a, Hs.av, n1, n2]
     exact fun g => h2 g.events
 · have n1 : (6 : Int) < h.tables.length := by omega
   simp -dsimp [a0a, Hs.av, n1]
   exact fun g => h1 g.tables
end Go.Rt
end

section
namespace Go.Rt
open Go.Vm
abbrev skS : Sk := (false, [.i .i64], false)
abbrev skW : Sk := (true, [.i .i64, .i .i64, .b, .i .i64, .s], false)
def stOf (es : List Ev) (txn : Int) : Int := es.foldl (fun s e => if e.txn = txn ∧ (e.kind = 1 ∨ e.kind = 5 ∨ e.kind = 6) then e.kind else s) 0
theorem d2k (es : List Ev) (e : Ev) (txn : Int) : stOf (es ++ [e]) txn = if e.txn = txn ∧ (e.kind = 1 ∨ e.kind = 5 ∨ e.kind = 6) then e.kind else stOf es txn := by
 unfold stOf; rw [List.foldl_append]; rfl
def gS (es : List Ev) : List Value → Option (List IV)
 | [.int .i64 txn] => if stOf es txn = 0 then none else some [ci (stOf es txn)]
 | _ => none
def gW (es : List Ev) : List Value → Option (List IV)
 | [.int .i64 txn, .int .i64 table, .bool t, .int .i64 n, .string s] => if c2S es txn table ⟨t, n, s⟩ = 0 then none else some [ci (c2S es txn table ⟨t, n, s⟩)]
 | _ => none
def obC (o : Int × Vl) : List IV := [ci o.1, cb o.2.text, ci o.2.n, .v (.string o.2.s)]
def spots (es : List Ev) (txn : Int) : List (Int × Vl) := (es.filter fun e => decide (e.kind = 3) && decide (e.txn = txn) && decide (e.n = 1)).map fun e => (e.table, e.key)
def gP (es : List Ev) : List Value → Option (List (List IV))
 | [.int .i64 txn] => if spots es txn = [] then none else some ((spots es txn).map obC)
 | _ => none
def gPi (es : List Ev) (k : List Value) : Option (List IV) := (gP es k).map fun xs => [IV.lst 4 xs]
@[simp] theorem lk_gS (es : List Ev) (txn : Int) : lkR [.iv (.v (.int .i64 0))] false false (gS es [Value.int .i64 txn]) = vi (stOf es txn) := by
 simp only [gS]
 by_cases h : stOf es txn = 0
 · rw [if_pos h, h]; rfl
 · rw [if_neg h]; rfl
@[simp] theorem lk_gW (es : List Ev) (txn table : Int) (t : Bool) (n : Int) (s : ByteArray) :
   lkR [.iv (.v (.int .i64 0))] false false (gW es [Value.int .i64 txn, Value.int .i64 table, Value.bool t, Value.int .i64 n, Value.string s]) = vi (c2S es txn table ⟨t, n, s⟩) := by
 simp only [gW]
 by_cases h : c2S es txn table ⟨t, n, s⟩ = 0
 · rw [if_pos h, h]; rfl
 · rw [if_neg h]; rfl
def d3k (l : List Rf) (k : Vl) : Option Vs := l.foldl (fun s r => if r.key = k then some r.frm else s) none
theorem d4k (l : List Rf) (r : Rf) (k : Vl) : d3k (l ++ [r]) k = if r.key = k then some r.frm else d3k l k := by
 unfold d3k; rw [List.foldl_append]; rfl
abbrev skO : Sk := (true, [.i .i64, .b, .i .i64, .s], true)
def gR (tab : Int) (l : List Rf) : List Value → Option (List IV)
 | [.int .i64 table, .bool t, .int .i64 n, .string s] => if table = tab then (d3k l ⟨t, n, s⟩).map Vs.cells else none
 | _ => none
@[simp] theorem lk_gR (tab : Int) (l : List Rf) (t : Bool) (n : Int) (s : ByteArray) :
   lkR [.iv (.v (.int .i64 0)), .iv (.v (.int .i64 0))] true false (gR tab l [Value.int .i64 tab, Value.bool t, Value.int .i64 n, Value.string s]) = .agg [vi ((d3k l ⟨t, n, s⟩).getD ⟨0, 0⟩).txn, vi ((d3k l ⟨t, n, s⟩).getD ⟨0, 0⟩).n] := by
 simp only [gR, if_pos trivial]
 cases d3k l ⟨t, n, s⟩ <;> rfl
theorem d5k (tab : Int) : gR tab [] = fun _ => none := by
 funext q; unfold gR; split
 · split <;> rfl
 · rfl
theorem d6k (tab : Int) (l : List Rf) (r : Rf) : gset (gR tab l) [.int .i64 tab, .bool r.key.text, .int .i64 r.key.n, .string r.key.s] (some [ci r.frm.txn, ci r.frm.n]) = gR tab (l ++ [r]) := by
 funext q
 simp only [gset]
 split
 · rename_i e; subst e; simp [gR, d4k]
 · rename_i hne
   unfold gR
   split
   · rename_i table t n s
     by_cases h1 : table = tab
     · subst h1
       rw [if_pos rfl, if_pos rfl, d4k, if_neg]
       rintro h2
       exact hne (by rw [h2])
     · rw [if_neg h1, if_neg h1]
   · rfl
theorem d7k (es : List Ev) (txn : Int) : (spots es txn).length ≤ es.length := by
 unfold spots; rw [List.length_map]; exact List.length_filter_le _ _
theorem d8k {es : List Ev} {txn : Int} (h : spots es txn = []) : gPi es [.int .i64 txn] = none := by simp [gPi, gP, h]
theorem d9k {es : List Ev} {txn : Int} (h : spots es txn ≠ []) : gPi es [.int .i64 txn] = some [.lst 4 ((spots es txn).map obC)] := by simp [gPi, gP, h]
def ckIV (h : Hs) (a es : List Ev) : IV := .pt [.lst 1 (tbsC h.tables), .lst 22 (evsC h.events), .lst 5 (insC h.order), .mp skS (gS a), .mp skW (gW es), .mp skS (gPi es)]
abbrev ckBox (h : Hs) : Ob := .box [.iv (.lst 1 (tbsC h.tables)), .iv (.lst 22 (evsC h.events)), .iv (.lst 5 (insC h.order)), .mpr 1001, .mpr 1002, .mpr 1003]
abbrev ckH (h : Hs) (a b c : List Ev) : Hp := [(1000, ckBox h), (1001, .map skS (gS a)), (1002, .map skW (gW b)), (1003, .mapo skS 4 (gP c) none)]
theorem d0l {es : List Ev} {e : Ev} (hk : e.kind = 1 ∨ e.kind = 5 ∨ e.kind = 6) : gset (gS es) [.int .i64 e.txn] (some [ci e.kind]) = gS (es ++ [e]) := by
 funext q
 simp only [gset]
 split
 · rename_i h; subst h
   have hs : stOf (es ++ [e]) e.txn = e.kind := by rw [d2k, if_pos ⟨rfl, hk⟩]
   simp only [gS, hs]
   rw [if_neg (by omega)]
 · rename_i hne
   unfold gS
   split
   · rename_i t
     have hs : stOf (es ++ [e]) t = stOf es t := by
       rw [d2k, if_neg]
       rintro ⟨rfl, _⟩; exact hne rfl
     rw [hs]
   · rfl
theorem d1l {es : List Ev} {e : Ev} (hk : ¬(e.kind = 1 ∨ e.kind = 5 ∨ e.kind = 6)) : gS (es ++ [e]) = gS es := by
 funext q
 unfold gS
 split
 · rename_i t
   have hs : stOf (es ++ [e]) t = stOf es t := by rw [d2k, if_neg fun g => hk g.2]
   rw [hs]
 · rfl
theorem d2l (es : List Ev) (e : Ev) (txn table : Int) (k : Vl) : c2S (es ++ [e]) txn table k = c2S es txn table k + if e.isW txn table k = true then 1 else 0 := by
 unfold c2S
 rw [List.filter_append, List.length_append]
 congr 1
 cases hw : e.isW txn table k <;> simp [hw]
theorem d3l {es : List Ev} {e : Ev} (hk : e.kind = 3) : gset (gW es) [.int .i64 e.txn, .int .i64 e.table, .bool e.key.text, .int .i64 e.key.n, .string e.key.s] (some [ci ((c2S es e.txn e.table e.key : Int) + 1)]) = gW (es ++ [e]) := by
 funext q
 simp only [gset]
 split
 · rename_i h; subst h
   have hw : c2S (es ++ [e]) e.txn e.table ⟨e.key.text, e.key.n, e.key.s⟩ = c2S es e.txn e.table e.key + 1 := by
     rw [d2l, if_pos (Ev.isW_iff.2 ⟨hk, rfl, rfl, rfl, rfl, rfl⟩)]
   simp only [gW, hw]
   rw [if_neg (by omega)]
   simp
 · rename_i hne
   unfold gW
   split
   · rename_i txn table t n s
     have hw : c2S (es ++ [e]) txn table ⟨t, n, s⟩ = c2S es txn table ⟨t, n, s⟩ := by
       rw [d2l, if_neg, Nat.add_zero]
       rw [Ev.isW_iff]
       rintro ⟨_, rfl, rfl, h1, h2, h3⟩
       simp only at h1 h2 h3
       subst h1 h2 h3
       exact hne rfl
     rw [hw]
   · rfl
theorem d4l {es : List Ev} {e : Ev} (hk : e.kind ≠ 3) : gW (es ++ [e]) = gW es := by
 funext q
 unfold gW
 split
 · rw [d2l, if_neg (fun g => hk (Ev.isW_iff.1 g).1), Nat.add_zero]
 · rfl
theorem d5l (es : List Ev) (e : Ev) (txn : Int) : spots (es ++ [e]) txn = spots es txn ++ (if e.kind = 3 ∧ e.txn = txn ∧ e.n = 1 then [(e.table, e.key)] else []) := by
 unfold spots
 rw [List.filter_append, List.map_append]
 congr 1
 simp only [List.filter_cons, List.filter_nil, Bool.and_eq_true, decide_eq_true_eq, and_assoc]
 split <;> simp
theorem d6l {es : List Ev} {e : Ev} (hk : e.kind = 3) (hn : e.n = 1) : gset (gP es) [.int .i64 e.txn] (some ((spots es e.txn).map obC ++ [obC (e.table, e.key)])) = gP (es ++ [e]) := by
 funext q
 simp only [gset]
 split
 · rename_i h; subst h
   have hs : spots (es ++ [e]) e.txn = spots es e.txn ++ [(e.table, e.key)] := by rw [d5l, if_pos ⟨hk, rfl, hn⟩]
   simp only [gP, hs]
   rw [if_neg (by simp)]
   simp
 · rename_i hne
   unfold gP
   split
   · rename_i t
     have hs : spots (es ++ [e]) t = spots es t := by
       rw [d5l, if_neg, List.append_nil]
       rintro ⟨_, rfl, _⟩; exact hne rfl
     rw [hs]
   · rfl
theorem d7l {es : List Ev} {e : Ev} (hk : ¬(e.kind = 3 ∧ e.n = 1)) : gP (es ++ [e]) = gP es := by
 funext q
 unfold gP
 split
 · rename_i t
   have hs : spots (es ++ [e]) t = spots es t := by rw [d5l, if_neg (fun g => hk ⟨g.1, g.2.2⟩), List.append_nil]
   rw [hs]
 · rfl
theorem d8l {es : List Ev} {txn : Int} (h : spots es txn = []) : gP es [.int .i64 txn] = none := by simp [gP, h]
theorem d9l {es : List Ev} {txn : Int} (h : spots es txn ≠ []) : gP es [.int .i64 txn] = some ((spots es txn).map obC) := by simp [gP, h]
@[simp] theorem d0m {β : Type} (g : List Value → Option β) (k : List Value) (a b : Option β) : gset (gset g k a) k b = gset g k b := by
 funext q; simp only [gset]; split <;> rfl
end Go.Rt
end

section
namespace Go.Rt
open Go.Vm
theorem b7m {h : Hs} (ht : h.TbsOk) (a es : List Ev) (table : Int) (k : Vl) : b4z prog true n_a0g [.iv (ckIV h a es), vi table, k.av] [] (vb (ofP (b8k h table k))) [] := by
 refine a5H a0g_is (by simp) (by decide) rfl ?_
 simp -dsimp [a7d_key, ckIV]
 refine ⟨fun h1 => ⟨fun h2 => ?_, fun h2 => ?_⟩, fun h1 g => absurd g.1 (by omega)⟩
 · obtain ⟨n, rfl⟩ := Int.eq_ofNat_of_zero_le h1
   obtain ⟨t, htn⟩ : ∃ t, h.tables[n]? = some t := c3Z (by omega)
   have hT := ht t (List.mem_of_getElem? htn)
   obtain ⟨c, hc⟩ : ∃ c, t[0]? = some c := c3Z hT.1
   have hK : b8k h n k ↔ k.right = true ∧ k.text = c := by
     unfold b8k
     constructor
     · rintro ⟨_, t', h3, h4, h5⟩
       rw [show ((n : Int)).toNat = n from rfl, htn] at h3; cases h3
       rw [hc] at h5; cases h5
       exact ⟨h4, rfl⟩
     · rintro ⟨h4, h5⟩; exact ⟨h1, t, by simpa using htn, h4, by rw [hc, h5]⟩
   refine a1G (d2c k) (by simp) (by simp) ?_
   simp -dsimp
   refine ⟨fun h3 => ?_, fun h3 g => by rw [hK] at g; rw [h3] at g; cases g.1⟩
   simp -dsimp [htn, hc, tbIV, c9Y, hK, h3]
 · rintro ⟨_, t, h3, _⟩
   have := (List.getElem?_eq_some_iff.1 h3).1
   omega
theorem b8m (h : Hs) (a es : List Ev) (table : Int) (k : Vl) (v : Vs) :
   b4z prog true n_a1g [.iv (ckIV h a es), .agg [.iv (ci table), .iv (cb k.text), .iv (ci k.n), .iv (.v (.string k.s))], v.av] [] (vb (ofP (b9k es table k v))) [] := by
 refine a5H a1g_is (by simp) (by decide) rfl ?_
 simp -dsimp [a7d_version, ckIV, c9Y, b9k]
 grind
end Go.Rt
end

section
namespace Go.Rt
open Go.Vm
theorem b7w {h : Hs} (ht : h.TbsOk) (a es : List Ev) (e : Ev) : b4z prog true n_a8d [.iv (ckIV h a es), e.av] [] (vb (ofP (e.kind = 2 → c5w h es e))) [] := by
 refine a5H a8d_is (by simp) (by decide) rfl ?_
 by_cases k2 : e.kind = 2
 · by_cases hw : 0 < c2S es e.txn e.table e.key
   · simp -dsimp [a7d_read, ckIV, Ev.av, k2, hw]
     refine a1G (b7m ht a es e.table e.key) (by simp [ckIV]) (by simp [ckIV]) ?_
     simp -dsimp
     refine ⟨fun g => ?_, fun g g2 => g g2.1⟩
     rw [c9Y]
     unfold c5w
     rw [if_pos hw]
     simp [g, Vs.eq_iff]
   · have hR : c5w h es e ↔ b8k h e.table e.key ∧ ((e.frm.txn = 0 ∧ e.frm.n = 0) ∨ b9k es e.table e.key e.frm) := by
       unfold c5w
       rw [if_neg hw]
       simp [Vs.eq_iff]
     simp -dsimp [a7d_read, ckIV, Ev.av, k2, hw]
     refine a1G (b7m ht a es e.table e.key) (by simp [ckIV]) (by simp [ckIV]) ?_
     simp -dsimp
     refine ⟨fun g => ⟨fun g2 => ?_, fun g2 g3 => hR.2 ⟨g, .inl ⟨g2, g3⟩⟩⟩, fun g g2 => g g2.1⟩
     refine a1G (b8m h a es e.table e.key e.frm) (by simp [ckIV]) (by simp [ckIV]) ?_
     simp -dsimp [c5S, hR]
     grind
 · simp -dsimp [a7d_read, ckIV, Ev.av, k2]
def b8w (h : Hs) (es : List Ev) (e : Ev) : Prop := (0 ≤ e.table ∧ ∃ t, h.tables[e.table.toNat]? = some t ∧ PdOk t e.pred) ∧ Upto e.refs.length (c6w h es e) ∧
 ∀ o, o ∈ spots es e.txn → o.1 = e.table → (d3k e.refs o.2).getD ⟨0, 0⟩ = ⟨e.txn, c2S es e.txn o.1 o.2⟩
theorem b9w {h : Hs} (ht : h.TbsOk) (htl : h.tables.length < 2 ^ 63) (a es : List Ev) (hes : es.length < 2 ^ 63) (e : Ev) (heok : e.Ok) : b4z prog true n_a9d [.iv (ckIV h a es), e.av] [] (vb (ofP (e.kind = 4 → b8w h es e))) [] := by
 refine a5H a9d_is (by simp) (by decide) rfl ?_
 by_cases k4 : e.kind = 4
 · by_cases hT : 0 ≤ e.table ∧ e.table < h.tables.length
   · obtain ⟨t0, t1⟩ := id hT
     obtain ⟨t, htt⟩ : ∃ t, h.tables[e.table.toNat]? = some t := c3Z (by omega)
     have t2 : ¬(h.tables.length : Int) ≤ e.table := by omega
     have t3 : ¬e.table < 0 := by omega
     simp -dsimp [a7d_saw, ckIV, Ev.av, k4, t0, t3, t2, htt]
     refine a1G (b3z t heok.pred) (by simp [tbAV, Pd.av]) (by simp [tbAV, Pd.av]) ?_
     simp -dsimp
     have hS : b8w h es e ↔ PdOk t e.pred ∧ Upto e.refs.length (c6w h es e) ∧ ∀ o, o ∈ spots es e.txn → o.1 = e.table → (d3k e.refs o.2).getD ⟨0, 0⟩ = ⟨e.txn, c2S es e.txn o.1 o.2⟩ := by
       unfold b8w
       constructor
       · rintro ⟨⟨_, t', g1, g2⟩, g3⟩
         rw [htt] at g1; cases g1; exact ⟨g2, g3⟩
       · rintro ⟨g2, g3⟩; exact ⟨⟨t0, t, htt, g2⟩, g3⟩
     refine ⟨fun h2 g => h2 (hS.1 g).1, fun h2 => ?_⟩
     refine a8H [] [7, 8] e.refs.length (fun i => ⟨[(47, vi i), (46, vi e.refs.length), (45, .iv (.lst 5 (c8R e.refs))), (0, .iv (ckIV h a es)), (3, .ptr 3 0), (5, .mpr 43)],
         [(43, .map skO (gR e.table (e.refs.take i))), (3, .box (e.cells.map .iv))]⟩) (fun i => Upto i (c6w h es e)) ?_ ?_ ?_
     · simp -dsimp [d5k, ckIV]
     · simp
     · intro i hi hq
       simp -dsimp [a9d_l14, ckIV]
       refine ⟨fun hlt => ?_, fun hge => ?_⟩
       · obtain ⟨q, hqi⟩ := c3Z hlt
         have hre := heok.refs
         have hw := c4Z (n := (i : Int) + 1) (by omega)
         have hw1 := c4Z (n := (i : Int) - 1) (by omega)
         have hno : ¬c6w h es e i → ¬b8w h es e := fun g1 g => g1 (g.2.1 i hlt)
         have hat : c6w h es e i ↔ b8k h e.table q.key ∧ b9k es e.table q.key q.frm ∧ (∀ p, 0 < i → e.refs[i - 1]? = some p → p.key.cmp q.key < 0) := by
           unfold c6w; rw [hqi]
           exact ⟨fun g => g q rfl, fun g r hr => by cases hr; exact g⟩
         simp -dsimp [hqi, Rf.cells_eq q]
         refine a1G (b7m ht a es e.table q.key) (by simp [ckIV]) (by simp [ckIV]) ?_
         simp -dsimp
         by_cases k1 : b8k h e.table q.key
         · simp -dsimp [k1]
           refine a1G (b8m h a es e.table q.key q.frm) (by simp [ckIV]) (by simp [ckIV]) ?_
           simp -dsimp
           by_cases k2 : b9k es e.table q.key q.frm
           · by_cases hi0 : 0 < i
             · obtain ⟨p, hp⟩ : ∃ p, e.refs[i - 1]? = some p := c3Z (by omega)
               have e1 : ((i : Int) - 1).toNat = i - 1 := by omega
               have e2 : (0 : Int) ≤ (i : Int) - 1 := by omega
               simp -dsimp [k2, hi0, hw1, e1, e2, hp, Rf.cells_eq p]
               refine ⟨⟨by omega, a1G (b2n p.key q.key) (by simp) (by simp) ?_⟩, fun g => absurd g (by omega)⟩
               simp -dsimp [hw, d6k, c7S hqi]
               refine ⟨fun k3 => hno fun g => absurd ((hat.1 g).2.2 p hi0 hp) (by omega), fun k3 => ⟨hlt, hq.succ (hat.2 ⟨k1, k2, fun p' _ hp' => by rw [hp] at hp'; cases hp'; exact k3⟩)⟩⟩
             · simp -dsimp [k2, hi0, hw, d6k, c7S hqi]
               exact fun _ => ⟨hlt, hq.succ (hat.2 ⟨k1, k2, fun p h => absurd h hi0⟩)⟩
           · simp -dsimp [k2]
             exact hno fun g => k2 (hat.1 g).2.1
         · simp -dsimp [k1]
           exact hno fun g => k1 (hat.1 g).1
       · have hall : Upto e.refs.length (c6w h es e) := fun j hj => hq j (by omega)
         rw [List.take_of_length_le hge]
         by_cases hs : spots es e.txn = []
         · simp -dsimp [d8k hs]
           refine a8H [] [] 0 (fun i => ⟨[(102, vi i), (101, vi 0), (100, .nil 4), (0, .iv (ckIV h a es)), (3, .ptr 3 0), (5, .mpr 43)],
             [(43, .map skO (gR e.table e.refs)), (3, .box (e.cells.map .iv))]⟩) (fun _ => True) ?_ trivial ?_
           · simp -dsimp [ckIV]
           · intro j hj _
             obtain rfl : j = 0 := by omega
             simp -dsimp [a9d_l21]
             exact hS.2 ⟨h2, hall, by rw [hs]; simp⟩
         · simp -dsimp [d9k hs]
           refine a8H [] [10] (spots es e.txn).length (fun i => ⟨[(102, vi i), (101, vi (spots es e.txn).length), (100, .iv (.lst 4 ((spots es e.txn).map obC))), (0, .iv (ckIV h a es)), (3, .ptr 3 0), (5, .mpr 43)],
             [(43, .map skO (gR e.table e.refs)), (3, .box (e.cells.map .iv))]⟩) (fun i => ∀ o, o ∈ (spots es e.txn).take i → o.1 = e.table → (d3k e.refs o.2).getD ⟨0, 0⟩ = ⟨e.txn, c2S es e.txn o.1 o.2⟩) ?_ ?_ ?_
           · simp -dsimp [ckIV]
           · simp
           · intro j hj hqj
             have hsl := d7k es e.txn
             simp -dsimp [a9d_l21, ckIV]
             refine ⟨fun hjlt => ?_, fun hjge => ?_⟩
             · obtain ⟨o, ho⟩ := c3Z hjlt
               have hwj := c4Z (n := (j : Int) + 1) (by omega)
               by_cases c : o.1 = e.table
               · simp -dsimp [ho, obC, c, hwj, c7S ho]
                 constructor
                 · intro g g2
                   have g3 := (hS.1 g2).2.2 o (List.mem_of_getElem? ho) c
                   rw [c] at g3
                   rw [g3] at g
                   simp at g
                 · intro g1 g2
                   refine ⟨hjlt, ?_⟩
                   rintro a' b (g | rfl) rfl
                   · exact hqj _ g rfl
                   · exact Vs.eq_iff.2 ⟨g1, g2⟩
               · simp -dsimp [ho, obC, c, hwj, c7S ho]
                 refine ⟨hjlt, ?_⟩
                 rintro a' b (g | rfl) rfl
                 · exact hqj _ g rfl
                 · exact absurd rfl c
             · rw [List.take_of_length_le hjge] at hqj
               exact hS.2 ⟨h2, hall, hqj⟩
   · have hno : ¬b8w h es e := by
       rintro ⟨⟨g0, t, g, _⟩, _⟩
       have := (List.getElem?_eq_some_iff.1 g).1
       omega
     by_cases t0 : 0 ≤ e.table
     · have t1 : ¬e.table < h.tables.length := fun g => hT ⟨t0, g⟩
       simp -dsimp [a7d_saw, ckIV, Ev.av, k4, t0, t1, hno]
     · simp -dsimp [a7d_saw, ckIV, Ev.av, k4, t0, hno]
 · simp -dsimp [a7d_saw, ckIV, Ev.av, k4]
end Go.Rt
end

section
namespace Go.Rt
open Go.Vm
def a4R (es : List Ev) (e : Ev) : Prop := 1 ≤ e.txn ∧ 1 ≤ e.kind ∧ e.kind ≤ 6 ∧ (e.kind = 1 → stOf es e.txn = 0 ∧ 1 ≤ e.level ∧ e.level ≤ 5) ∧ (e.kind ≠ 1 → stOf es e.txn = 1)
instance (es : List Ev) (e : Ev) : Decidable (a4R es e) := by unfold a4R; exact inferInstance
def esF (es : List Ev) (e : Ev) : List Ev := if a4R es e then es ++ [e] else es
theorem a5R (h : Hs) (es b c : List Ev) (e : Ev) : b4z prog false n_a6d [.ptr 1000 0, e.av] (ckH h es b c) (vb (ofP (a4R es e))) (ckH h (esF es e) b c) := by
 refine a2J a6d_is (by simp) (by decide) rfl rfl ?_
 by_cases hF : a4R es e
 · have hE : esF es e = es ++ [e] := if_pos hF
   rw [hE]
   obtain ⟨h1, h2, h3, h4, h5⟩ := id hF
   have n1 : ¬e.txn < 1 := by omega
   have n2 : ¬e.kind < 1 := by omega
   have n3 : ¬6 < e.kind := by omega
   by_cases k1 : e.kind = 1
   · obtain ⟨g1, g2, g3⟩ := h4 k1
     have n4 : ¬e.level < 1 := by omega
     have n5 : ¬5 < e.level := by omega
     have hg := d0l (es := es) (e := e) (.inl k1)
     rw [k1] at hg
     simp -dsimp [a7d_frame, Ev.av, n1, n2, n3, k1, g1, n4, n5, hg, hF]
   · have g1 := h5 k1
     by_cases k5 : e.kind = 5
     · have hg := d0l (es := es) (e := e) (.inr (.inl k5))
       rw [k5] at hg
       simp -dsimp [a7d_frame, Ev.av, n1, n2, n3, k1, g1, k5, hg, hF]
     · by_cases k6 : e.kind = 6
       · have hg := d0l (es := es) (e := e) (.inr (.inr k6))
         rw [k6] at hg
         simp -dsimp [a7d_frame, Ev.av, n1, n2, n3, k1, g1, k6, hg, hF]
       · have hg := d1l (es := es) (e := e) (by omega)
         simp -dsimp [a7d_frame, Ev.av, n1, n2, n3, k1, g1, k5, k6, hg, hF]
 · have hE : esF es e = es := if_neg hF
   rw [hE]
   simp -dsimp [a7d_frame, Ev.av, hF]
   unfold a4R at hF
   grind
def CkW (h : Hs) (es : List Ev) (e : Ev) : Prop := e.kind = 3 → b8k h e.table e.key ∧ e.n = c2S es e.txn e.table e.key + 1
noncomputable def esW (h : Hs) (es : List Ev) (e : Ev) : List Ev := @ite _ (CkW h es e) (Classical.propDecidable _) (es ++ [e]) es
set_option maxRecDepth 5000 in
set_option maxHeartbeats 4000000 in
theorem a6R {h : Hs} (ht : h.TbsOk) (a es : List Ev) (hes : es.length < 2 ^ 40) (e : Ev) : b4z prog false n_a0e [.ptr 1000 0, e.av] (ckH h a es es) (vb (ofP (e.kind = 3 → c4w h es e))) (ckH h a (esW h es e) (esW h es e)) := by
 refine a2J a0e_is (by simp) (by decide) rfl rfl ?_
 by_cases k3 : e.kind = 3
 · simp -dsimp [a7d_write, Ev.av, k3]
   refine a1G (b7m ht a es e.table e.key) (by simp [ckIV]; rfl) (by simp [ckIV]) ?_
   by_cases hK : b8k h e.table e.key
   · have hwl := c4S es e.txn e.table e.key
     have hw := c4Z (n := (c2S es e.txn e.table e.key : Int) + 1) (by omega)
     by_cases hn : e.n = c2S es e.txn e.table e.key + 1
     · have hE : esW h es e = es ++ [e] := if_pos fun g => ⟨hK, hn⟩
       rw [hE]
       obtain ⟨h0, t, htt, hr, hc⟩ := id hK
       have hgW := d3l (es := es) (e := e) k3
       have hWO : c4w h es e ↔ e.row = [] ∨ (Fits t e.row ∧ e.row[0]? = some e.key) := by
         unfold c4w
         constructor
         · rintro ⟨_, _, g | ⟨t', g2, g3, g4⟩⟩
           · exact .inl g
           · rw [htt] at g2; cases g2; exact .inr ⟨g3, g4⟩
         · rintro (g | ⟨g3, g4⟩)
           · exact ⟨hK, hn, .inl g⟩
           · exact ⟨hK, hn, .inr ⟨t, htt, g3, g4⟩⟩
       have hw1 : IntKind.i64.wrap 1 = 1 := by rw [IntKind.wrap_i64]; omega
       by_cases h1 : c2S es e.txn e.table e.key = 0
       · have hn1 : e.n = 1 := by omega
         rw [h1] at hgW
         have hgP := d6l (es := es) (e := e) k3 hn1
         by_cases hs : spots es e.txn = []
         · rw [hs] at hgP
           by_cases hrow : e.row = []
           · simp -dsimp [hK, hw1, hn1, h1, d8l hs, hrow, hWO]
             exact ⟨hgW, hgP⟩
           · obtain ⟨v, hv⟩ : ∃ v, e.row[0]? = some v := c3Z (List.length_pos_iff.2 hrow)
             simp -dsimp [hK, hw1, hn1, h1, d8l hs, hrow, h0, htt]
             repeat' apply And.intro
             all_goals try omega
             all_goals
               refine a1G (d2d t e.row) (by simp [tbAV, c8Z, rowC]) (by simp [tbAV]) ?_
               by_cases hf : Fits t e.row
               · simp -dsimp [hf, hv, hWO, hrow, c9Y, Vl.eq_iff]
                 exact ⟨hgW, hgP⟩
               · simp -dsimp [hf, hWO, hrow]
                 exact ⟨hgW, hgP⟩
         · have hsl := d7k es e.txn
           by_cases hrow : e.row = []
           · simp -dsimp [hK, hw1, hn1, h1, d9l hs, hrow, hWO]
             exact ⟨by omega, by omega, hgW, hgP⟩
           · obtain ⟨v, hv⟩ : ∃ v, e.row[0]? = some v := c3Z (List.length_pos_iff.2 hrow)
             simp -dsimp [hK, hw1, hn1, h1, d9l hs, hrow, h0, htt]
             repeat' apply And.intro
             all_goals try omega
             all_goals
               refine a1G (d2d t e.row) (by simp [tbAV, c8Z, rowC]) (by simp [tbAV]) ?_
               by_cases hf : Fits t e.row
               · simp -dsimp [hf, hv, hWO, hrow, c9Y, Vl.eq_iff]
                 exact ⟨hgW, hgP⟩
               · simp -dsimp [hf, hWO, hrow]
                 exact ⟨hgW, hgP⟩
       · have hgP := d7l (es := es) (e := e) (by omega)
         have hn1 : ¬((c2S es e.txn e.table e.key : Int) + 1 = 1) := by omega
         by_cases hrow : e.row = []
         · simp -dsimp [hK, hw, hn, hn1, hrow, hWO]
           exact ⟨hgW, hgP.symm⟩
         · obtain ⟨v, hv⟩ : ∃ v, e.row[0]? = some v := c3Z (List.length_pos_iff.2 hrow)
           simp -dsimp [hK, hw, hn, hn1, hrow, h0, htt]
           repeat' apply And.intro
           all_goals
             refine a1G (d2d t e.row) (by simp [tbAV, c8Z, rowC]) (by simp [tbAV]) ?_
             by_cases hf : Fits t e.row
             · simp -dsimp [hf, hv, hWO, hrow, c9Y, Vl.eq_iff]
               exact ⟨hgW, hgP.symm⟩
             · simp -dsimp [hf, hWO, hrow]
               exact ⟨hgW, hgP.symm⟩
     · have hE : esW h es e = es := if_neg fun g => hn (g k3).2
       rw [hE]
       simp -dsimp [hK, hw, hn]
       exact fun g => hn g.2.1
   · have hE : esW h es e = es := if_neg fun g => hK (g k3).1
     rw [hE]
     simp -dsimp [hK]
     exact fun g => hK g.1
 · have hE : esW h es e = es ++ [e] := if_pos fun g => absurd g k3
   rw [hE]
   simp -dsimp [a7d_write, Ev.av, k3, d4l k3, d7l (fun g => k3 g.1)]
end Go.Rt
end

section
namespace Go.Rt
open Go.Vm
open Classical in
noncomputable def b2X (p : Int → Int × Vl → Prop) : List Value → Option (List IV)
 | [.int .i64 txn, .int .i64 table, .bool t, .int .i64 n, .string s] => if p txn (table, ⟨t, n, s⟩) then some [ci 1] else none
 | _ => none
theorem b3X : b2X (fun _ _ => False) = fun _ => none := by
 funext q; unfold b2X; split
 · rw [if_neg]; exact fun h => h
 · rfl
theorem b4X {p p' : Int → Int × Vl → Prop} (h : ∀ t o, p t o ↔ p' t o) : b2X p = b2X p' := by
 have : p = p' := by funext t o; exact propext (h t o)
 rw [this]
theorem b5X (p : Int → Int × Vl → Prop) (txn : Int) (o : Int × Vl) : gset (b2X p) [.int .i64 txn, .int .i64 o.1, .bool o.2.text, .int .i64 o.2.n, .string o.2.s] (some [ci 1]) = b2X (fun t x => p t x ∨ (t = txn ∧ x = o)) := by
 funext q
 simp only [gset]
 split
 · rename_i h; subst h
   simp only [b2X]
   rw [if_pos]
   exact .inr ⟨rfl, rfl⟩
 · rename_i hne
   unfold b2X
   split
   · rename_i t table b n s
     have hn : ¬(t = txn ∧ (table, (⟨b, n, s⟩ : Vl)) = o) := by rintro ⟨rfl, rfl⟩; exact hne rfl
     by_cases hp : p t (table, ⟨b, n, s⟩)
     · rw [if_pos hp, if_pos (.inl hp)]
     · rw [if_neg hp, if_neg fun g => g.elim hp hn]
   · rfl
theorem b6X (p : Int → Int × Vl → Prop) (txn : Int) (o : Int × Vl) : gset (b2X p) [.int .i64 txn, .int .i64 o.1, .bool o.2.text, .int .i64 o.2.n, .string o.2.s] none = b2X (fun t x => p t x ∧ ¬(t = txn ∧ x = o)) := by
 funext q
 simp only [gset]
 split
 · rename_i h; subst h
   simp only [b2X]
   rw [if_neg]
   exact fun g => g.2 ⟨rfl, rfl⟩
 · rename_i hne
   unfold b2X
   split
   · rename_i t table b n s
     have hn : ¬(t = txn ∧ (table, (⟨b, n, s⟩ : Vl)) = o) := by rintro ⟨rfl, rfl⟩; exact hne rfl
     by_cases hp : p t (table, ⟨b, n, s⟩)
     · rw [if_pos hp, if_pos ⟨hp, hn⟩]
     · rw [if_neg hp, if_neg fun g => hp g.1]
   · rfl
open Classical in
theorem b7X (p : Int → Int × Vl → Prop) (txn table : Int) (t : Bool) (n : Int) (s : ByteArray) :
   lkR [.iv (.v (.int .i64 0))] false false (b2X p [Value.int .i64 txn, Value.int .i64 table, Value.bool t, Value.int .i64 n, Value.string s]) = vi (if p txn (table, ⟨t, n, s⟩) then 1 else 0) := by
 simp only [b2X]
 split <;> rfl
theorem b8X {p : Int → Int × Vl → Prop} : (∀ k, b2X p k = none) ↔ ∀ t o, ¬p t o := by
 constructor
 · intro h t o hp
   have := h [.int .i64 t, .int .i64 o.1, .bool o.2.text, .int .i64 o.2.n, .string o.2.s]
   simp only [b2X] at this
   rw [if_pos hp] at this
   cases this
 · intro h k
   unfold b2X
   split
   · rw [if_neg (h _ _)]
   · rfl
def metN (l : List Ins) (table : Int) (k : Vl) : Nat := (l.filter fun o => decide (o.table = table) && decide (o.key = k)).length
theorem b9X (l : List Ins) (o : Ins) (table : Int) (k : Vl) : metN (l ++ [o]) table k = metN l table k + if o.table = table ∧ o.key = k then 1 else 0 := by
 unfold metN
 rw [List.filter_append, List.length_append]
 congr 1
 simp only [List.filter_cons, List.filter_nil, Bool.and_eq_true, decide_eq_true_eq]
 split <;> rfl
theorem b0Y {l : List Ins} {table : Int} {k : Vl} : metN l table k = 0 ↔ ∀ x, x ∈ l → ¬(x.table = table ∧ x.key = k) := by
 unfold metN
 rw [List.length_eq_zero_iff, List.filter_eq_nil_iff]
 simp
theorem b1Y (l : List Ins) (table : Int) (k : Vl) : metN l table k ≤ l.length := List.length_filter_le _ _
abbrev skM : Sk := (true, [.i .i64, .b, .i .i64, .s], false)
def gMet (l : List Ins) : List Value → Option (List IV)
 | [.int .i64 table, .bool t, .int .i64 n, .string s] => if metN l table ⟨t, n, s⟩ = 0 then none else some [ci (metN l table ⟨t, n, s⟩)]
 | _ => none
theorem b2Y : gMet [] = fun _ => none := by
 funext q; unfold gMet; split
 · rfl
 · rfl
@[simp] theorem lk_gMet (l : List Ins) (table : Int) (t : Bool) (n : Int) (s : ByteArray) :
   lkR [.iv (.v (.int .i64 0))] false false (gMet l [Value.int .i64 table, Value.bool t, Value.int .i64 n, Value.string s]) = vi (metN l table ⟨t, n, s⟩) := by
 simp only [gMet]
 by_cases h : metN l table ⟨t, n, s⟩ = 0
 · rw [if_pos h, h]; rfl
 · rw [if_neg h]; rfl
theorem b3Y (l : List Ins) (o : Ins) : gset (gMet l) [.int .i64 o.table, .bool o.key.text, .int .i64 o.key.n, .string o.key.s] (some [ci ((metN l o.table o.key : Int) + 1)]) = gMet (l ++ [o]) := by
 funext q
 simp only [gset]
 split
 · rename_i h; subst h
   have hw : metN (l ++ [o]) o.table ⟨o.key.text, o.key.n, o.key.s⟩ = metN l o.table o.key + 1 := by
     rw [b9X, if_pos ⟨rfl, rfl⟩]
   simp only [gMet, hw]
   rw [if_neg (by omega)]
   simp
 · rename_i hne
   unfold gMet
   split
   · rename_i table t n s
     have hw : metN (l ++ [o]) table ⟨t, n, s⟩ = metN l table ⟨t, n, s⟩ := by
       rw [b9X, if_neg, Nat.add_zero]
       rintro ⟨rfl, h⟩
       rw [h] at hne
       exact hne rfl
     rw [hw]
   · rfl
theorem b4Y {es : List Ev} {k : List Value} {c : List IV} (h : gPi es k = some c) : ∃ txn, k = [.int .i64 txn] ∧ spots es txn ≠ [] ∧ c = [.lst 4 ((spots es txn).map obC)] := by
 unfold gPi gP at h
 split at h
 · rename_i txn
   split at h
   · cases h
   · rename_i hne
     simp only [Option.map_some, Option.some.injEq] at h
     exact ⟨txn, rfl, hne, h.symm⟩
 · cases h
@[simp] theorem b5Y {s : St} {fr : Bool} {ids : List Nat} : s.arg1 fr ids ∘ AV.iv = AV.iv := funext fun _ => by simp
theorem b6Y {k q : List Value} {l : List (List Value)} : q ∈ rmk k l ↔ q ∈ l ∧ q ≠ k := by
 unfold rmk; rw [List.mem_filter]; simp
theorem b0E {k : List Value} {l : List (List Value)} (h : k ∈ l) : (rmk k l).length < l.length := by
 unfold rmk
 refine List.length_filter_lt_length_iff_exists.2 ⟨k, h, ?_⟩
 simp
@[simp] theorem gset_at {β : Type} (g : List Value → Option β) (k : List Value) (c : Option β) : gset g k c k = c := by simp [gset]
theorem b7Y {P : Program} {c : VCode} {s : St} {O : Outs} (D D' : List Nat) (S : List (List Value) → Option (List Value) → St) (Q : List (List Value) → Prop) (L : List (List Value)) (h0 : LeTo D s (S L none)) (q0 : Q L)
   (hs : ∀ left last, Q left → wpV P c (S left last) { O with n := fun s2 => ∃ k last', k ∈ left ∧ LeTo D' s2 (S (rmk k left) last') ∧ Q (rmk k left) }) : a9S P c s O := by
 refine a6H (fun n s => ∃ left last, n = left.length ∧ s = S left last ∧ Q left) ⟨_, _, h0.le, L, none, rfl, rfl, q0⟩ ?_
 rintro k s' ⟨left, last, rfl, rfl, hq⟩
 refine c4f c (O := { O with n := fun s2 => ∃ k last', k ∈ left ∧ LeTo D' s2 (S (rmk k left) last') ∧ Q (rmk k left) }) (fun s2 h => ?_) (fun _ _ h => h) (fun _ h => h) (fun _ _ h => h) (hs left last hq)
 obtain ⟨k, last', hk, hle, hq'⟩ := h
 exact ⟨_, _, b0E hk, hle.le, _, _, rfl, rfl, hq'⟩
def b8Y (h : Hs) (es : List Ev) (i : Nat) (o : Ins) : Prop := (∀ x, x ∈ h.order.take i → ¬(x.table = o.table ∧ x.key = o.key)) ∧ 0 < o.txns.length ∧
 Upto o.txns.length fun k => ∀ t, o.txns[k]? = some t → stOf es t = 5 ∧ (o.table, o.key) ∈ spots es t ∧ t ∉ o.txns.take k
def b9Y (h : Hs) (es : List Ev) : Prop := (Upto h.order.length fun i => ∀ o, h.order[i]? = some o → b8Y h es i o) ∧
 ∀ t o, stOf es t = 5 → o ∈ spots es t → ∃ x, x ∈ h.order ∧ (x.table = o.1 ∧ x.key = o.2) ∧ t ∈ x.txns
end Go.Rt
end

section
namespace Go.Rt
open Go.Vm
def c5g (h : Hs) (es : List Ev) (i : Nat) (t : Int) (o : Int × Vl) : Prop := (stOf es t = 5 ∧ o ∈ spots es t) ∧ ¬∃ x, x ∈ h.order.take i ∧ (x.table = o.1 ∧ x.key = o.2) ∧ t ∈ x.txns
theorem c6g {h : Hs} (hok : h.Ok) (es : List Ev) (hes : es.length < 2 ^ 40) : b4z prog true n_a1e [.iv (ckIV h es es)] [] (vb (ofP (b9Y h es))) [] := by
 refine a5H a1e_is (by simp) (by decide) rfl ?_
 simp -dsimp [a7d_order, ckIV]
 intro L _ hL _
 refine b7Y [] [] (fun left last => ⟨[(20, .ptr 20 0), (0, .iv (ckIV h es es)), (3, .mpr 15)], [(20, .iter skS (gPi es) left last), (15, .map skW (b2X fun t o => (stOf es t = 5 ∧ o ∈ spots es t) ∧ [Value.int .i64 t] ∉ left))]⟩)
   (fun left => ∀ k, k ∈ left → k ∈ L) L ?_ (fun _ h => h) ?_
 · have h0 : (b2X fun t o => (stOf es t = 5 ∧ o ∈ spots es t) ∧ [Value.int .i64 t] ∉ L) = fun _ => none := by
     rw [← b3X]
     refine b4X fun t o => ⟨?_, fun g => g.elim⟩
     rintro ⟨⟨_, g⟩, g2⟩
     refine g2 ((hL _).2 ?_)
     rw [d9k (List.ne_nil_of_mem g)]
     intro g3; cases g3
   simp -dsimp [ckIV, h0]
 · intro left last hq
   simp -dsimp [a1e_l12, ckIV]
   refine ⟨?_, ?_⟩
   · rintro rfl
     have hol := hok.order
     refine a8H [20] [10, 11, 14] h.order.length (fun i => ⟨[(51, vi i), (50, vi h.order.length), (49, .iv (.lst 5 (insC h.order))), (3, .mpr 15), (8, .mpr 44)],
         [(44, .map skM (gMet (h.order.take i))), (15, .map skW (b2X (c5g h es i)))]⟩) (fun i => Upto i fun i => ∀ o, h.order[i]? = some o → b8Y h es i o) ?_ ?_ ?_
     · have h0 : (b2X fun t o => (stOf es t = 5 ∧ o ∈ spots es t) ∧ ¬[Value.int .i64 t] ∈ ([] : List (List Value))) = b2X (c5g h es 0) := b4X fun t o => by simp [c5g]
       simp -dsimp [b2Y]
       simpa using h0
     · exact c2Z
     · intro i hi hqi
       simp -dsimp [a1e_l31]
       refine ⟨fun hlt => ?_, fun hge => ?_⟩
       · obtain ⟨o, ho⟩ := c3Z hlt
         have hw := c4Z (n := (i : Int) + 1) (by omega)
         have hml := b1Y (h.order.take i) o.table o.key
         rw [List.length_take] at hml
         have hw1 := c4Z (n := (metN (h.order.take i) o.table o.key : Int) + 1) (by omega)
         have hm0 := b0Y (l := h.order.take i) (table := o.table) (k := o.key)
         have hno : ¬b8Y h es i o → ¬b9Y h es := fun g1 g => g1 (g.1 i hlt o ho)
         by_cases hm : metN (h.order.take i) o.table o.key = 0
         · have hg : gMet (h.order.take i) [.int .i64 o.table, .bool o.key.text, .int .i64 o.key.n, .string o.key.s] = none := by simp [gMet, hm]
           have hset := b3Y (h.order.take i) o
           rw [hm] at hset
           have hw1' : IntKind.i64.wrap 1 = 1 := by rw [IntKind.wrap_i64]; omega
           have hset' : gset (gMet (h.order.take i)) [.int .i64 o.table, .bool o.key.text, .int .i64 o.key.n, .string o.key.s] (some [ci 1]) = gMet (h.order.take (i + 1)) := by rw [c7S ho]; exact hset
           have hm1 : metN (h.order.take (i + 1)) o.table o.key = 1 := by rw [c7S ho, b9X, hm, if_pos ⟨rfl, rfl⟩]
           have htl := hok.txns o (List.mem_of_getElem? ho)
           have hLo : ∀ t, c5g h es i t (o.table, o.key) ↔ stOf es t = 5 ∧ (o.table, o.key) ∈ spots es t := fun t =>
             ⟨fun g => g.1, fun g => ⟨g, fun ⟨x, g1, g2, _⟩ => hm0.1 hm x g1 g2⟩⟩
           simp -dsimp [ho, Ins.cells_eq o, hg, hm, hw1', hset', hm1]
           constructor
           all_goals
             intro n
             refine ⟨fun g => hno fun g2 => absurd g2.2.1 (by rw [g]; simp), fun hne => ?_⟩
             refine a8H [10] [14] o.txns.length (fun k => ⟨[(79, vi k), (78, vi o.txns.length), (77, .iv (.lst 1 (c6Z o.txns))), (11, .ptr 11 0), (51, vi i), (50, vi h.order.length), (49, .iv (.lst 5 (insC h.order))), (3, .mpr 15), (8, .mpr 44)],
                 [(11, .box [.iv (ci o.table), .iv (cb o.key.text), .iv (ci o.key.n), .iv (.v (.string o.key.s))]), (44, .map skM (gMet (h.order.take (i + 1)))), (15, .map skW (b2X fun t x => c5g h es i t x ∧ ¬(x = (o.table, o.key) ∧ t ∈ o.txns.take k)))]⟩)
               (fun k => Upto k fun k => ∀ t, o.txns[k]? = some t → stOf es t = 5 ∧ (o.table, o.key) ∈ spots es t ∧ t ∉ o.txns.take k) ?_ ?_ ?_
             · simp -dsimp
             · exact c2Z
             · intro k hk hqk
               simp -dsimp [a1e_l29]
               refine ⟨fun hklt => ?_, fun hkge => ?_⟩
               · obtain ⟨t, htk⟩ := c3Z hklt
                 have hwk := c4Z (n := (k : Int) + 1) (by omega)
                 simp -dsimp [htk, hwk, b7X]
                 refine ⟨fun g => hno fun g2 => ?_, fun g1 g2 => ⟨hklt, ?_, hqk.succ fun t' ht' => ?_⟩⟩
                 · obtain ⟨a1, a2, a3⟩ := g2.2.2 k hklt t htk
                   exact a3 (g ((hLo t).2 ⟨a1, a2⟩))
                 · refine (b6X _ t (o.table, o.key)).trans (b4X fun t' x => ?_)
                   rw [c7S htk, List.mem_append, List.mem_singleton]
                   constructor
                   · rintro ⟨⟨a1, a2⟩, a3⟩
                     exact ⟨a1, fun e g => g.elim (a2 e) fun e2 => a3 ⟨e2, e⟩⟩
                   · rintro ⟨a1, a2⟩
                     exact ⟨⟨a1, fun e g => a2 e (.inl g)⟩, fun g => a2 g.2 (.inr g.1)⟩
                 · rw [htk] at ht'; cases ht'
                   exact ⟨((hLo t).1 g1).1, ((hLo t).1 g1).2, g2⟩
               · simp -dsimp [hw]
                 refine ⟨hlt, b4X fun t x => ?_, Upto.succ hqi fun o' ho' => ?_⟩
                 · rw [List.take_of_length_le hkge]
                   unfold c5g
                   rw [c7S ho]
                   constructor
                   · rintro ⟨⟨a1, a2⟩, a3⟩
                     refine ⟨a1, ?_⟩
                     rintro ⟨y, b1, b2, b3⟩
                     rcases List.mem_append.1 b1 with b1 | b1
                     · exact a2 ⟨y, b1, b2, b3⟩
                     · simp only [List.mem_singleton] at b1; subst b1
                       exact a3 (by rw [b2.1, b2.2]) b3
                   · rintro ⟨a1, a2⟩
                     refine ⟨⟨a1, fun ⟨y, b1, b2, b3⟩ => a2 ⟨y, List.mem_append_left _ b1, b2, b3⟩⟩, fun e g => a2 ⟨o, by simp, ?_, g⟩⟩
                     subst e; exact ⟨rfl, rfl⟩
                 · rw [ho] at ho'; cases ho'
                   exact ⟨hm0.1 hm, List.length_pos_iff.2 hne, fun j hj => hqk j (by omega)⟩
         · have hn : ¬b8Y h es i o := fun g => hm (hm0.2 g.1)
           obtain ⟨c, hc⟩ : ∃ c, gMet (h.order.take i) [.int .i64 o.table, .bool o.key.text, .int .i64 o.key.n, .string o.key.s] = some c := ⟨_, by simp only [gMet]; rw [if_neg hm]⟩
           have hc1 : c = [ci (metN (h.order.take i) o.table o.key)] := by
             simp only [gMet] at hc
             rw [if_neg hm] at hc
             exact (Option.some.inj hc).symm
           have hgt : (1 : Int) < (metN (h.order.take i) o.table o.key : Int) + 1 := by omega
           subst hc1
           simp -dsimp [ho, Ins.cells_eq o, hw1, hc, hgt]
           exact hno hn
       · intro n hn
         have h2 : (n = 0) ↔ b9Y h es := by
           rw [hn, b8X]
           have hi' : i = h.order.length := by omega
           subst hi'
           unfold b9Y c5g
           rw [List.take_length]
           constructor
           · intro g
             refine ⟨hqi, fun t o g1 g2 => ?_⟩
             have := g t o
             exact Classical.byContradiction fun g3 => this ⟨⟨g1, g2⟩, g3⟩
           · rintro ⟨_, g⟩ t o ⟨⟨g1, g2⟩, g3⟩
             exact g3 (g t o g1 g2)
         rw [c9Y, ← h2]
         simp
   · intro k c hk hc hkd
     obtain ⟨txn, rfl, hsp, rfl⟩ := b4Y hc
     simp -dsimp [hc]
     by_cases h5 : stOf es txn = 5
     · have hsl := d7k es txn
       simp -dsimp [h5]
       refine a8H [] [7] (spots es txn).length (fun i => ⟨[(35, vi i), (34, vi (spots es txn).length), (33, .iv (.lst 4 ((spots es txn).map obC))), (4, vi txn), (20, .ptr 20 0), (0, .iv (ckIV h es es)), (3, .mpr 15)],
           [(20, .iter skS (gPi es) (rmk [.int .i64 txn] left) (some [.int .i64 txn])), (15, .map skW (b2X fun t o => ((stOf es t = 5 ∧ o ∈ spots es t) ∧ [Value.int .i64 t] ∉ left) ∨ (t = txn ∧ o ∈ (spots es txn).take i)))]⟩) (fun _ => True) ?_ trivial ?_
       · simp -dsimp [ckIV]
       · intro i hi _
         simp -dsimp [a1e_l11, ckIV]
         refine ⟨fun hlt => ?_, fun hge => ?_⟩
         · obtain ⟨o, ho⟩ := c3Z hlt
           have hw := c4Z (n := (i : Int) + 1) (by omega)
           simp -dsimp [ho, obC, hw, b5X, c7S ho]
           exact ⟨hlt, b4X fun t x => by grind⟩
         · refine ⟨_, hk, ⟨rfl, b4X fun t x => ?_⟩, fun q hq' => hq q (b6Y.1 hq').1⟩
           rw [List.take_of_length_le hge, b6Y]
           constructor
           · rintro (⟨g1, g2⟩ | ⟨rfl, g⟩)
             · exact ⟨g1, fun g => g2 g.1⟩
             · exact ⟨⟨h5, g⟩, fun g => g.2 rfl⟩
           · rintro ⟨⟨g1, g2⟩, g3⟩
             by_cases e : t = txn
             · subst e; exact .inr ⟨rfl, g2⟩
             · exact .inl ⟨⟨g1, g2⟩, fun g => g3 ⟨g, fun e2 => e (by cases e2; rfl)⟩⟩
     · simp -dsimp [h5]
       refine ⟨_, hk, ⟨rfl, b4X fun t x => ?_⟩, fun q hq' => hq q (b6Y.1 hq').1⟩
       rw [b6Y]
       constructor
       · rintro ⟨g1, g2⟩; exact ⟨g1, fun g => g2 g.1⟩
       · rintro ⟨⟨g1, g2⟩, g3⟩
         exact ⟨⟨g1, g2⟩, fun g => g3 ⟨g, fun e2 => h5 (by cases e2; exact g1)⟩⟩
end Go.Rt
end

section
namespace Go.Rt
open Go.Vm
def AskA (h : Hs) (es : List Ev) (e : Ev) : Prop := a4R es e ∧ (e.kind = 2 → c5w h es e) ∧ (e.kind = 4 → b8w h es e)
def b2F (h : Hs) (es : List Ev) (e : Ev) : Prop := a4R es e ∧ (e.kind = 2 → c5w h es e) ∧ (e.kind = 4 → b8w h es e) ∧ (e.kind = 3 → c4w h es e)
noncomputable def esX (h : Hs) (es : List Ev) (e : Ev) : List Ev := @ite _ (AskA h es e) (Classical.propDecidable _) (esW h es e) es
theorem b3F {h : Hs} (ht : h.TbsOk) (htl : h.tables.length < 2 ^ 63) (es : List Ev) (hes : es.length < 2 ^ 40) (e : Ev) (heok : e.Ok) :
   b4z prog false n_a5d [e.av, .ptr 1004 0] ((1004, .box [.ptr 1000 0]) :: ckH h es es es) (vb (ofP (b2F h es e))) ((1004, .box [.ptr 1000 0]) :: ckH h (esF es e) (esX h es e) (esX h es e)) := by
 refine a2J a5d_is (by simp) (by decide) rfl rfl ?_
 have hEF : ¬a4R es e → esF es e = es := fun g => if_neg g
 simp -dsimp [a5d, Ev.av]
 refine a4K (a5R h es es es e) rfl (by simp) (by simp [Ev.av]) (by simp [Ev.av]) (by simp) (by simp) (by simp) (by simp) ?_
 simp -dsimp
 refine ⟨fun h1 => ?_, fun h1 => ?_⟩
 · refine a1G (b7w ht (esF es e) es e) (by simp [ckIV, Ev.av]; rfl) (by simp [ckIV, Ev.av]) ?_
   by_cases h2 : e.kind = 2 → c5w h es e
   · simp -dsimp [c7Y.2 h2]
     refine a1G (b9w ht htl (esF es e) es (by omega) e heok) (by simp [ckIV, Ev.av]; rfl) (by simp [ckIV, Ev.av]) ?_
     by_cases h3 : e.kind = 4 → b8w h es e
     · have hX : esX h es e = esW h es e := if_pos ⟨h1, h2, h3⟩
       rw [hX]
       simp -dsimp [c7Y.2 h3]
       refine a4K (a6R ht (esF es e) es hes e) rfl (by simp) (by simp [Ev.av]) (by simp [Ev.av]) (by simp) (by simp) (by simp) (by simp) ?_
       simp -dsimp [c5S]
       exact ⟨fun g => ⟨h1, h2, h3, g⟩, fun g => g.2.2.2⟩
     · have hX : esX h es e = es := if_neg fun g => h3 g.2.2
       rw [hX]
       simp -dsimp [c8Y.2 h3]
       exact fun g => h3 g.2.2.1
   · have hX : esX h es e = es := if_neg fun g => h2 g.2.1
     rw [hX]
     simp -dsimp [c8Y.2 h2]
     exact fun g => h2 g.2.1
 · have hX : esX h es e = es := if_neg fun g => h1 g.1
   rw [hX]
   exact ⟨fun g => h1 g.1, rfl, rfl⟩
end Go.Rt
end

section
namespace Go.Rt
open Go.Vm
theorem Ev.av_eq (e : Ev) : e.av = .agg ([ci e.txn, ci e.kind, ci e.level, ci e.table, cb e.key.text, ci e.key.n, .v (.string e.key.s), ci e.frm.txn, ci e.frm.n, ci e.n, .lst 3 (rowC e.row),
   ci e.pred.op, ci e.pred.col, cb e.pred.v.text, ci e.pred.v.n, .v (.string e.pred.v.s), cb e.pred.w.text, ci e.pred.w.n, .v (.string e.pred.w.s), .lst 9 (e.pred.l.map Pd.cells), .lst 5 (c8R e.refs), cb e.cur].map .iv) := by
 unfold Ev.av; rw [Ev.cells_eq]
abbrev lkBox (h : Hs) : Ob := .box [.iv (.lst 1 (tbsC h.tables)), .iv (.lst 22 (evsC h.events)), .iv (.lst 5 (insC h.order)), .mpr 11, .mpr 12, .mpr 13]
abbrev lkH (h : Hs) (a b c : List Ev) : Hp := [(3, .box [.ptr 15 0]), (15, lkBox h), (11, .map skS (gS a)), (12, .map skW (gW b)), (13, .mapo skS 4 (gP c) none)]
theorem b4S {h : Hs} (ht : h.TbsOk) (htl : h.tables.length < 2 ^ 63) (es : List Ev) (hes : es.length < 2 ^ 40) (e : Ev) (heok : e.Ok) :
   b4z prog false n_a5d [e.av, .ptr 3 0] (lkH h es es es) (vb (ofP (b2F h es e))) (lkH h (esF es e) (esX h es e) (esX h es e)) := by
 have hs := b3F ht htl es hes e heok
 rw [Ev.av_eq] at hs ⊢
 exact hs.ren (Ren.swaps [(1004, 3), (1000, 15), (1001, 11), (1002, 12), (1003, 13)]) rfl
theorem loop_le {P : Program} {c : VCode} {s s' : St} {O : Outs} (h : Le s s') (k : a9S P c s' O) : a9S P c s O := by
 obtain ⟨I, h3, h4⟩ := k
 exact ⟨I, h3.le h, h4⟩
theorem b5S : gS [] = fun _ => none := by
 funext q; unfold gS; split
 · rfl
 · rfl
theorem b6S : gW [] = fun _ => none := by
 funext q; unfold gW; split
 · rfl
 · rfl
theorem b7S : gP [] = fun _ => none := by
 funext q; unfold gP; split
 · rfl
 · rfl
theorem b8S : okFn prog n_a5d = true := by kernel_rfl
theorem b9S : okFn prog n_a1e = true := by kernel_rfl
def b0T (h : Hs) : Prop := ((1 ≤ h.tables.length ∧ h.tables.length ≤ 3) ∧ Upto h.tables.length fun i => ∀ t, h.tables[i]? = some t → TbOk t) ∧
 (Upto h.events.length fun i => ∀ e, h.events[i]? = some e → b2F h (h.events.take i) e) ∧ b9Y h h.events
noncomputable def b1T (h : Hs) : Int := if ofP (b0T h) = true then 0 else 180
theorem b2T {h : Hs} (hc : b0T h) : b1T h = 0 := if_pos (c7Y.2 hc)
theorem b3T {h : Hs} (hc : ¬b0T h) : b1T h = 180 := if_neg (by simpa using hc)
theorem b4T {h : Hs} (hok : h.Ok) (hev : h.events.length < 2 ^ 40) : b4z prog true n_a9b [h.av] [] (vi (b1T h)) [] := by
 refine a5H a9b_is (by simp) (by decide) rfl ?_
 by_cases hn : 1 ≤ h.tables.length ∧ h.tables.length ≤ 3
 · have n1 : ¬(h.tables.length : Int) < 1 := by omega
   have n2 : ¬(3 : Int) < h.tables.length := by omega
   simp -dsimp [a9b, Hs.av, n1, n2]
   refine loop_le (d4p _ (id := 13) (sk := skS) 4 rfl (by simp)) ?_
   refine a8H [] [7] h.tables.length (fun i => ⟨[(32, vi i), (31, vi h.tables.length), (30, .iv (.lst 1 (tbsC h.tables))), (4, .fn n_a5d [] [.ptr 3 0]), (5, .fn n_a1e [.ptr 15 0] []), (1, .ptr 1 0)],
       (1, .box [.iv (.lst 1 (tbsC h.tables)), .iv (.lst 22 (evsC h.events)), .iv (.lst 5 (insC h.order))]) :: lkH h [] [] []⟩) (fun i => Upto i fun i => ∀ t, h.tables[i]? = some t → TbOk t) ?_ ?_ ?_
   · simp -dsimp [b5S, b6S, b7S]
   · exact c2Z
   · intro i hi hq
     simp -dsimp [a9b_l10]
     refine ⟨fun hlt => ?_, fun hge => ?_⟩
     · obtain ⟨t, hti⟩ := c3Z hlt
       have hw := c4Z (n := (i : Int) + 1) (by omega)
       simp -dsimp [hti]
       refine a1G (d8c t) (by simp [tbAV]) (by simp [tbAV]) ?_
       simp -dsimp [hw]
       refine ⟨fun g => ?_, fun g => ⟨hlt, hq.succ fun t' ht' => by rw [hti] at ht'; cases ht'; exact g⟩⟩
       rw [b3T fun g2 => g (g2.1.2 i hlt t hti)]
     · have hT : h.TbsOk := fun t ht => by
         obtain ⟨j, hj⟩ := List.getElem?_of_mem ht
         exact hq j (by have := (List.getElem?_eq_some_iff.1 hj).1; omega) t hj
       have htl := hok.tables
       refine a8H [] [9] h.events.length (fun i => ⟨[(43, vi i), (42, vi h.events.length), (41, .iv (.lst 22 (evsC h.events))), (4, .fn n_a5d [] [.ptr 3 0]), (5, .fn n_a1e [.ptr 15 0] []), (1, .ptr 1 0)],
           (1, .box [.iv (.lst 1 (tbsC h.tables)), .iv (.lst 22 (evsC h.events)), .iv (.lst 5 (insC h.order))]) :: lkH h (h.events.take i) (h.events.take i) (h.events.take i)⟩)
         (fun i => Upto i fun i => ∀ e, h.events[i]? = some e → b2F h (h.events.take i) e) ?_ ?_ ?_
       · simp -dsimp
       · exact c2Z
       · intro j hj hqj
         simp -dsimp [a9b_l16]
         refine ⟨fun hjlt => ?_, fun hjge => ?_⟩
         · obtain ⟨e, he⟩ := c3Z hjlt
           have hwj := c4Z (n := (j : Int) + 1) (by omega)
           have heok := hok.ev e (List.mem_of_getElem? he)
           have hlen : (h.events.take j).length < 2 ^ 40 := by rw [List.length_take]; omega
           simp -dsimp [he]
           refine ⟨b8S, a4K (b4S hT htl (h.events.take j) hlen e heok) rfl (by simp) (by simp [Ev.av]) (by simp [Ev.av]) (by simp) (by simp) (by simp) (by simp) ?_⟩
           by_cases ha : b2F h (h.events.take j) e
           · have e1 : esF (h.events.take j) e = h.events.take (j + 1) := by rw [c7S he]; exact if_pos ha.1
             have e2 : esX h (h.events.take j) e = h.events.take (j + 1) := by
               rw [c7S he]
               unfold esX
               rw [if_pos ⟨ha.1, ha.2.1, ha.2.2.1⟩]
               exact if_pos fun g => ⟨(ha.2.2.2 g).1, (ha.2.2.2 g).2.1⟩
             simp -dsimp [ha, e1, e2, hwj]
             exact ⟨hjlt, hqj.succ fun e' he' => by rw [he] at he'; cases he'; exact ha⟩
           · simp -dsimp [ha]
             rw [b3T fun g2 => ha (g2.2.1 j hjlt e he)]
         · rw [List.take_of_length_le hjge]
           refine ⟨b9S, a5K (c6g hok h.events hev) (by simp) (by simp [ckIV]; rfl) (by simp [ckIV]) ?_⟩
           simp -dsimp
           constructor
           · intro g
             rw [b2T ⟨⟨hn, fun k hk => hq k (by omega)⟩, fun k hk => hqj k (by omega), g⟩]
           · intro g
             rw [b3T fun g2 => g g2.2.2]
 · have hno : ¬b0T h := fun g => hn g.1.1
   by_cases n1 : (h.tables.length : Int) < 1
   · simp -dsimp [a9b, Hs.av, n1, b3T hno]
   · have n2 : (3 : Int) < h.tables.length := by omega
     simp -dsimp [a9b, Hs.av, n1, n2, b3T hno]
end Go.Rt
end

section
namespace Go.Rt
open Go.Vm
theorem c1i {α : Type} {p : List α → Prop} (nil : p []) (snoc : ∀ (l : List α) (x : α), p l → p (l ++ [x])) (l : List α) : p l := by
 rw [← List.reverse_reverse l]
 induction l.reverse with
 | nil => exact nil
 | cons x r ih => rw [List.reverse_cons]; exact snoc _ _ ih
theorem c2i : ∀ {x y z : List UInt8}, Op.bytesLess x y = true → Op.bytesLess y z = true → Op.bytesLess x z = true
 | _, [], _, h, _ => by simp [Op.bytesLess] at h
 | _, _ :: _, [], _, h => by simp [Op.bytesLess] at h
 | [], _ :: _, _ :: _, _, _ => rfl
 | a :: x, b :: y, c :: z, h1, h2 => by
   simp only [Op.bytesLess, Bool.or_eq_true, decide_eq_true_eq, Bool.and_eq_true, beq_iff_eq] at h1 h2 ⊢
   rcases h1 with h1 | ⟨rfl, h1⟩
   · rcases h2 with h2 | ⟨rfl, h2⟩
     · exact .inl (UInt8.lt_trans h1 h2)
     · exact .inl h1
   · rcases h2 with h2 | ⟨rfl, h2⟩
     · exact .inl h2
     · exact .inr ⟨rfl, c2i h1 h2⟩
theorem c3i {a b : ByteArray} : scmp a b < 0 ↔ c6d a b = true := by
 unfold scmp; split
 · rename_i h; simp [h]
 · rename_i h; split <;> simp [h]
theorem c4i {a b : Int} : icmp a b < 0 ↔ a < b := by
 unfold icmp; split
 · rename_i h; simp [h]
 · rename_i h; split <;> simp [h]
theorem c5i {a b : Vl} : a.cmp b < 0 ↔ (a.text = true ∧ b.text = true ∧ c6d a.s b.s = true) ∨ (a.text = false ∧ b.text = true) ∨ (a.text = false ∧ b.text = false ∧ a.n < b.n) := by
 unfold Vl.cmp
 cases a.text <;> cases b.text <;> simp [c3i, c4i]
theorem c6i {a b c : Vl} (h1 : a.cmp b < 0) (h2 : b.cmp c < 0) : a.cmp c < 0 := by
 rw [c5i] at *
 rcases h1 with ⟨h1, h3, h4⟩ | ⟨h1, h3⟩ | ⟨h1, h3, h4⟩ <;> rcases h2 with ⟨g1, g3, g4⟩ | ⟨g1, g3⟩ | ⟨g1, g3, g4⟩ <;> simp_all
 · exact c2i h4 g4
 · omega
theorem c7i (a : Vl) : ¬a.cmp a < 0 := by
 rw [c5i]
 simp [b1n]
theorem c8i {h : Hs} {es : List Ev} {e : Ev} (hr : Upto e.refs.length (c6w h es e)) : ∀ {i j : Nat}, i < j → ∀ {a b : Rf}, e.refs[i]? = some a → e.refs[j]? = some b → a.key.cmp b.key < 0 := by
 intro i j
 induction j with
 | zero => intro h; omega
 | succ j ih =>
   intro hij a b ha hb
   have hjl := (List.getElem?_eq_some_iff.1 hb).1
   obtain ⟨q, hq⟩ : ∃ q, e.refs[j]? = some q := c3Z (by omega)
   have h1 := (hr (j + 1) hjl b hb).2.2 q (by omega) (by simpa using hq)
   rcases Nat.lt_or_ge i j with h2 | h2
   · exact c6i (ih h2 ha hq) h1
   · obtain rfl : i = j := by omega
     rw [ha] at hq; cases hq; exact h1
theorem c9i {l : List Rf} (hu : ∀ a b, a ∈ l → b ∈ l → a.key = b.key → a = b) : ∀ k v, d3k l k = some v ↔ c9w l k v := by
 intro k v
 have key : ∀ (l' : List Rf), (∀ a, a ∈ l' → a ∈ l) → (d3k l' k = some v ↔ c9w l' k v) := by
   intro l'
   induction l' using c1i with
   | nil => intro _; simp [d3k]
   | snoc l' r ih =>
     intro hs
     have ih := ih fun a ha => hs a (List.mem_append_left _ ha)
     rw [d4k]
     have hthere : c9w (l' ++ [r]) k v ↔ c9w l' k v ∨ (r.key = k ∧ r.frm = v) := by
       rw [c1x, ← Vl.eq_iff, ← Vs.eq_iff]
     rw [hthere]
     by_cases hk : r.key = k
     · rw [if_pos hk]
       constructor
       · intro g; exact .inr ⟨hk, Option.some.inj g⟩
       · rintro (⟨q, g1, g2, g3⟩ | ⟨_, g⟩)
         · have := hu q r (hs q (List.mem_append_left _ g1)) (hs r (by simp)) (by rw [g2, hk])
           subst this; rw [g3]
         · rw [g]
     · rw [if_neg hk, ih]
       exact ⟨.inl, fun g => g.elim id fun g => absurd g.1 hk⟩
 exact key l fun _ h => h
theorem c0j {h : Hs} {es : List Ev} {e : Ev} (hr : Upto e.refs.length (c6w h es e)) : ∀ a b, a ∈ e.refs → b ∈ e.refs → a.key = b.key → a = b := by
 intro a b ha hb hk
 obtain ⟨i, hi⟩ := List.getElem?_of_mem ha
 obtain ⟨j, hj⟩ := List.getElem?_of_mem hb
 rcases Nat.lt_trichotomy i j with h1 | h1 | h1
 · have := c8i hr h1 hi hj; rw [hk] at this; exact absurd this (c7i _)
 · subst h1; rw [hi] at hj; exact Option.some.inj hj
 · have := c8i hr h1 hj hi; rw [hk] at this; exact absurd this (c7i _)
def c1j (es : List Ev) : Prop := ∀ t, (¬c8S es t ∧ c9S es t ∧ stOf es t = 0 ∧ b4k es t = 0) ∨ (c8S es t ∧ c9S es t ∧ stOf es t = 1 ∧ b4k es t = 0) ∨
 (c8S es t ∧ ¬c9S es t ∧ stOf es t = b4k es t ∧ (b4k es t = 5 ∨ b4k es t = 6))
theorem c1j.nil : c1j [] := fun t => .inl ⟨by simp, by simp, rfl, rfl⟩
theorem c1j.ck {es : List Ev} (hs : c1j es) (e : Ev) : a4R es e ↔ c4T es e := by
 unfold a4R c4T
 rcases hs e.txn with ⟨h1, h2, h3, h4⟩ | ⟨h1, h2, h3, h4⟩ | ⟨h1, h2, h3, h4⟩
 · rw [h3]; simp only [h1, h2]; grind
 · rw [h3]; simp only [h1, h2]; grind
 · rw [h3]; simp only [h1, h2]; grind
theorem c2j {es : List Ev} {t : Int} : c9S es t ↔ ∀ x, x ∈ es → ¬x.ends t := by
 unfold c9S Ev.ends
 constructor
 · rintro h x hx ⟨h1, h2⟩; have := h x hx h1; omega
 · intro h x hx h1; have := h x hx; constructor <;> (intro h2; exact this ⟨h1, by omega⟩)
theorem c3j {es r : List Ev} {t : Int} (h : c9S es t) : b4k (es ++ r) t = b4k r t := by
 rw [c2j] at h
 induction es with
 | nil => rfl
 | cons x es ih =>
   rw [List.cons_append, b4k, if_neg (h x List.mem_cons_self)]
   exact ih fun y hy => h y (List.mem_cons_of_mem _ hy)
theorem c4j {es r : List Ev} {t : Int} (h : ¬c9S es t) : b4k (es ++ r) t = b4k es t := by
 rw [c2j] at h
 induction es with
 | nil => exact absurd (fun x hx => by cases hx) h
 | cons x es ih =>
   rw [List.cons_append, b4k, b4k]
   by_cases hx : x.ends t
   · rw [if_pos hx, if_pos hx]
   · rw [if_neg hx, if_neg hx]
     refine ih fun g => h fun y hy => ?_
     rcases List.mem_cons.1 hy with rfl | hy
     · exact hx
     · exact g y hy
theorem c5j (e : Ev) (t : Int) : b4k [e] t = if e.ends t then e.kind else 0 := by rw [b4k]; rfl
theorem c1j.next {es : List Ev} (hs : c1j es) {e : Ev} (hf : c4T es e) : c1j (es ++ [e]) := by
 intro t
 obtain ⟨f1, f2, f3, f4, f5, f6⟩ := hf
 rw [c2T, c3T, d2k]
 by_cases ht : e.txn = t
 · subst ht
   rw [c3j f4, c5j]
   have hends : e.ends e.txn ↔ e.kind = 5 ∨ e.kind = 6 := ⟨fun g => g.2, fun g => ⟨rfl, g⟩⟩
   rcases hs e.txn with ⟨h1, h2, h3, h4⟩ | ⟨h1, h2, h3, h4⟩ | ⟨h1, h2, h3, h4⟩
   · have k1 : e.kind = 1 := Classical.byContradiction fun g => h1 (f6 g)
     right; left
     have : ¬e.ends e.txn := fun g => by have := hends.1 g; omega
     simp [k1, h2, this]
   · have k1 : e.kind ≠ 1 := fun g => (f5 g).1 h1
     by_cases k5 : e.kind = 5 ∨ e.kind = 6
     · right; right
       rw [if_pos ⟨rfl, .inr k5⟩, if_pos (hends.2 k5)]
       refine ⟨.inl h1, ?_, rfl, k5⟩
       rintro ⟨_, g⟩
       have := g rfl
       omega
     · right; left
       rw [if_neg (by rintro ⟨_, g⟩; omega), if_neg (fun g => k5 (hends.1 g))]
       exact ⟨.inl h1, ⟨h2, fun _ => by omega⟩, h3, rfl⟩
   · exact absurd f4 h2
 · have e1 : stOf es t = stOf es t := rfl
   rw [if_neg fun g => ht g.1]
   have e2 : b4k (es ++ [e]) t = b4k es t := by
     by_cases hn : c9S es t
     · rw [c3j hn, c5j, if_neg fun g => ht g.1]
       exact (b5k fun x hx => c2j.1 hn x hx).symm
     · exact c4j hn
   rw [e2]
   have e3 : (c8S es t ∨ e.txn = t) ↔ c8S es t := ⟨fun g => g.elim id fun g => absurd g ht, .inl⟩
   have e4 : (c9S es t ∧ (e.txn = t → e.kind ≠ 5 ∧ e.kind ≠ 6)) ↔ c9S es t := ⟨fun g => g.1, fun g => ⟨g, fun g2 => absurd g2 ht⟩⟩
   rw [e3, e4]
   exact hs t
def c6j (es : List Ev) : Prop := Upto es.length fun i => ∀ e, es[i]? = some e → c4T (es.take i) e
theorem c7j {α : Type} {l : List α} {x : α} {p : List α → α → Prop} : (Upto (l ++ [x]).length fun i => ∀ e, (l ++ [x])[i]? = some e → p ((l ++ [x]).take i) e) ↔
   (Upto l.length fun i => ∀ e, l[i]? = some e → p (l.take i) e) ∧ p l x := by
 constructor
 · intro h
   refine ⟨fun i hi e he => ?_, ?_⟩
   · have := h i (by rw [List.length_append]; omega) e (by rw [List.getElem?_append_left hi]; exact he)
     rwa [List.take_append_of_le_length (by omega)] at this
   · have := h l.length (by simp) x (by simp)
     rwa [List.take_left] at this
 · rintro ⟨h1, h2⟩ i hi e he
   by_cases hl : i < l.length
   · rw [List.getElem?_append_left hl] at he
     rw [List.take_append_of_le_length (by omega)]
     exact h1 i hl e he
   · have : i = l.length := by simp at hi; omega
     subst this
     rw [List.take_left]
     simp at he
     subst he
     exact h2
theorem c6j.stands {es : List Ev} : c6j es → c1j es := by
 induction es using c1i with
 | nil => exact fun _ => c1j.nil
 | snoc es e ih => intro h; have := c7j.1 h; exact (ih this.1).next this.2
def c8j (es : List Ev) : Prop := Upto es.length fun i => ∀ e, es[i]? = some e → e.kind = 3 → e.n = c2S (es.take i) e.txn e.table e.key + 1
theorem c8j.spots {es : List Ev} : c8j es → ∀ t o, o ∈ spots es t ↔ 0 < c2S es t o.1 o.2 := by
 induction es using c1i with
 | nil => intro _ t o; simp [Go.Rt.spots, c2S]
 | snoc es e ih =>
   intro h t o
   have h2 := (c7j (p := fun (es : List Ev) (e : Ev) => e.kind = 3 → e.n = c2S es e.txn e.table e.key + 1)).1 h
   rw [d5l, d2l, List.mem_append, ih h2.1 t o]
   obtain ⟨tab, k⟩ := o
   by_cases hw : e.isW t tab k = true
   · rw [if_pos hw]
     obtain ⟨w1, w2, w3, w4⟩ := Ev.isW_iff.1 hw
     have hk := Vl.eq_iff.2 w4
     subst w2 w3 hk
     have hn := h2.2 w1
     by_cases h0 : 0 < c2S es e.txn e.table e.key
     · simp [h0]
     · rw [if_pos ⟨w1, rfl, by omega⟩]; simp
   · rw [if_neg hw, Nat.add_zero]
     constructor
     · rintro (g | g)
       · exact g
       · split at g
         · rename_i c
           simp only [List.mem_singleton, Prod.mk.injEq] at g
           exact absurd (Ev.isW_iff.2 ⟨c.1, c.2.1, g.1.symm, by rw [g.2], by rw [g.2], by rw [g.2]⟩) hw
         · cases g
     · exact .inl
theorem c9j {es : List Ev} {t tab : Int} {k : Vl} : 0 < c2S es t tab k ↔ ∃ x, x ∈ es ∧ x.kind = 3 ∧ x.txn = t ∧ x.table = tab ∧ x.key = k := by
 unfold c2S
 rw [List.length_pos_iff_exists_mem]
 constructor
 · rintro ⟨x, hx⟩
   obtain ⟨h1, h2⟩ := List.mem_filter.1 hx
   obtain ⟨w1, w2, w3, w4⟩ := Ev.isW_iff.1 h2
   exact ⟨x, h1, w1, w2, w3, Vl.eq_iff.2 w4⟩
 · rintro ⟨x, h1, w1, w2, w3, w4⟩
   exact ⟨x, List.mem_filter.2 ⟨h1, Ev.isW_iff.2 ⟨w1, w2, w3, Vl.eq_iff.1 w4⟩⟩⟩
theorem c0k {h : Hs} {es : List Ev} (hc : c8j es) {e : Ev} (he : 1 ≤ e.txn) : b8w h es e ↔ c8w h es e := by
 unfold b8w c8w
 refine and_congr_right fun _ => and_congr_right fun hr => ?_
 have hl := c9i (c0j hr)
 constructor
 · intro g x hx k3 k1 k2
   have hpos : 0 < c2S es e.txn x.table x.key := c9j.2 ⟨x, hx, k3, k1, rfl, rfl⟩
   have := g (x.table, x.key) ((hc.spots _ _).2 hpos) k2
   rw [k2] at this
   cases hlr : d3k e.refs x.key with
   | none => rw [hlr] at this; have := congrArg Vs.txn this; simp at this; omega
   | some v => rw [hlr] at this; simp only [Option.getD_some] at this; subst this; exact (hl _ _).1 hlr
 · rintro g ⟨tab, k⟩ ho rfl
   have hpos := (hc.spots _ _).1 ho
   obtain ⟨x, hx, k3, k1, k2, rfl⟩ := c9j.1 hpos
   have := g x hx k3 k1 k2
   have h5 := (hl _ _).2 this
   simp only
   rw [h5]
   rfl
theorem c1k {h : Hs} {es : List Ev} (hs : c1j es) (hc : c8j es) {e : Ev} : b2F h es e ↔ b0x h es e := by
 unfold b2F b0x
 rw [hs.ck]
 constructor
 · rintro ⟨h1, h2, h3, h4⟩; exact ⟨h1, h2, h4, fun g => (c0k hc h1.1).1 (h3 g)⟩
 · rintro ⟨h1, h2, h3, h4⟩; exact ⟨h1, h2, fun g => (c0k hc h1.1).2 (h4 g), h3⟩
def c2k (h : Hs) (es : List Ev) : Prop := Upto es.length fun i => ∀ e, es[i]? = some e → b0x h (es.take i) e
theorem c2k.good {h : Hs} {es : List Ev} (g : c2k h es) : c6j es ∧ c8j es :=
 ⟨fun i hi e he => (g i hi e he).1, fun i hi e he k3 => ((g i hi e he).2.2.1 k3).2.1⟩
theorem c3k {h : Hs} (es : List Ev) : (Upto es.length fun i => ∀ e, es[i]? = some e → b2F h (es.take i) e) ↔ c2k h es := by
 induction es using c1i with
 | nil => exact ⟨fun _ => c2Z, fun _ => c2Z⟩
 | snoc es e ih =>
   unfold c2k
   rw [c7j (p := b2F h), c7j (p := b0x h), ih]
   refine and_congr_right fun g => ?_
   exact c1k g.good.1.stands g.good.2
theorem c4k {es : List Ev} (hs : c1j es) (t : Int) : stOf es t = 5 ↔ b4k es t = 5 := by
 rcases hs t with ⟨_, _, h3, h4⟩ | ⟨_, _, h3, h4⟩ | ⟨_, _, h3, h4⟩ <;> omega
theorem c5k {h : Hs} (hs : c1j h.events) (hc : c8j h.events) : b9Y h h.events ↔
   (Upto h.order.length fun i => ∀ o, h.order[i]? = some o → b3x h i o) ∧ Upto h.events.length fun i => ∀ e, h.events[i]? = some e → b2x h e := by
 unfold b9Y
 refine and_congr ?_ ?_
 · have key : ∀ i o, b8Y h h.events i o ↔ b3x h i o := by
     intro i o
     unfold b8Y b3x
     constructor
     · rintro ⟨h1, h2, h3⟩
       exact ⟨h1, fun k hk t ht => ⟨(c4k hs t).1 (h3 k hk t ht).1, Nat.pos_iff_ne_zero.1 ((hc.spots _ _).1 (h3 k hk t ht).2.1), (h3 k hk t ht).2.2⟩, h2⟩
     · rintro ⟨h1, h2, h3⟩
       exact ⟨h1, h3, fun k hk t ht => ⟨(c4k hs t).2 (h2 k hk t ht).1, (hc.spots _ _).2 (Nat.pos_iff_ne_zero.2 (h2 k hk t ht).2.1), (h2 k hk t ht).2.2⟩⟩
   constructor
   · intro g i hi o ho; exact (key i o).1 (g i hi o ho)
   · intro g i hi o ho; exact (key i o).2 (g i hi o ho)
 · constructor
   · intro g i hi e he k3 k5
     have hm := List.mem_of_getElem? he
     exact g e.txn (e.table, e.key) ((c4k hs _).2 k5) ((hc.spots _ _).2 (c9j.2 ⟨e, hm, k3, rfl, rfl, rfl⟩))
   · rintro g t ⟨tab, k⟩ h1 h2
     obtain ⟨x, hx, k3, rfl, rfl, rfl⟩ := c9j.1 ((hc.spots _ _).1 h2)
     obtain ⟨i, hi⟩ := List.getElem?_of_mem hx
     exact g i (List.getElem?_eq_some_iff.1 hi).1 x hi k3 ((c4k hs _).1 h1)
theorem c6k (h : Hs) : b0T h ↔ b5x h := by
 unfold b0T b5x
 rw [c3k]
 have hT : ((1 ≤ h.tables.length ∧ h.tables.length ≤ 3) ∧ Upto h.tables.length fun i => ∀ t, h.tables[i]? = some t → TbOk t) ↔ b4x h := by
   unfold b4x
   refine and_congr_right fun _ => ?_
   constructor
   · intro g t ht
     obtain ⟨j, hj⟩ := List.getElem?_of_mem ht
     exact g j (List.getElem?_eq_some_iff.1 hj).1 t hj
   · intro g i hi t ht; exact g t (List.mem_of_getElem? ht)
 rw [hT]
 refine and_congr_right fun _ => ?_
 constructor
 · rintro ⟨g1, g2⟩
   have g3 := (c5k g1.good.1.stands g1.good.2).1 g2
   exact ⟨fun i hi e he => ⟨g1 i hi e he, g3.2 i hi e he⟩, g3.1⟩
 · rintro ⟨g1, g2⟩
   have g4 : c2k h h.events := fun i hi e he => (g1 i hi e he).1
   exact ⟨g4, (c5k g4.good.1.stands g4.good.2).2 ⟨g2, fun i hi e he => (g1 i hi e he).2⟩⟩
end Go.Rt
end

section
namespace Go.Rt
open Go.Vm
structure Eg where
 frm : Int
 to : Int
 kind : Int
 table : Int
 key : Vl
 cursor : Bool
 deriving DecidableEq
def Eg.cells (e : Eg) : List IV := [ci e.frm, ci e.to, ci e.kind, ci e.table, cb e.key.text, ci e.key.n, .v (.string e.key.s), cb e.cursor]
theorem Eg.cells_eq (e : Eg) : e.cells = [ci e.frm, ci e.to, ci e.kind, ci e.table, cb e.key.text, ci e.key.n, .v (.string e.key.s), cb e.cursor] := rfl
def Eg.av (e : Eg) : AV := .agg (e.cells.map .iv)
def egsC (l : List Eg) : List (List IV) := l.map Eg.cells
def b7v (l : List Eg) : IV := .lst 8 (egsC l)
@[simp] theorem egsC_len (l : List Eg) : (egsC l).length = l.length := by simp [egsC]
@[simp] theorem egsC_get (l : List Eg) (i : Nat) : (egsC l)[i]? = (l[i]?).map Eg.cells := by simp [egsC]
theorem Eg.eq_iff {a b : Eg} : a = b ↔ a.frm = b.frm ∧ a.to = b.to ∧ a.kind = b.kind ∧ a.table = b.table ∧ a.key = b.key ∧ a.cursor = b.cursor := by
 obtain ⟨a1, a2, a3, a4, a5, a8⟩ := a
 obtain ⟨b1, b2, b3, b4, b5, b8⟩ := b
 simp
end Go.Rt
end

section
namespace Go.Rt
open Go.Vm
structure CmpOk {α : Type} (c : α → α → Int) : Prop where
 anti : ∀ a b, c a b < 0 ↔ 0 < c b a
 trans : ∀ a b d, c a b ≤ 0 → c b d ≤ 0 → c a d ≤ 0
def lexC {α : Type} (c1 c2 : α → α → Int) (a b : α) : Int := if c1 a b ≠ 0 then c1 a b else c2 a b
theorem CmpOk.lex {α : Type} {c1 c2 : α → α → Int} (h1 : CmpOk c1) (h2 : CmpOk c2) : CmpOk (lexC c1 c2) where
 anti := fun a b => by
   have p1 := h1.anti a b
   have p2 := h1.anti b a
   have q1 := h2.anti a b
   unfold lexC
   by_cases e : c1 a b = 0
   · have e2 : c1 b a = 0 := by omega
     rw [if_neg (by simpa using e), if_neg (by simpa using e2)]; exact q1
   · have e2 : c1 b a ≠ 0 := by omega
     rw [if_pos e, if_pos e2]; exact p1
 trans := fun a b d hab hbd => by
   have p1 := h1.anti a b
   have p2 := h1.anti b a
   have p3 := h1.anti b d
   have p4 := h1.anti d b
   have p5 := h1.anti a d
   have p6 := h1.anti d a
   have t1 := h1.trans a b d
   have t2 := h1.trans d a b
   have t3 := h1.trans b d a
   have q := h2.trans a b d
   unfold lexC at hab hbd ⊢
   split at hab <;> split at hbd <;> split <;> omega
theorem CmpOk.sub {α : Type} (f : α → Int) : CmpOk fun a b => f a - f b := ⟨fun a b => by omega, fun a b d h1 h2 => by omega⟩
theorem CmpOk.of {α β : Type} (f : α → β) {c : β → β → Int} (h : CmpOk c) : CmpOk fun a b => c (f a) (f b) := ⟨fun a b => h.anti _ _, fun a b d => h.trans _ _ _⟩
theorem b3G : ∀ (x y : List UInt8), Op.bytesLess x y = true ∨ x = y ∨ Op.bytesLess y x = true
 | [], [] => .inr (.inl rfl)
 | [], _ :: _ => .inl rfl
 | _ :: _, [] => .inr (.inr rfl)
 | a :: x, b :: y => by
   simp only [Op.bytesLess, Bool.or_eq_true, decide_eq_true_eq, Bool.and_eq_true, beq_iff_eq, List.cons.injEq]
   have hab : a < b ∨ a = b ∨ b < a := by
     rw [UInt8.lt_iff_toNat_lt, UInt8.lt_iff_toNat_lt, ← UInt8.toNat_inj]; omega
   rcases hab with h | rfl | h
   · exact .inl (.inl h)
   · rcases b3G x y with h | rfl | h
     · exact .inl (.inr ⟨rfl, h⟩)
     · exact .inr (.inl ⟨rfl, rfl⟩)
     · exact .inr (.inr (.inr ⟨rfl, h⟩))
   · exact .inr (.inr (.inl h))
theorem b4G (a b : ByteArray) : c6d a b = true ∨ a = b ∨ c6d b a = true := by
 unfold c6d
 rcases b3G a.toList b.toList with h | h | h
 · exact .inl h
 · rw [b4n, b4n] at h
   exact .inr (.inl (by cases a; cases b; congr; exact Array.ext' h))
 · exact .inr (.inr h)
theorem b5G {a b c : ByteArray} (h1 : c6d a b = true) (h2 : c6d b c = true) : c6d a c = true := c2i h1 h2
theorem b6G {a b : ByteArray} (h1 : c6d a b = true) : c6d b a = false := by
 cases h : c6d b a with
 | false => rfl
 | true => have := b5G h1 h; rw [b1n] at this; cases this
theorem b7G : CmpOk scmp where
 anti := fun a b => by
   rw [c3i]
   unfold scmp
   rcases b4G a b with h | rfl | h
   · have hne : b ≠ a := by rintro rfl; rw [b1n] at h; cases h
     simp [h, b6G h, hne]
   · simp [b1n]
   · simp [h, b6G h]
 trans := fun a b d h1 h2 => by
   have le : ∀ x y : ByteArray, scmp x y ≤ 0 ↔ c6d x y = true ∨ x = y := by
     intro x y
     unfold scmp
     by_cases h : c6d x y = true
     · simp [h]
     · by_cases h' : x = y
       · subst h'; simp [b1n]
       · simp [h, h']
   rw [le] at *
   rcases h1 with h1 | rfl
   · rcases h2 with h2 | rfl
     · exact .inl (b5G h1 h2)
     · exact .inl h1
   · exact h2
theorem b8G : CmpOk icmp where
 anti := fun a b => by unfold icmp; split <;> split <;> (try split) <;> omega
 trans := fun a b d h1 h2 => by
   have le : ∀ x y : Int, icmp x y ≤ 0 ↔ x ≤ y := by
     intro x y
     unfold icmp
     by_cases h : x < y
     · rw [if_pos h]; omega
     · by_cases h' : y < x
       · rw [if_neg h, if_pos h']; omega
       · rw [if_neg h, if_neg h']; omega
   rw [le] at *; omega
theorem b9G : CmpOk Vl.cmp where
 anti := fun a b => by
   have h1 := b7G.anti a.s b.s
   have h2 := b8G.anti a.n b.n
   unfold Vl.cmp
   cases a.text <;> cases b.text <;> simp [h1, h2]
 trans := fun a b d => by
   have h1 := b7G.trans a.s b.s d.s
   have h2 := b8G.trans a.n b.n d.n
   unfold Vl.cmp
   cases a.text <;> cases b.text <;> cases d.text <;> simp <;> assumption
theorem b0H {a b : Vl} (ha : a.right = true) (hb : b.right = true) (h : a.cmp b = 0) : a = b := by
 rw [Vl.eq_iff]
 unfold Vl.right at ha hb
 unfold Vl.cmp at h
 cases hta : a.text <;> cases htb : b.text <;> simp only [hta, htb, if_true, if_false, Bool.false_eq_true] at h ha hb
 · unfold icmp at h
   refine ⟨rfl, by split at h <;> (try split at h) <;> omega, ?_⟩
   simp_all
 · omega
 · omega
 · unfold scmp at h
   have hs : a.s = b.s := by
     split at h
     · omega
     · split at h
       · assumption
       · omega
   simp_all
def Eg.cmp0 (a b : Eg) : Int :=
 if IntKind.i64.wrap (a.frm - b.frm) ≠ 0 then IntKind.i64.wrap (a.frm - b.frm)
 else if IntKind.i64.wrap (a.to - b.to) ≠ 0 then IntKind.i64.wrap (a.to - b.to)
 else if IntKind.i64.wrap (a.kind - b.kind) ≠ 0 then IntKind.i64.wrap (a.kind - b.kind)
 else if IntKind.i64.wrap (a.table - b.table) ≠ 0 then IntKind.i64.wrap (a.table - b.table)
 else a.key.cmp b.key
def Eg.cmp (a b : Eg) : Int := if a.cmp0 b ≠ 0 ∨ a.cursor = b.cursor then a.cmp0 b else if b.cursor = true then -1 else 1
def Eg.cmpN : Eg → Eg → Int := lexC (fun a b => a.frm - b.frm) (lexC (fun a b => a.to - b.to) (lexC (fun a b => a.kind - b.kind) (lexC (fun a b => a.table - b.table)
 (lexC (fun a b => a.key.cmp b.key) fun a b => (if a.cursor = true then 1 else 0) - (if b.cursor = true then 1 else 0)))))
theorem b1H : CmpOk Eg.cmpN := (CmpOk.sub Eg.frm).lex ((CmpOk.sub Eg.to).lex ((CmpOk.sub Eg.kind).lex ((CmpOk.sub Eg.table).lex ((b9G.of Eg.key).lex (CmpOk.sub fun e : Eg => if e.cursor = true then 1 else 0)))))
def Eg.lss (a b : Eg) : Bool :=
 if a.frm ≠ b.frm then decide (a.frm < b.frm) else if a.to ≠ b.to then decide (a.to < b.to) else if a.kind ≠ b.kind then decide (a.kind < b.kind)
 else if a.table ≠ b.table then decide (a.table < b.table) else if a.key.cmp b.key ≠ 0 then decide (a.key.cmp b.key < 0) else !a.cursor && b.cursor
theorem b2H (a b : Eg) : a.lss b = true ↔ a.cmpN b < 0 := by
 unfold Eg.lss Eg.cmpN lexC
 by_cases h1 : a.frm = b.frm
 · by_cases h2 : a.to = b.to
   · by_cases h3 : a.kind = b.kind
     · by_cases h4 : a.table = b.table
       · by_cases h5 : a.key.cmp b.key = 0
         · simp only [h1, h2, h3, h4, h5]
           cases a.cursor <;> cases b.cursor <;> simp
         · simp [h1, h2, h3, h4, h5]
       · have : a.table - b.table ≠ 0 := by omega
         simp only [h1, h2, h3, ne_eq, not_true, if_false, h4, not_false_eq_true, if_true, this, Int.sub_self, decide_eq_true_eq]; omega
     · have : a.kind - b.kind ≠ 0 := by omega
       simp only [h1, h2, ne_eq, not_true, if_false, h3, not_false_eq_true, if_true, this, Int.sub_self, decide_eq_true_eq]; omega
   · have : a.to - b.to ≠ 0 := by omega
     simp only [h1, ne_eq, not_true, if_false, h2, not_false_eq_true, if_true, this, Int.sub_self, decide_eq_true_eq]; omega
 · have : a.frm - b.frm ≠ 0 := by omega
   simp only [ne_eq, h1, not_false_eq_true, if_true, this, decide_eq_true_eq]; omega
theorem b3H {a b c : Eg} (h1 : a.lss b = true) (h2 : b.lss c = true) : a.lss c = true := by
 rw [b2H] at *
 have t1 := b1H.trans a b c (by omega) (by omega)
 have t2 := b1H.trans b c a (by omega)
 have := b1H.anti a c
 have := b1H.anti c a
 have := b1H.anti a b
 have := b1H.anti b a
 omega
theorem b4H {a b : Eg} (h : a.lss b = true) : b.lss a = false := by
 rw [← Bool.not_eq_true]
 intro h2
 rw [b2H] at *
 have := b1H.anti a b
 omega
theorem b5H (a : Eg) : a.lss a = false := by
 rw [← Bool.not_eq_true]
 intro h
 have := b4H h
 rw [h] at this; cases this
def Eg.Rt (e : Eg) : Prop := e.key.right = true
theorem b6H {a b : Eg} (ha : a.Rt) (hb : b.Rt) (h1 : a.lss b = false) (h2 : b.lss a = false) : a = b := by
 rw [← Bool.not_eq_true, b2H] at h1 h2
 have h3 := b1H.anti a b
 have h4 := b1H.anti b a
 have h0 : a.cmpN b = 0 := by omega
 unfold Eg.cmpN lexC at h0
 rw [Eg.eq_iff]
 by_cases e1 : a.frm - b.frm = 0
 · by_cases e2 : a.to - b.to = 0
   · by_cases e3 : a.kind - b.kind = 0
     · by_cases e4 : a.table - b.table = 0
       · by_cases e5 : a.key.cmp b.key = 0
         · simp only [e1, e2, e3, e4, e5, ne_eq, not_true, if_false] at h0
           refine ⟨by omega, by omega, by omega, by omega, b0H ha hb e5, ?_⟩
           revert h0
           cases a.cursor <;> cases b.cursor <;> simp
         · simp only [e1, e2, e3, e4, ne_eq, not_true, if_false, e5, not_false_eq_true, if_true] at h0
       · simp only [e1, e2, e3, ne_eq, not_true, if_false, e4, not_false_eq_true, if_true] at h0
     · simp only [e1, e2, ne_eq, not_true, if_false, e3, not_false_eq_true, if_true] at h0
   · simp only [e1, ne_eq, not_true, if_false, e2, not_false_eq_true, if_true] at h0
 · simp only [ne_eq, e1, not_false_eq_true, if_true] at h0
def Rise (l : List Eg) : Prop := l.Pairwise fun a b => a.lss b = true
theorem Rise.nodup {l : List Eg} (h : Rise l) : l.Nodup := h.imp fun {a b} hab e => by subst e; rw [b5H] at hab; cases hab
theorem b7H {l r : List Eg} (hl : Rise l) (hr : Rise r) (h : ∀ e, e ∈ l ↔ e ∈ r) : l = r :=
 List.Perm.eq_of_pairwise (le := fun a b : Eg => a.lss b = true) (fun a b _ _ h1 h2 => by have := b4H h1; rw [h2] at this; cases this) hl hr ((List.perm_ext_iff_of_nodup hl.nodup hr.nodup).2 h)
def insE (e : Eg) : List Eg → List Eg
 | [] => [e]
 | x :: r => if x.lss e = true then x :: insE e r else if x = e then x :: r else e :: x :: r
theorem b8H {e m : Eg} : ∀ {l : List Eg}, m ∈ insE e l ↔ m = e ∨ m ∈ l
 | [] => by simp [insE]
 | x :: r => by
   unfold insE
   split
   · rw [List.mem_cons, b8H, List.mem_cons]; grind
   · split
     · rename_i h; subst h; rw [List.mem_cons]; grind
     · rw [List.mem_cons]
theorem b9H {e : Eg} (he : e.Rt) : ∀ {l : List Eg}, (∀ x, x ∈ l → x.Rt) → Rise l → Rise (insE e l)
 | [], _, _ => List.pairwise_singleton _ _
 | x :: r, hD, h => by
   obtain ⟨h1, h2⟩ := List.pairwise_cons.1 h
   unfold insE
   split
   · rename_i hx
     refine List.pairwise_cons.2 ⟨fun y hy => ?_, b9H he (fun y hy => hD y (List.mem_cons_of_mem _ hy)) h2⟩
     rcases b8H.1 hy with rfl | hy
     · exact hx
     · exact h1 y hy
   · rename_i hx
     split
     · exact h
     · rename_i hne
       have hex : e.lss x = true := by
         cases hc : e.lss x with
         | true => rfl
         | false => exact absurd (b6H (hD x List.mem_cons_self) he (by simpa using hx) hc) hne
       refine List.pairwise_cons.2 ⟨fun y hy => ?_, h⟩
       rcases List.mem_cons.1 hy with rfl | hy
       · exact hex
       · exact b3H hex (h1 y hy)
def putE (l : List Eg) (e : Eg) : List Eg := if e.frm = e.to then l else insE e l
theorem b0I {m : Eg} : ∀ {es l : List Eg}, m ∈ es.foldl putE l ↔ m ∈ l ∨ (m ∈ es ∧ m.frm ≠ m.to)
 | [], l => by simp
 | e :: es, l => by
   rw [List.foldl_cons, b0I, List.mem_cons]
   unfold putE
   split
   · rename_i h; grind
   · rename_i h; rw [b8H]; grind
theorem b1I : ∀ {es l : List Eg}, (∀ x, x ∈ l → x.Rt) → (∀ x, x ∈ es → x.Rt) → Rise l → Rise (es.foldl putE l)
 | [], _, _, _, h => h
 | e :: es, l, hl, he, h => by
   rw [List.foldl_cons]
   have h0 := he e List.mem_cons_self
   refine b1I ?_ (fun x hx => he x (List.mem_cons_of_mem _ hx)) ?_
   · intro x hx
     unfold putE at hx
     split at hx
     · exact hl x hx
     · rcases b8H.1 hx with rfl | hx
       · exact h0
       · exact hl x hx
   · unfold putE
     split
     · exact h
     · exact b9H h0 hl h
theorem b2I : ∀ {es l : List Eg}, (es.foldl putE l).length ≤ l.length + es.length
 | [], l => by simp
 | e :: es, l => by
   rw [List.foldl_cons]
   have h1 := b2I (es := es) (l := putE l e)
   have h2 : (putE l e).length ≤ l.length + 1 := by
     unfold putE
     split
     · omega
     · clear h1
       induction l with
       | nil => simp [insE]
       | cons x r ih =>
         unfold insE
         split
         · simpa using ih
         · split <;> simp
   simp only [List.length_cons]; omega
structure Eg.D (e : Eg) : Prop where
 rt : e.Rt
 frm : 0 ≤ e.frm ∧ e.frm < 2 ^ 63
 to : 0 ≤ e.to ∧ e.to < 2 ^ 63
 kind : 0 ≤ e.kind ∧ e.kind < 2 ^ 63
 table : 0 ≤ e.table ∧ e.table < 2 ^ 63
theorem cmp_N {a b : Eg} (ha : a.D) (hb : b.D) : a.cmp b = a.cmpN b := by
 obtain ⟨_, a1, a2, a3, a4⟩ := ha
 obtain ⟨_, b1, b2, b3, b4⟩ := hb
 have w1 := c4Z (n := a.frm - b.frm) (by omega)
 have w2 := c4Z (n := a.to - b.to) (by omega)
 have w3 := c4Z (n := a.kind - b.kind) (by omega)
 have w4 := c4Z (n := a.table - b.table) (by omega)
 unfold Eg.cmp Eg.cmp0 Eg.cmpN lexC
 rw [w1, w2, w3, w4]
 by_cases e1 : a.frm - b.frm = 0
 · by_cases e2 : a.to - b.to = 0
   · by_cases e3 : a.kind - b.kind = 0
     · by_cases e4 : a.table - b.table = 0
       · by_cases e5 : a.key.cmp b.key = 0
         · simp only [e1, e2, e3, e4, e5, ne_eq, not_true, if_false, false_or]
           cases a.cursor <;> cases b.cursor <;> simp
         · simp only [e1, e2, e3, e4, e5, ne_eq, not_true, if_false, not_false_eq_true, true_or, if_true]
       · simp only [e1, e2, e3, e4, ne_eq, not_true, if_false, not_false_eq_true, true_or, if_true]
     · simp only [e1, e2, e3, ne_eq, not_true, if_false, not_false_eq_true, true_or, if_true]
   · simp only [e1, e2, ne_eq, not_true, if_false, not_false_eq_true, true_or, if_true]
 · simp only [e1, ne_eq, not_false_eq_true, true_or, if_true]
end Go.Rt
end

section
namespace Go.Rt
open Go.Vm
def c4p {α : Type} (p : α → Bool) (l : List α) : Option α := l.foldl (fun s e => if p e = true then some e else s) none
theorem c5p {α : Type} (p : α → Bool) (l : List α) (e : α) : c4p p (l ++ [e]) = if p e = true then some e else c4p p l := by
 unfold c4p; rw [List.foldl_append]; rfl
theorem c6p {α : Type} (p : α → Bool) : c4p p [] = none := rfl
theorem c7p {α : Type} (p : α → Bool) (l : List α) : c4p p l = l.reverse.find? p := by
 suffices h : ∀ r : List α, c4p p r.reverse = r.find? p by
   have := h l.reverse; rwa [List.reverse_reverse] at this
 intro r
 induction r with
 | nil => rfl
 | cons a r ih =>
   rw [List.reverse_cons, c5p, List.find?_cons, ih]
   cases p a <;> rfl
theorem c8p {α : Type} {p : α → Bool} {l : List α} : c4p p l = none ↔ ∀ e, e ∈ l → p e = false := by
 rw [c7p, List.find?_eq_none]
 simp only [List.mem_reverse, Bool.not_eq_true]
theorem c9p {α : Type} {p : α → Bool} {l : List α} {e : α} (h : c4p p l = some e) : e ∈ l ∧ p e = true := by
 rw [c7p] at h
 exact ⟨List.mem_reverse.1 (List.mem_of_find?_eq_some h), List.find?_some h⟩
abbrev skL : Sk := (false, [.i .i64], false)
abbrev skR : Sk := (true, [.i .i64, .b, .i .i64, .s, .i .i64, .i .i64], false)
abbrev skC : Sk := (true, [.i .i64, .b, .i .i64, .s], false)
def Ev.isB (t : Int) (e : Ev) : Bool := decide (e.kind = 1) && decide (e.txn = t)
def Ev.isN (txn table : Int) (k : Vl) (m : Int) (e : Ev) : Bool := e.isW txn table k && decide (e.n = m)
def Ins.isO (table : Int) (k : Vl) (o : Ins) : Bool := decide (o.table = table) && decide (o.key = k)
def vsC (l : List Vs) : List (List IV) := l.map Vs.cells
@[simp] theorem vsC_len (l : List Vs) : (vsC l).length = l.length := by simp [vsC]
@[simp] theorem c0q (l : List Vs) (i : Nat) : (vsC l)[i]? = (l[i]?).map Vs.cells := by simp [vsC]
def gLv (es : List Ev) : List Value → Option (List IV)
 | [.int .i64 t] => (c4p (Ev.isB t) es).map fun e => [ci e.level]
 | _ => none
def gRw (es : List Ev) : List Value → Option (List IV)
 | [.int .i64 table, .bool t, .int .i64 n, .string s, .int .i64 txn, .int .i64 m] => (c4p (Ev.isN txn table ⟨t, n, s⟩ m) es).map fun e => [.lst 3 (rowC e.row)]
 | _ => none
def gLs (es : List Ev) : List Value → Option (List IV)
 | [.int .i64 table, .bool t, .int .i64 n, .string s, .int .i64 txn, .int .i64 m] => if m = 0 then (c4p (Ev.isW txn table ⟨t, n, s⟩) es).map fun e => [ci e.n] else none
 | _ => none
def c1q (es : List Ev) (txn table : Int) (k : Vl) : Int := ((c4p (Ev.isW txn table k) es).map Ev.n).getD 0
def chnI (es : List Ev) (o : Ins) : List Vs := ⟨0, 0⟩ :: o.txns.map fun txn => ⟨txn, c1q es txn o.table o.key⟩
def gCh (es : List Ev) (os : List Ins) : List Value → Option (List IV)
 | [.int .i64 table, .bool t, .int .i64 n, .string s] => (c4p (Ins.isO table ⟨t, n, s⟩) os).map fun o => [.lst 2 (vsC (chnI es o))]
 | _ => none
theorem c2q : gLv [] = fun _ => none := by funext q; unfold gLv; split <;> rfl
theorem c3q : gRw [] = fun _ => none := by funext q; unfold gRw; split <;> rfl
theorem c4q : gLs [] = fun _ => none := by
 funext q; unfold gLs; split
 · split <;> rfl
 · rfl
theorem c5q (es : List Ev) : gCh es [] = fun _ => none := by funext q; unfold gCh; split <;> rfl
theorem c6q {es : List Ev} {e : Ev} (hk : e.kind = 1) : gset (gLv es) [.int .i64 e.txn] (some [ci e.level]) = gLv (es ++ [e]) := by
 funext q
 simp only [gset]
 split
 · rename_i h; subst h
   simp [gLv, c5p, Ev.isB, hk]
 · rename_i hne
   unfold gLv
   split
   · rename_i t
     rw [c5p, if_neg]
     simp only [Ev.isB, Bool.and_eq_true, decide_eq_true_eq]
     rintro ⟨_, rfl⟩; exact hne rfl
   · rfl
theorem c7q {es : List Ev} {e : Ev} (hk : e.kind ≠ 1) : gLv (es ++ [e]) = gLv es := by
 funext q
 unfold gLv
 split
 · rw [c5p, if_neg]
   simp [Ev.isB, hk]
 · rfl
theorem c8q {e : Ev} (hk : e.kind = 3) : e.isW e.txn e.table e.key = true := Ev.isW_iff.2 ⟨hk, rfl, rfl, rfl, rfl, rfl⟩
theorem c9q {es : List Ev} {e : Ev} (hk : e.kind = 3) :
   gset (gRw es) [.int .i64 e.table, .bool e.key.text, .int .i64 e.key.n, .string e.key.s, .int .i64 e.txn, .int .i64 e.n] (some [.lst 3 (rowC e.row)]) = gRw (es ++ [e]) := by
 funext q
 simp only [gset]
 split
 · rename_i h; subst h
   have : e.isN e.txn e.table e.key e.n = true := by unfold Ev.isN; rw [c8q hk]; simp
   simp [gRw, c5p, this]
 · rename_i hne
   unfold gRw
   split
   · rename_i table t n s txn m
     rw [c5p, if_neg]
     simp only [Ev.isN, Bool.and_eq_true, decide_eq_true_eq, Ev.isW_iff]
     rintro ⟨⟨_, h1, h2, h3, h4, h5⟩, h6⟩
     subst h1 h2 h3 h4 h5 h6
     exact hne rfl
   · rfl
theorem c0r {es : List Ev} {e : Ev} (hk : e.kind ≠ 3) : gRw (es ++ [e]) = gRw es := by
 funext q
 unfold gRw
 split
 · rw [c5p, if_neg]
   simp only [Ev.isN, Bool.and_eq_true, decide_eq_true_eq, Ev.isW_iff]
   exact fun h => hk h.1.1
 · rfl
theorem c1r {es : List Ev} {e : Ev} (hk : e.kind = 3) :
   gset (gLs es) [.int .i64 e.table, .bool e.key.text, .int .i64 e.key.n, .string e.key.s, .int .i64 e.txn, .int .i64 0] (some [ci e.n]) = gLs (es ++ [e]) := by
 funext q
 simp only [gset]
 split
 · rename_i h; subst h
   have := c8q hk
   simp [gLs, c5p, this]
 · rename_i hne
   unfold gLs
   split
   · rename_i table t n s txn m
     by_cases hm : m = 0
     · rw [if_pos hm, if_pos hm, c5p, if_neg]
       simp only [Ev.isW_iff]
       rintro ⟨_, h1, h2, h3, h4, h5⟩
       subst h1 h2 h3 h4 h5 hm
       exact hne rfl
     · rw [if_neg hm, if_neg hm]
   · rfl
theorem c2r {es : List Ev} {e : Ev} (hk : e.kind ≠ 3) : gLs (es ++ [e]) = gLs es := by
 funext q
 unfold gLs
 split
 · split
   · rw [c5p, if_neg]
     simp only [Ev.isW_iff]
     exact fun h => hk h.1
   · rfl
 · rfl
theorem c3r (es : List Ev) (os : List Ins) (o : Ins) : gset (gCh es os) [.int .i64 o.table, .bool o.key.text, .int .i64 o.key.n, .string o.key.s] (some [.lst 2 (vsC (chnI es o))]) = gCh es (os ++ [o]) := by
 funext q
 simp only [gset]
 split
 · rename_i h; subst h
   simp [gCh, c5p, Ins.isO]
 · rename_i hne
   unfold gCh
   split
   · rename_i table t n s
     rw [c5p, if_neg]
     simp only [Ins.isO, Bool.and_eq_true, decide_eq_true_eq, Vl.eq_iff]
     rintro ⟨h1, h2, h3, h4⟩
     subst h1 h2 h3 h4
     exact hne rfl
   · rfl
@[simp] theorem lk_gLs (es : List Ev) (txn table : Int) (t : Bool) (n : Int) (s : ByteArray) :
   lkR [.iv (.v (.int .i64 0))] false false (gLs es [.int .i64 table, .bool t, .int .i64 n, .string s, .int .i64 txn, .int .i64 0]) = vi (c1q es txn table ⟨t, n, s⟩) := by
 simp only [gLs, if_true, c1q]
 cases c4p (Ev.isW txn table ⟨t, n, s⟩) es <;> rfl
def c4r (es : List Ev) : List Int := (es.filter fun e => decide (e.kind = 5)).map Ev.txn
theorem c5r : c4r [] = [] := rfl
theorem c6r (es : List Ev) (e : Ev) : c4r (es ++ [e]) = c4r es ++ if e.kind = 5 then [e.txn] else [] := by
 unfold c4r
 rw [List.filter_append, List.map_append]
 congr 1
 by_cases h : e.kind = 5 <;> simp [h]
theorem c7r (es : List Ev) : (c4r es).length ≤ es.length := by
 unfold c4r; rw [List.length_map]; exact List.length_filter_le _ _
end Go.Rt
end

section
namespace Go.Rt
open Go.Vm
section
variable {h : Hs}
theorem b4F (hw : b5x h) {i : Nat} {e : Ev} (he : h.events[i]? = some e) : b0x h (h.events.take i) e ∧ b2x h e := hw.2.1 i (List.getElem?_eq_some_iff.1 he).1 e he
theorem b5F (hw : b5x h) {i : Nat} {o : Ins} (ho : h.order[i]? = some o) : b3x h i o := hw.2.2 i (List.getElem?_eq_some_iff.1 ho).1 o ho
theorem b6F (hw : b5x h) {i : Nat} {e : Ev} (he : h.events[i]? = some e) (hk : e.kind = 3) : c4w h (h.events.take i) e := (b4F hw he).1.2.2.1 hk
theorem b7F {e : Ev} {txn table : Int} {k : Vl} (h : e.isW txn table k = true) : e.kind = 3 ∧ e.txn = txn ∧ e.table = table ∧ e.key = k := by
 obtain ⟨h1, h2, h3, h4, h5, h6⟩ := Ev.isW_iff.1 h
 exact ⟨h1, h2, h3, Vl.eq_iff.2 ⟨h4, h5, h6⟩⟩
theorem b8F (hw : b5x h) {i : Nat} {e : Ev} (he : h.events[i]? = some e) {txn table : Int} {k : Vl} (hk : e.isW txn table k = true) : e.n = c2S (h.events.take i) txn table k + 1 := by
 obtain ⟨h1, rfl, rfl, rfl⟩ := b7F hk
 exact (b6F hw he h1).2.1
theorem b9F (hw : b5x h) (txn table : Int) (k : Vl) : ∀ i, i ≤ h.events.length → c1q (h.events.take i) txn table k = c2S (h.events.take i) txn table k := by
 intro i
 induction i with
 | zero => intro _; simp [c1q, c6p, c2S]
 | succ i ih =>
   intro hi
   obtain ⟨e, he⟩ := c3Z (l := h.events) (i := i) (by omega)
   have h1 := c3S he txn table k
   have htn : h.events.take (i + 1) = h.events.take i ++ [e] := by rw [List.take_add_one, he]; rfl
   rw [h1]
   unfold c1q
   rw [htn, c5p]
   by_cases hk : e.isW txn table k = true
   · rw [if_pos hk, if_pos hk]
     have := b8F hw he hk
     simp [this]
   · rw [if_neg hk, if_neg hk]
     have := ih (by omega)
     unfold c1q at this
     rw [this]; simp
theorem b0G (hw : b5x h) (txn table : Int) (k : Vl) : c1q h.events txn table k = c2S h.events txn table k := by
 have := b9F hw txn table k h.events.length (Nat.le_refl _)
 rwa [List.take_length] at this
theorem b1G {v : Vl} (h : v.right = true) : v.s.size < 2 ^ 63 := by
 unfold Vl.right at h
 split at h
 · simp only [Bool.and_eq_true, decide_eq_true_eq] at h; omega
 · simp only [decide_eq_true_eq] at h; rw [h]; decide
theorem b2G (hw : b5x h) {e : Ev} (he : e ∈ h.events) (hk : e.kind = 3) : e.row.length < 2 ^ 40 ∧ ∀ x, x ∈ e.row → x.s.size < 2 ^ 63 := by
 obtain ⟨i, hi⟩ := List.getElem?_of_mem he
 rcases (b6F hw hi hk).2.2 with h1 | ⟨t, h1, h2, _⟩
 · rw [h1]; simp
 · obtain ⟨f1, f2, f3⟩ := h2
   have : t.length ≤ 4 := f1.2
   refine ⟨by omega, fun x hx => ?_⟩
   obtain ⟨j, hj⟩ := List.getElem?_of_mem hx
   have hjl := (List.getElem?_eq_some_iff.1 hj).1
   obtain ⟨c, hc⟩ := c3Z (l := t) (i := j) (by omega)
   exact b1G (f3 j hjl x c hj hc).2
end
end Go.Rt
end

section
namespace Go.Vm
@[simp] theorem ev_nilc {s : St} : s.ev (.const (.slice none 0 0)) = .nil 0 := rfl
def b7r : List AV → List AV → Prop
 | [], [] => True
 | x :: r, y :: q => (x = y ∨ ∃ a b, x = .nil a ∧ y = .nil b) ∧ b7r r q
 | _, _ => False
@[simp] theorem b8r : b7r [] [] ↔ True := ⟨fun h => h, fun h => h⟩
@[simp] theorem b9r {x y : AV} {r q : List AV} : b7r (x :: r) (y :: q) ↔ (x = y ∨ ∃ a b, x = .nil a ∧ y = .nil b) ∧ b7r r q := ⟨fun h => h, fun h => h⟩
theorem b0s : ∀ {cs ds : List AV}, b7r cs ds → ds.length = cs.length ∧ ∀ (i : Nat) y, ds[i]? = some y → cs[i]? = some y ∨ ∃ a b, cs[i]? = some (.nil a) ∧ y = .nil b
 | [], [], _ => ⟨rfl, fun i y h => by simp at h⟩
 | x :: r, y :: q, h => by
   obtain ⟨g1, g2⟩ := b0s h.2
   refine ⟨by simp [g1], fun i z hz => ?_⟩
   cases i with
   | zero =>
     simp only [List.getElem?_cons_zero, Option.some.injEq] at hz ⊢
     subst hz
     exact h.1
   | succ i => simpa using g2 i z (by simpa using hz)
 | [], _ :: _, h => h.elim
 | _ :: _, [], h => h.elim
theorem b1s (s : St) {id : Nat} {cs ds : List AV} (ho : look s.hp id = some (.box cs)) (h : b7r cs ds) : Le s (s.add id (.box ds)) := by
 obtain ⟨h1, h2⟩ := b0s h
 rintro E n a w ⟨ψ, hs⟩
 obtain ⟨b, c, e, q1, q2, q3, q4⟩ := hs.obs id _ ho
 refine ⟨ψ, hs.chg (o' := .box ds) (k := (0, c.size)) ho (Ob.le_none rfl) rfl (by simp [Ob.multi]) q1 (fun _ _ => rfl) rfl ⟨rfl, rfl, rfl, Nat.le_refl _⟩
   (fun hm _ => ⟨b, c, e, q1, q2, by rw [q3, h1], fun i x hx => ?_⟩)⟩
 rcases h2 i x hx with g | ⟨a', b', g, rfl⟩
 · exact hm _ _ (q4 i x g)
 · have := hm _ _ (q4 i _ g)
   generalize c.getD i undef = v at this
   cases this
   exact .nil b'
theorem loop_le {P : Program} {c : VCode} {s s' : St} {O : Outs} (h : Le s s') (k : a9S P c s' O) : a9S P c s O := by
 obtain ⟨I, h3, h4⟩ := k
 exact ⟨I, h3.le h, h4⟩
end Go.Vm
end

section
namespace Go.Vm
theorem d5p {s : St} {id k : Nat} (h : k ∈ (s.drop id).hp.map (·.1)) : k ∈ s.hp.map (·.1) := by
 obtain ⟨o, ho⟩ := d5a h
 cases hs : look s.hp k with
 | none => rw [a8F hs] at ho; cases ho
 | some o' => exact a9I hs
theorem d6p (D : List Nat) : ∀ {s : St} {k : Nat}, k ∈ (s.drops D).hp.map (·.1) → k ∈ s.hp.map (·.1) := by
 induction D with
 | nil => intro s k h; exact h
 | cons i D ih => intro s k h; exact d5p (ih h)
def EndD (D : List Nat) (t : Nat) (x : IV) (s : St) : Prop := D.all (· < 1000) = true ∧ (s.drops D).get t = .iv x ∧ a2G s.hp = true
attribute [simp] EndD
theorem d7p {P : Program} {f : FuncId} {args : List AV} {x : IV} {n t : Nat} {c : VCode} (D : List Nat) (hf : fnV P f = some (n, c, [.tmp t]))
   (hargs : args.length ≤ n) (hn : n ≤ 999) (h : wpV P c ⟨c8l 0 args, []⟩ ⟨EndD D t x, fun _ _ => False, EndD D t x, fun _ _ => False⟩) : b4z P false f args [] (.iv x) [] :=
 d8a hf hargs rfl rfl (a4H (c8u hn _ _ _ h) fun s h => by
   have hk : ((s.drops D).hp.map (·.1)).all (· < 1000) = true := by
     rw [List.all_eq_true]
     intro k hk
     exact List.all_eq_true.1 (a5G h.2.2) k (d6p D hk)
   refine ⟨(s.drops D).drops ((s.drops D).hp.map (·.1)), [.iv x], (c8v D h.1 s).trans (c8v _ hk _), ?_, rfl, fun id => ?_, fun h => by cases h⟩
   · simp [resV, a7F _ h.2.1]
   · refine a9F _ ?_
     cases hl : look (s.drops D).hp id with
     | none => exact .inr rfl
     | some o => exact .inl (List.contains_iff_mem.1 (b8z hl)))
theorem d8p {s : St} {t id j sz lo len : Nat} (hj : id ≠ j) (h : s.get t = .sl j sz lo len) : (s.drop id).get t = .sl j sz lo len := by
 unfold St.drop
 split
 · exact h
 · simp only [St.get, St.mapc] at h ⊢
   rw [b9R (AV.mapc _)]
   cases hl : look s.fr t with
   | none => rw [hl] at h; cases h
   | some y =>
     rw [hl] at h
     simp only [Option.getD_some] at h
     subst h
     simp only [Option.map_some, Option.getD_some, AV.mapc, AV.fc]
     rw [if_neg (Ne.symm hj)]
     simp only [AV.kc]
     rw [if_neg (by simpa using Ne.symm hj)]
theorem d9p {s : St} {id j sz : Nat} {xs : List (List IV)} (hj : id ≠ j) (h : look s.hp j = some (.list sz xs)) : look (s.drop id).hp j = some (.list sz xs) := by
 unfold St.drop
 split
 · exact h
 · simp only [b0S, c9A, h, Option.map_some]
   rw [if_neg (Ne.symm hj)]
   rfl
theorem d0q (D : List Nat) : ∀ {s : St} {t j sz len : Nat} {xs : List (List IV)}, j ∉ D → s.get t = .sl j sz 0 len → look s.hp j = some (.list sz xs) → (s.drops D).get t = .sl j sz 0 len ∧ look (s.drops D).hp j = some (.list sz xs) := by
 induction D with
 | nil => intro s t j sz len xs _ h1 h2; exact ⟨h1, h2⟩
 | cons i D ih =>
   intro s t j sz len xs hj h1 h2
   have hij : i ≠ j := fun e => hj (by simp [e])
   exact ih (fun h => hj (List.mem_cons_of_mem _ h)) (d8p hij h1) (d9p hij h2)
def EndN (j sz t : Nat) (xs : List (List IV)) (s : St) : Prop := s.get t = .sl j sz 0 xs.length ∧ look s.hp j = some (.list sz xs) ∧ a2G s.hp = true
attribute [simp] EndN
theorem d1q {P : Program} {f : FuncId} {args : List AV} {n t : Nat} {c : VCode} (j sz : Nat) (xs : List (List IV)) (hf : fnV P f = some (n, c, [.tmp t]))
   (hargs : args.length ≤ n) (hn : n ≤ 999) (hx : ∀ x ∈ xs, ∀ y ∈ x, y.flat = true) (h : wpV P c ⟨c8l 0 args, []⟩ ⟨EndN j sz t xs, fun _ _ => False, EndN j sz t xs, fun _ _ => False⟩) :
   b4z P true f args [] (.sl j sz 0 xs.length) [(j, .list sz xs)] :=
 d8a hf hargs rfl rfl (a4H (c8u hn _ _ _ h) fun s h => by
   obtain ⟨h1, h2, h3⟩ := h
   let D := (s.hp.map (·.1)).filter (· ≠ j)
   have hD : D.all (· < 1000) = true := by
     rw [List.all_eq_true]
     intro k hk
     exact List.all_eq_true.1 (a5G h3) k (List.mem_filter.1 hk).1
   have hj : j ∉ D := fun hk => by have := (List.mem_filter.1 hk).2; simp at this
   obtain ⟨g1, g2⟩ := d0q D hj h1 h2
   refine ⟨s.drops D, [.sl j sz 0 xs.length], c8v D hD s, by simp [resV, g1], rfl, fun id => ?_, fun _ => ⟨rfl, fun id o ho => ?_⟩⟩
   · simp only [look]
     by_cases e : j = id
     · subst e; rw [if_pos rfl]; exact g2
     · rw [if_neg e]
       refine a9F _ ?_
       cases hl : look s.hp id with
       | none => exact .inr rfl
       | some o => exact .inl (List.mem_filter.2 ⟨a9I hl, by simpa using Ne.symm e⟩)
   · simp only [look] at ho
     split at ho
     · cases ho; exact hx
     · cases ho)
theorem b4z.fresh {P : Program} {f : FuncId} {args : List AV} {j sz n : Nat} {xs : List (List IV)} (h : b4z P true f args [] (.sl j sz 0 n) [(j, .list sz xs)]) (d : Nat)
   (hs : args.all AV.shal = true) (ha : ∀ ρ : Nat → Nat, args.map (AV.ren ρ) = args) : b4z P true f args [] (.sl d sz 0 n) [(d, .list sz xs)] := by
 have := h.ren (Ren.swap j d) (by simp [hs, AV.shal, AV.shal2, AV.shal1, Ob.shal])
 rw [ha] at this
 have e : (Ren.swap j d).to j = d := by simp [Ren.swap, a4x]
 simpa [Hp.ren, AV.ren, AV.ren2, AV.ren1, Ob.ren, e] using this
theorem d2q {P : Program} {d : Nat} {f : FuncId} {ops : List Operand} {s : St} {K : St → AV → Prop} {args : List AV} {sz n : Nat} {xs : List (List IV)} (h : b4z P true f args [] (.sl d sz 0 n) [(d, .list sz xs)]) (hd : d < 1000)
   (ha : (((s.drop d).args [] ops []).map ((s.drop d).arg true [])) = args) (hr : args.all (AV.inns []) = true) (hk : K ((s.drop d).join [(d, .list sz xs)]) (.sl d sz 0 n)) : a7S P d f [] ops [] none s K := by
 refine b8U ⟨s, Le.refl s, true, [], .sl d sz 0 n, [(d, .list sz xs)], s.drop d, rfl, trivial, { spec := ?_, refs := ?_, sub := fun _ _ h => ?_, own := fun _ _ h => ?_, keep := fun _ _ h => ?_, new := fun id o h1 _ => ?_ }, hk⟩
 · rw [List.map_nil, ha]; exact h
 · rw [List.map_nil, ha]; exact hr
 · cases h
 · cases h
 · cases h
 · simp only [look] at h1
   split at h1
   · rename_i e; subst e; exact ⟨a3C s d, hd⟩
   · cases h1
end Go.Vm
end

section
namespace Go.Vm
theorem b0o {s : St} {t id j off : Nat} (hj : id ≠ j) (h : s.get t = .ptr j off) : (s.drop id).get t = .ptr j off := by
 unfold St.drop
 split
 · exact h
 · simp only [St.get, St.mapc] at h ⊢
   rw [b9R (AV.mapc _)]
   cases hl : look s.fr t with
   | none => rw [hl] at h; cases h
   | some y =>
     rw [hl] at h
     simp only [Option.getD_some] at h
     subst h
     simp only [Option.map_some, Option.getD_some, AV.mapc, AV.fc]
     first
     | rfl
     | (simp [Ne.symm hj, AV.kc]; done)
     | (split <;> simp_all [AV.kc])
theorem b1o {s : St} {id j : Nat} {cs : List IV} (hj : id ≠ j) (h : look s.hp j = some (.box (cs.map .iv))) : look (s.drop id).hp j = some (.box (cs.map .iv)) := by
 unfold St.drop
 split
 · exact h
 · rename_i o' _
   simp only [b0S, c9A, h, Option.map_some]
   rw [if_neg (Ne.symm hj)]
   simp only [Ob.mapc, List.map_map, Option.some.injEq, Ob.box.injEq]
   refine List.map_congr_left fun a _ => ?_
   exact congrFun (a6K (id := id) (o := o')) a
theorem b2o (D : List Nat) : ∀ {s : St} {t j off : Nat} {cs : List IV}, j ∉ D → s.get t = .ptr j off → look s.hp j = some (.box (cs.map .iv)) → (s.drops D).get t = .ptr j off ∧ look (s.drops D).hp j = some (.box (cs.map .iv)) := by
 induction D with
 | nil => intro s t j off cs _ h1 h2; exact ⟨h1, h2⟩
 | cons i D ih =>
   intro s t j off cs hj h1 h2
   have hij : i ≠ j := fun e => hj (by simp [e])
   exact ih (fun h => hj (List.mem_cons_of_mem _ h)) (b0o hij h1) (b1o hij h2)
def EndC (D : List Nat) (t j : Nat) (cs : List IV) (s : St) : Prop := D.all (· < 1000) = true ∧ (s.drops D).get t = .ptr j 0 ∧ look (s.drops D).hp j = some (.box (cs.map .iv)) ∧ a2G s.hp = true
attribute [simp] EndC
theorem b3o {P : Program} {f : FuncId} {args : List AV} {n t k : Nat} {c : VCode} (D : List Nat) (j : Nat) (cs : List IV) (hk : cs.length = k) (hf : fnV P f = some (n, c, [.cell t (some k)]))
   (hargs : args.length ≤ n) (hn : n ≤ 999) (h : wpV P c ⟨c8l 0 args, []⟩ ⟨EndC D t j cs, fun _ _ => False, EndC D t j cs, fun _ _ => False⟩) :
   b4z P false f args [] (.agg (cs.map .iv)) [(j, .box (cs.map .iv))] :=
 d8a hf hargs rfl rfl (a4H (c8u hn _ _ _ h) fun s h => by
   obtain ⟨h0, h1, h2, h3⟩ := h
   have hk1 : ((s.drops D).hp.map (·.1)).all (· < 1000) = true := by
     rw [List.all_eq_true]
     intro k hk
     exact List.all_eq_true.1 (a5G h3) k (d6p D hk)
   let E := ((s.drops D).hp.map (·.1)).filter (· ≠ j)
   have hE : E.all (· < 1000) = true := by
     rw [List.all_eq_true]
     intro k hk
     exact List.all_eq_true.1 hk1 k (List.mem_filter.1 hk).1
   have hj : j ∉ E := fun hk => by have := (List.mem_filter.1 hk).2; simp at this
   obtain ⟨g1, g2⟩ := b2o E hj h1 h2
   refine ⟨(s.drops D).drops E, [.agg (cs.map .iv)], (c8v D h0 s).trans (c8v E hE _), ?_, rfl, fun id => ?_, fun h => by cases h⟩
   · subst hk
     simp [resV, g1, g2]
     exact List.take_of_length_le (by simp)
   · simp only [look]
     by_cases e : j = id
     · subst e; rw [if_pos rfl]; exact g2
     · rw [if_neg e]
       refine a9F _ ?_
       cases hl : look (s.drops D).hp id with
       | none => exact .inr rfl
       | some o => exact .inl (List.mem_filter.2 ⟨a9I hl, by simpa using Ne.symm e⟩))
theorem b4o {P : Program} {d : Nat} {f : FuncId} {ops : List Operand} {s s1 : St} {K : St → AV → Prop} {args : List AV} {res : AV} {o : Ob} (h : b4z P false f args [] res [(d, o)]) (hd : d < 1000)
   (hs1 : (s.frz ((s.args [] ops []).filter fun x => !x.inns [])).drop d = s1)
   (ha : ((s1.args [] ops []).map (s1.arg false [])) = args) (hr : args.all (AV.inns []) = true) (hk : K (s1.join [(d, o)]) res) : a7S P d f [] ops [] none s K := by
 refine b8U ⟨s, Le.refl s, false, [], res, [(d, o)], s1, hs1.symm, trivial, { spec := ?_, refs := ?_, sub := fun _ _ h => ?_, own := fun _ _ h => ?_, keep := fun _ _ h => ?_, new := fun id o h1 _ => ?_ }, hk⟩
 · rw [List.map_nil]; rw [ha]; exact h
 · rw [List.map_nil]; rw [ha]; exact hr
 · cases h
 · cases h
 · cases h
 · simp only [look] at h1
   split at h1
   · rename_i e; subst e; exact ⟨hs1 ▸ a3C _ d, hd⟩
   · cases h1
end Go.Vm
end

section
namespace Go.Rt
open Go.Vm
theorem b8l {xs : List (List IV)} (hl : xs.length < 2 ^ 40) : b4z prog false n_a1c [.iv (.lst 1 xs)] [] (.iv (.lst 1 xs)) [] := by
 refine d7p [2, 5] a1c_is (by simp) (by decide) ?_
 by_cases h : xs = []
 · subst h
   simp -dsimp [a2c_int]
 · simp -dsimp [a2c_int, h]
   omega
theorem b9l {xs : List (List IV)} (hl : xs.length < 2 ^ 40) : b4z prog false n_a3e [.iv (.lst 3 xs)] [] (.iv (.lst 3 xs)) [] := by
 refine d7p [2, 5] a3e_is (by simp) (by decide) ?_
 by_cases h : xs = []
 · subst h
   simp -dsimp [a3e]
 · simp -dsimp [a3e, h]
   omega
theorem b0m {xs : List (List IV)} (hl : xs.length < 2 ^ 40) : b4z prog false n_a0c [.iv (.lst 3 xs)] [] (.iv (.lst 3 xs)) [] := by
 refine d7p [2] a0c_is (by simp) (by decide) ?_
 simp -dsimp [a0c]
 refine a4K (b9l hl) rfl (by simp) (by simp) (by simp) (by simp) (by simp) (by simp) (by simp) ?_
 simp -dsimp
end Go.Rt
end

section
namespace Go.Rt
open Go.Vm
def c1e (o c d : Int) : Bool :=
 if o = 3 then c == 0 else if o = 4 then c != 0 else if o = 5 then decide (c < 0) else if o = 6 then decide (c ≤ 0) else if o = 7 then decide (0 < c) else if o = 8 then decide (0 ≤ c) else decide (0 ≤ c) && decide (d ≤ 0)
def Pd.leafB (p : Pd) (r : List Vl) : Bool := if p.col < 0 ∨ (r.length : Int) ≤ p.col then false else match r[p.col.toNat]? with
 | none => false
 | some x => c1e p.op (x.cmp p.v) (x.cmp p.w)
theorem c2e {p : Pd} {r : List Vl} (h : p.col < 0 ∨ (r.length : Int) ≤ p.col) : p.leafB r = false := by unfold Pd.leafB; rw [if_pos h]
theorem c3e {p : Pd} {r : List Vl} {k : Nat} {x : Vl} (hk : p.col = k) (hx : r[k]? = some x) : p.leafB r = c1e p.op (x.cmp p.v) (x.cmp p.w) := by
 have := (List.getElem?_eq_some_iff.1 hx).1
 unfold Pd.leafB
 rw [if_neg (by omega), hk, Int.toNat_natCast, hx]
theorem c4e {α : Type} {p : Pd} {r : List α} (h1 : ¬p.col < 0) (h2 : ¬(r.length : Int) ≤ p.col) : ∃ (k : Nat) (x : α), p.col = k ∧ r[k]? = some x := by
 obtain ⟨x, hx⟩ := c3Z (l := r) (i := p.col.toNat) (by omega)
 exact ⟨p.col.toNat, x, by omega, hx⟩
set_option maxHeartbeats 4000000 in
theorem c5e (p : Pd) (r : List Vl) (hr : r.length < 2 ^ 63) : b4z prog true n_a5g [p.av, .iv (.lst 3 (rowC r))] [] (vb (p.leafB r)) [] := by
 refine a5H a5g_is (by simp) (by decide) rfl ?_
 by_cases h1 : p.col < 0
 · simp -dsimp [b3W, Pd.av_eq, h1, c2e (.inl h1)]
 · by_cases h2 : (r.length : Int) ≤ p.col
   · simp -dsimp [b3W, Pd.av_eq, h1, h2, c2e (.inr h2)]
   · obtain ⟨k, x, hk, hx⟩ := c4e h1 h2
     have hkl : ¬(r.length : Int) ≤ k := by omega
     have hk0 : ¬(k : Int) < 0 := by omega
     rw [c3e hk hx]
     simp -dsimp [b3W, Pd.av_eq, hk, hkl, hk0, hx, c2d]
     refine a1G (b2n x p.v) (by simp) (by simp) ?_
     generalize x.cmp p.v = c
     by_cases o3 : p.op = 3
     · simp -dsimp [o3, c1e]
     · by_cases o4 : p.op = 4
       · simp -dsimp [o4, c1e]
       · by_cases o5 : p.op = 5
         · simp -dsimp [o5, c1e]
         · by_cases o6 : p.op = 6
           · simp -dsimp [o6, c1e]
           · by_cases o7 : p.op = 7
             · simp -dsimp [o7, c1e]
             · by_cases o8 : p.op = 8
               · simp -dsimp [o8, c1e]
               · by_cases hc : 0 ≤ c
                 · simp -dsimp [o3, o4, o5, o6, o7, o8, c1e, hc, hx, c2d]
                   refine a1G (b2n x p.w) (by simp) (by simp) ?_
                   simp -dsimp [o3, o4, o5, o6, o7, o8, c1e, hc]
                 · simp -dsimp [o3, o4, o5, o6, o7, o8, c1e, hc]
mutual
def Pd.holds (r : List Vl) : Pd → Bool
 | .mk o c v w l => if 3 ≤ o ∧ o ≤ 9 then (Pd.mk o c v w l).leafB r else if o = 1 then true else if o = 10 then !((Pd.holdsL r l).headD false) else if o = 11 then (Pd.holdsL r l).all id else if o = 12 then (Pd.holdsL r l).any id else false
def Pd.holdsL (r : List Vl) : List Pd → List Bool
 | [] => []
 | p :: q => p.holds r :: Pd.holdsL r q
end
theorem Pd.holdsL_map (r : List Vl) : ∀ l : List Pd, Pd.holdsL r l = l.map (Pd.holds r)
 | [] => by simp [Pd.holdsL]
 | p :: q => by simp [Pd.holdsL, Pd.holdsL_map r q]
theorem Pd.holds_eq (r : List Vl) (p : Pd) : p.holds r = if 3 ≤ p.op ∧ p.op ≤ 9 then p.leafB r else if p.op = 1 then true else if p.op = 10 then !((p.l.map (Pd.holds r)).headD false) else if p.op = 11 then p.l.all (Pd.holds r) else if p.op = 12 then p.l.any (Pd.holds r) else false := by
 cases p with
 | mk o c v w l =>
   rw [Pd.holds, Pd.holdsL_map]
   simp only [Pd.op, Pd.l, List.all_map, List.any_map]
   rfl
def fstB (r : List Vl) (l : List Pd) : Bool := (l.map (Pd.holds r)).headD false
def allB (r : List Vl) (l : List Pd) : Bool := l.all (Pd.holds r)
def anyB (r : List Vl) (l : List Pd) : Bool := l.any (Pd.holds r)
theorem Pd.holds_eq' (r : List Vl) (p : Pd) : p.holds r = if 3 ≤ p.op ∧ p.op ≤ 9 then p.leafB r else if p.op = 1 then true else if p.op = 10 then !fstB r p.l else if p.op = 11 then allB r p.l else if p.op = 12 then anyB r p.l else false := Pd.holds_eq r p
end Go.Rt
end

section
namespace Go.Rt
open Go.Vm
def ixP {α : Type} (p : α → Bool) (l : List α) : Int := match l.findIdx? p with
 | some i => i
 | none => -1
theorem b7L {α : Type} {p : α → Bool} {l : List α} {i : Nat} {e : α} (he : l[i]? = some e) (h : p e = true) (hn : Upto i fun j => ∀ x, l[j]? = some x → p x = false) : ixP p l = i := by
 have : l.findIdx? p = some i := by
   rw [List.findIdx?_eq_some_iff_getElem]
   have hl := (List.getElem?_eq_some_iff.1 he).1
   have hg := (List.getElem?_eq_some_iff.1 he).2
   refine ⟨hl, by rw [hg]; exact h, fun j hj => ?_⟩
   have := hn j hj l[j] (List.getElem?_eq_getElem (by omega))
   simpa using this
 unfold ixP; rw [this]
theorem b8L {α : Type} {p : α → Bool} {l : List α} (hn : ∀ x, x ∈ l → p x = false) : ixP p l = -1 := by
 have : l.findIdx? p = none := by
   rw [List.findIdx?_eq_none_iff]
   exact hn
 unfold ixP; rw [this]
theorem b9L {α : Type} {l : List α} {i : Nat} {p : α → Prop} (hi : l.length ≤ i) (h : Upto i fun j => ∀ x, l[j]? = some x → p x) : ∀ x, x ∈ l → p x := by
 intro x hx
 obtain ⟨j, hj⟩ := List.getElem?_of_mem hx
 exact h j (by have := (List.getElem?_eq_some_iff.1 hj).1; omega) x hj
theorem b0M {α : Type} (p : α → Bool) (l : List α) : (∃ (i : Nat) (x : α), l[i]? = some x ∧ p x = true ∧ ixP p l = i ∧ ∀ j y, j < i → l[j]? = some y → p y = false) ∨ ((∀ x, x ∈ l → p x = false) ∧ ixP p l = -1) := by
 unfold ixP
 cases h : l.findIdx? p with
 | none =>
   rw [List.findIdx?_eq_none_iff] at h
   exact .inr ⟨h, rfl⟩
 | some i =>
   rw [List.findIdx?_eq_some_iff_getElem] at h
   obtain ⟨hl, h1, h2⟩ := h
   refine .inl ⟨i, l[i], List.getElem?_eq_getElem hl, h1, rfl, fun j y hj hy => ?_⟩
   have := h2 j hj
   have hy2 := (List.getElem?_eq_some_iff.1 hy).2
   rw [hy2] at this
   simpa using this
theorem b1M {α : Type} (p : α → Bool) (l : List α) : 0 ≤ ixP p l ↔ ∃ x, x ∈ l ∧ p x = true := by
 rcases b0M p l with ⟨i, x, h1, h2, h3, _⟩ | ⟨h1, h2⟩
 · rw [h3]; exact ⟨fun _ => ⟨x, List.mem_of_getElem? h1, h2⟩, fun _ => by omega⟩
 · rw [h2]
   refine ⟨fun h => by omega, ?_⟩
   rintro ⟨x, hx, hp⟩
   rw [h1 x hx] at hp; cases hp
def b2M (l : List Int) (x : Int) : Int := ixP (fun y => decide (x = y)) l
end Go.Rt
end

section
namespace Go.Vm
theorem b5E {s : St} {g : Nat} {Z Z' : GZ} (hg : look s.hp g = some (.gh Z [] [])) (hz : ∀ A B w, Z A B w → Z' A B w) : Le s (s.add g (.gh Z' [] [])) := by
 rintro E n a w ⟨ψ, h⟩
 have lk : ∀ {id o}, look (s.add g (.gh Z' [] [])).hp id = some o → (id = g ∧ o = .gh Z' [] []) ∨ (id ≠ g ∧ look s.hp id = some o) := by
   intro id o ho
   rw [d2m] at ho
   by_cases e : g = id
   · subst e; rw [if_pos rfl] at ho; cases ho; exact .inl ⟨rfl, rfl⟩
   · rw [if_neg e] at ho; exact .inr ⟨Ne.symm e, ho⟩
 have old : ∀ {id o}, look (s.add g (.gh Z' [] [])).hp id = some o → ∃ o', look s.hp id = some o' ∧ o'.org id = o.org id ∧ o'.multi = o.multi := by
   intro id o ho
   rcases lk ho with ⟨rfl, rfl⟩ | ⟨_, h⟩
   · exact ⟨_, hg, rfl, rfl⟩
   · exact ⟨o, h, rfl, rfl⟩
 have hheld : ∀ b, Held ψ (s.add g (.gh Z' [] [])).hp b → Held ψ s.hp b := by
   rintro b ⟨id, o, ho, hb⟩
   obtain ⟨o', h1, _⟩ := old ho
   exact ⟨id, o', h1, hb⟩
 have hI : ∀ b, b < w.heap.size → Im E ψ s.hp b → Im E ψ (s.add g (.gh Z' [] [])).hp b := fun b _ hb => ⟨hb.1, fun hh => hb.2 (hheld b hh)⟩
 have hk : c5V ψ ψ s.hp (s.add g (.gh Z' [] [])).hp := by
   intro id o ho
   refine ⟨?_, rfl⟩
   by_cases e : g = id
   · subst e; rw [hg] at ho; cases ho; exact ⟨_, by rw [d2m, if_pos rfl], Ob.le_none rfl⟩
   · exact ⟨o, by rw [d2m, if_neg e]; exact ho, o.le_refl⟩
 refine ⟨ψ, { size := h.size, defers := h.defers.mono hI (fun _ _ _ => rfl), frame := fun t => (h.frame t).mono hI (fun _ _ _ => rfl) hk, obs := fun id o ho => ?_, inj := fun id id' o o' b q1 q2 => ?_, own := fun id o b ho hb => ?_, subs := fun id o b ho hb => ?_, par := h.par, old := h.old, grow := h.grow, same := h.same }⟩
 · rcases lk ho with ⟨rfl, rfl⟩ | ⟨_, ho⟩
   · obtain ⟨q1, q2, _, _⟩ := h.obs id _ hg
     have q2' := q2.mono hI (fun _ h => h) (fun _ _ _ => rfl) (fun _ _ => rfl)
     exact ⟨q1, fun A' B' w' k1 k2 k3 k4 => hz _ _ _ (q2' A' B' w' k1 k2 k3 k4), rfl, by simp⟩
   · exact (h.obs id o ho).mono hI (fun _ _ _ => rfl) hk ⟨rfl, fun _ h => h⟩ (fun _ _ => rfl)
 · obtain ⟨o1, g1, _⟩ := old q1
   obtain ⟨o2, g2, _⟩ := old q2
   exact h.inj id id' o1 o2 b g1 g2
 · obtain ⟨o1, g1, g2, _⟩ := old ho
   rw [← g2]; exact h.own id o1 b g1 hb
 · obtain ⟨o1, g1, _, g3⟩ := old ho
   rw [← g3]; exact h.subs id o1 b g1 hb
def EndI (Ze : GZ) (s : St) : Prop := ∃ Z, look s.hp 1000 = some (.gh Z [] []) ∧ (∀ A B w, Z A B w → Ze A B w) ∧ ownH s.hp [1000] = true
theorem b6E {P : Program} {f : FuncId} {args : List AV} {Z0 Ze : GZ} {n : Nat} {c : VCode} (hf : fnV P f = some (n, c, [])) (hargs : args.length ≤ n) (hn : n ≤ 999)
   (h : wpV P c ⟨c8l 0 args, [(1000, .gh Z0 [] [])]⟩ ⟨EndI Ze, fun _ _ => False, EndI Ze, fun _ _ => False⟩) : b4z P false f args [(1000, .gh Z0 [] [])] (.tup []) [(1000, .gh Ze [] [])] :=
 d8a hf hargs rfl rfl (a4H (c8u hn _ _ _ h) fun s h => by
   obtain ⟨Z, h1, h2, h3⟩ := h
   obtain ⟨D, g1, g2⟩ := a0J (H' := [(1000, .gh Z [] [])]) (s := s) ⟨h1, trivial⟩ h3 rfl
   have g3 : look (s.drops D).hp 1000 = some (.gh Z [] []) := by rw [g2]; rfl
   refine ⟨(s.drops D).add 1000 (.gh Ze [] []), [], (c8v D g1 s).trans (b5E g3 h2), rfl, rfl, fun id => ?_, fun h => by cases h⟩
   rw [d2m]
   by_cases e : 1000 = id
   · subst e; simp [look]
   · rw [if_neg e, g2]; simp [look, e])
theorem b7E {P : Program} {l g : Nat} {Z Z' : GZ} {b : Bool} {xs : List AV} {ops : List Operand} {s : St} {K : St → AV → Prop} (hy : b2U P l xs Z b Z') (hg : look s.hp g = some (.gh Z [] []))
   (hops : ops.map s.ev = xs) (hpl : xs.all AV.plain = true) (hk : K (s.join [(g, .gh Z' [] [])]) (.iv (.v (.bool b)))) : a8S P l ops s K := ⟨s, g, Z, b, Z', xs, Le.refl s, hg, ⟨hops, hpl⟩, hy, hk⟩
theorem b8E {P : Program} {g : Operand} {ps : List Nat} {X Y : VCode} {s : St} {O : Outs} (D D' : List Nat) (r : Nat) (fr : List (Nat × AV)) (I : List (List AV) → Prop) (H : List (List AV) → Hp)
   {f : FuncId} {caps : List IV} {Pre : List (List AV) → List AV → Prop} {S : List (List AV) → Prop} (hspec : b5o P f caps Pre S) (h0 : LeTo D s ⟨fr, H []⟩) (hg : St.ev ⟨fr, H []⟩ g = .fn f [] (caps.map CapV.val)) (hok : okFn P f = true)
   (hr : r < 1000) (hr0 : look (H []) r = none) (hnd : (fr.map (·.1)).Nodup) (hlen : ∀ pre x, Pre pre x → x.length = ps.length) (hI : I [])
   (hround : ∀ vs pre x, I pre → Pre pre x → I (pre ++ [x]) ∧ wpV P X (parS ps x ⟨fr, (r, .gh ZT vs (frCs fr)) :: H pre⟩)
     ⟨fun s' => wpV P Y s' ⟨fun s2 => LeTo D' s2 ⟨[], (r, .gh ZT vs (frCs fr)) :: H (pre ++ [x])⟩, fun _ _ => False, fun _ => False, fun _ _ => False⟩, fun _ _ => False, fun _ => False, fun _ _ => False⟩)
   (hend : ∀ vs xs, I xs → S xs → O.n ⟨fr, (r, .gh ZT vs (frCs fr)) :: H xs⟩) : rngW P g ps X Y s O := by
 refine ⟨f, caps, Pre, S, r, fr, I, H, fun _ _ => true, fun _ _ => [], ⟨h0.le, hg, hok, hspec, hr, hr0, hnd, hlen, hI⟩, fun vs pre x q1 q2 _ => ⟨(hround vs pre x q1 q2).1, ?_⟩, fun _ _ _ _ _ h => (by cases h), fun vs xs q1 q2 => ⟨_, Le.refl _, hend vs xs q1 q2⟩⟩
 refine c4f X ?_ ?_ ?_ ?_ (hround vs pre x q1 q2).2
 · intro s h
   refine c4f Y ?_ ?_ ?_ ?_ h
   · exact fun s2 h => h.le
   · exact fun _ _ h => h
   · exact fun _ h => h
   · exact fun _ _ h => h
 · exact fun _ _ h => h
 · exact fun _ h => h
 · exact fun _ _ h => h
def EndR (t : Nat) (R : AV → Hp → Prop) (s : St) : Prop := ∃ (D : List Nat) (x : AV) (H' : Hp), R x H' ∧ LeTo D s ⟨[(t, x)], H'⟩
theorem b9E {P : Program} {f : FuncId} {args : List AV} {n t : Nat} {c : VCode} (R : AV → Hp → Prop) (hf : fnV P f = some (n, c, [.tmp t])) (hargs : args.length ≤ n) (hn : n ≤ 999)
   (hR : ∀ x H', R x H' → (∀ id o, look H' id = some o → o.isLent = false) ∧ (∀ cs, x ≠ .tup cs))
   (h : wpV P c ⟨c8l 0 args, []⟩ ⟨EndR t R, fun _ _ => False, EndR t R, fun _ _ => False⟩) : b5z P false f args [] R :=
 d7a hf hargs rfl rfl (fun x H' h => (hR x H' h).1) (a4H (c8u hn _ _ _ h) fun s h => by
   obtain ⟨D, x, H', h1, h2⟩ := h
   exact ⟨⟨[(t, x)], H'⟩, [x], H', h2.le, by simp [resV, St.get, look], h1, fun _ => rfl, fun h => by cases h⟩)
theorem b0F {P : Program} {f : FuncId} {args : List AV} {n t : Nat} {c : VCode} (R : AV → Hp → Prop) (hf : fnV P f = some (n, c, [.tmp t])) (hargs : args.length ≤ n) (hn : n ≤ 999)
   (hR : ∀ x H', R x H' → (∀ id o, look H' id = some o → o.isLent = false ∧ o.flat) ∧ x.flat = true)
   (h : wpV P c ⟨c8l 0 args, []⟩ ⟨EndR t R, fun _ _ => False, EndR t R, fun _ _ => False⟩) : b5z P true f args [] R :=
 d7a hf hargs rfl rfl (fun x H' h id o ho => ((hR x H' h).1 id o ho).1) (a4H (c8u hn _ _ _ h) fun s h => by
   obtain ⟨D, x, H', h1, h2⟩ := h
   exact ⟨⟨[(t, x)], H'⟩, [x], H', h2.le, by simp [resV, St.get, look], h1, fun _ => rfl, fun _ => ⟨(hR x H' h1).2, fun id o ho => ((hR x H' h1).1 id o ho).2⟩⟩)
attribute [simp] b4U
theorem b1F {P : Program} {d : Nat} {f : FuncId} {ops : List Operand} {s : St} {K : St → AV → Prop} {args : List AV} {R : AV → Hp → Prop} (h : b5z P true f args [] R)
   (ha : b4U (s.drop d) true [] ((s.drop d).args [] ops []) args) (hr : args.all (AV.inns []) = true)
   (hnew : ∀ x H', R x H' → ∀ id o, look H' id = some o → look (s.drop d).hp id = none ∧ id < 1000) (hk : ∀ x H', R x H' → K ((s.drop d).join H') x) : a7S P d f [] ops [] none s K :=
 ⟨s, Le.refl s, true, [], R, s.drop d, rfl, trivial, args, ha, { spec := h, refs := hr, sub := fun _ _ h => (by cases h), own := fun _ _ h => (by cases h), keep := fun _ _ _ _ _ h => (by cases h), new := fun x H' hR id o h1 _ => hnew x H' hR id o h1 }, hk⟩
end Go.Vm
end

section
namespace Go.Vm
theorem d8s {P : Program} {d : Nat} {f : FuncId} {ops : List Operand} {s s1 : St} {K : St → AV → Prop} {args : List AV} {res : AV} {H' : Hp} (h : b4z P false f args [] res H')
   (hs1 : (s.frz ((s.args [] ops []).filter fun x => !x.inns [])).drop d = s1)
   (ha : ((s1.args [] ops []).map (s1.arg false [])) = args) (hr : args.all (AV.inns []) = true) (hn : a6G H' (H'.map (·.1)) = true) (hf : H'.all (fun p => decide (p.1 < 1000) && (look s1.hp p.1).isNone) = true)
   (hk : K (s1.join H') res) : a7S P d f [] ops [] none s K := by
 refine b8U ⟨s, Le.refl s, false, [], res, H', s1, hs1.symm, trivial, { spec := ?_, refs := ?_, sub := fun _ _ h => ?_, own := fun _ _ h => ?_, keep := fun _ _ h => ?_, new := fun id o h1 _ => ?_ }, hk⟩
 · rw [List.map_nil]; rw [ha]; exact h
 · rw [List.map_nil]; rw [ha]; exact hr
 · cases h
 · cases h
 · cases h
 · have := List.all_eq_true.1 hf _ (d6a h1)
   simp only [Bool.and_eq_true, decide_eq_true_eq, Option.isNone_iff_eq_none] at this
   exact ⟨this.2, this.1⟩
theorem d8m {s : St} {t : Nat} {y : IV} (h : (s.get t).ivc = some y) : Le s (s.set t (.iv y)) := by
 rintro E n a w ⟨ψ, hs⟩
 refine ⟨ψ, { hs with frame := fun u => ?_ }⟩
 rw [St.get_set]
 split
 · rename_i e; subst e
   exact .iv _ _ (c9B (hs.frame t) h (fun _ _ h => h))
 · exact hs.frame u
def EndV (D : List Nat) (t : Nat) (x : IV) (s : St) : Prop := D.all (· < 1000) = true ∧ ((s.drops D).get t).ivc = some x ∧ a2G s.hp = true
theorem d9m {P : Program} {f : FuncId} {args : List AV} {x : IV} {n t : Nat} {c : VCode} (hf : fnV P f = some (n, c, [.tmp t]))
   (hargs : args.length ≤ n) (hn : n ≤ 999) (h : wpV P c ⟨c8l 0 args, []⟩ ⟨fun s => ∃ D, EndV D t x s, fun _ _ => False, fun s => ∃ D, EndV D t x s, fun _ _ => False⟩) : b4z P false f args [] (.iv x) [] :=
 d8a hf hargs rfl rfl (a4H (c8u hn _ _ _ h) fun s h => by
   obtain ⟨D, h1, h2, h3⟩ := h
   have hk : (((s.drops D).set t (.iv x)).hp.map (·.1)).all (· < 1000) = true := by
     show ((s.drops D).hp.map (·.1)).all (· < 1000) = true
     rw [List.all_eq_true]
     intro k hk
     exact List.all_eq_true.1 (a5G h3) k (d6p D hk)
   refine ⟨((s.drops D).set t (.iv x)).drops (((s.drops D).set t (.iv x)).hp.map (·.1)), [.iv x], ((c8v D h1 s).trans (d8m h2)).trans (c8v _ hk _), ?_, rfl, fun id => ?_, fun h => by cases h⟩
   · simp [resV, a7F _ (show ((s.drops D).set t (.iv x)).get t = .iv x by rw [St.get_set, if_pos rfl])]
   · refine a9F _ ?_
     cases hl : Vm.look ((s.drops D).set t (.iv x)).hp id with
     | none => exact .inr rfl
     | some o => exact .inl (List.contains_iff_mem.1 (b8z hl)))
theorem d0n {s : St} {t sz id : Nat} (h : s.get t = .nil sz) (hno : Vm.look s.hp id = none) (hid : id < 1000) : Le s ((s.add id (.list sz [])).set t (.sl id sz 0 0)) := by
 rintro E n a w ⟨ψ, hs⟩
 have h1 := hs.new (o := .list sz []) (p := none) (w' := w) hid hno (Ext.refl w) (fun b k e => by cases e) ⟨fun _ h => (by cases h), .inl ⟨by simp [upd], rfl⟩⟩
 have hψ : upd ψ id none id = none := by simp [upd]
 refine ⟨_, { h1 with frame := fun u => ?_ }⟩
 have hf := h1.frame u
 rw [St.get_set]
 split
 · rename_i e; subst e
   rw [show (s.add id (.list sz [])).get t = .nil sz from h] at hf
   generalize a.tmps.getD t undef = v at hf
   cases hf
   exact .sl0 id sz (.list sz []) 0 (by rw [show ((s.add id (.list sz [])).set t (.sl id sz 0 0)).hp = (s.add id (.list sz [])).hp from rfl, d2m, if_pos rfl]) rfl hψ
 · exact hf
def d9s (D : List Nat) (t u : Nat) (x y : IV) (s : St) : Prop := D.all (· < 1000) = true ∧ ((s.drops D).get t).ivc = some x ∧ (s.drops D).get u = .iv y ∧ a2G s.hp = true
theorem d0t {P : Program} {f : FuncId} {args : List AV} {x y : IV} {n t u : Nat} {c : VCode} (htu : t ≠ u) (hf : fnV P f = some (n, c, [.tmp t, .tmp u]))
   (hargs : args.length ≤ n) (hn : n ≤ 999) (h : wpV P c ⟨c8l 0 args, []⟩ ⟨fun s => ∃ D, d9s D t u x y s, fun _ _ => False, fun s => ∃ D, d9s D t u x y s, fun _ _ => False⟩) : b4z P false f args [] (.tup [.iv x, .iv y]) [] :=
 d8a hf hargs rfl rfl (a4H (c8u hn _ _ _ h) fun s h => by
   obtain ⟨D, h1, h2, h4, h3⟩ := h
   have hk : (((s.drops D).set t (.iv x)).hp.map (·.1)).all (· < 1000) = true := by
     show ((s.drops D).hp.map (·.1)).all (· < 1000) = true
     rw [List.all_eq_true]
     intro k hk
     exact List.all_eq_true.1 (a5G h3) k (d6p D hk)
   refine ⟨((s.drops D).set t (.iv x)).drops (((s.drops D).set t (.iv x)).hp.map (·.1)), [.iv x, .iv y], ((c8v D h1 s).trans (d8m h2)).trans (c8v _ hk _), ?_, rfl, fun id => ?_, fun h => by cases h⟩
   · simp [resV, a7F _ (show ((s.drops D).set t (.iv x)).get t = .iv x by rw [St.get_set, if_pos rfl]), a7F _ (show ((s.drops D).set t (.iv x)).get u = .iv y by rw [St.get_set, if_neg (by first | exact htu | exact Ne.symm htu)]; exact h4)]
   · refine a9F _ ?_
     cases hl : Vm.look ((s.drops D).set t (.iv x)).hp id with
     | none => exact .inr rfl
     | some o => exact .inl (List.contains_iff_mem.1 (b8z hl)))
end Go.Vm
end

section
namespace Go.Vm
theorem c2x {P : Program} {d : Nat} {f : FuncId} {pre post : List CapV} {ops : List Operand} {y : Option Operand} {s s' : St} {K : St → AV → Prop} (h : Le s s')
   (k : a7S P d f pre ops post y s' K) : a7S P d f pre ops post y s K := by
 obtain ⟨s2, h2, h3⟩ := k
 exact ⟨s2, h.trans h2, h3⟩
end Go.Vm
end

section
namespace Go.Rt
open Go.Vm
theorem c9g : okFn prog n_a4g = true := by kernel_rfl
theorem c0h : okFn prog n_a7g = true := by kernel_rfl
def c1h (r : List Vl) (p : Pd) : Prop := b4z prog true n_a9e [p.av, .iv (.lst 3 (rowC r))] [] (vb (p.holds r)) []
theorem c2h {r : List Vl} {q : Pd} (h : c1h r q) : b4z prog true n_a4g [q.av, .iv (.pt [.lst 3 (rowC r)])] [] (vb (q.holds r)) [] := by
 refine a5H a4g_is (by simp) (by decide) rfl ?_
 simp -dsimp [a4g, Pd.av_eq]
 refine a1G h (by simp [Pd.av_eq]) (by simp [Pd.av_eq]) ?_
 simp -dsimp
def Hc (r : List Vl) : Ob := .box [.fn n_a4g [] [.val (.pt [.lst 3 (rowC r)])]]
@[simp] theorem Hc_hi (r : List Vl) : (Hc r).hi = true := rfl
theorem c3h {r : List Vl} {q : Pd} (h : c1h r q) : b4z prog false n_a7g [q.av, .ptr 1000 0] [(1000, Hc r)] (vb (!q.holds r)) [(1000, Hc r)] := by
 refine a2J a7g_is (by simp) (by decide) (by simp) rfl ?_
 simp -dsimp [a7g, Pd.av_eq, Hc]
 refine ⟨c9g, a5K (c2h h) (by simp) (by simp [Pd.av_eq]) (by simp [Pd.av_eq]) ?_⟩
 simp -dsimp
 rfl
theorem c4h {l : List Pd} (hl : l.length < 2 ^ 63) {r : List Vl} (h : ∀ q, q ∈ l → c1h r q) :
   b4z prog true n_a9h [.iv (.lst 9 (l.map Pd.cells)), .fn n_a4g [] [.val (.pt [.lst 3 (rowC r)])]] [] (vi (ixP (Pd.holds r) l)) [] := by
 refine a5H a9h_is (by simp) (by decide) rfl ?_
 simp -dsimp [a9h]
 refine a8H [] [] l.length (fun i => ⟨[(8, vi i), (7, vi l.length), (0, .iv (.lst 9 (l.map Pd.cells))), (1, .fn n_a4g [] [.val (.pt [.lst 3 (rowC r)])])], []⟩) (fun i => Upto i fun j => ∀ e, l[j]? = some e → e.holds r = false) ?_ c2Z ?_
 · simp -dsimp
 · intro i hi hq
   simp -dsimp [a9h_l7]
   refine ⟨fun hlt => ?_, fun hge => ?_⟩
   · obtain ⟨e, he⟩ := c3Z hlt
     have hw := c4Z (n := (i : Int) + 1) (by omega)
     simp -dsimp [he, Pd.cells_eq e]
     refine ⟨c9g, a5K (c2h (h e (List.mem_of_getElem? he))) (by simp) (by simp [Pd.av_eq]) (by simp [Pd.av_eq]) ?_⟩
     cases hf : e.holds r with
     | true =>
       have := b7L (p := Pd.holds r) he hf hq
       simp -dsimp [this]
     | false =>
       simp -dsimp [hw]
       exact ⟨hlt, hq.succ fun y hy => by rw [he] at hy; cases hy; exact hf⟩
   · rw [b8L (b9L hge hq)]
theorem c5h {l : List Pd} (hl : l.length < 2 ^ 63) {r : List Vl} (h : ∀ q, q ∈ l → c1h r q) :
   b4z prog false n_a9h [.iv (.lst 9 (l.map Pd.cells)), .fn n_a7g [] [.ptr 1000 0]] [(1000, Hc r)] (vi (ixP (fun q => !q.holds r) l)) [(1000, Hc r)] := by
 refine a2J a9h_is (by simp) (by decide) (by simp) rfl ?_
 simp -dsimp [a9h]
 refine a8H [] [] l.length (fun i => ⟨[(8, vi i), (7, vi l.length), (0, .iv (.lst 9 (l.map Pd.cells))), (1, .fn n_a7g [] [.ptr 1000 0])], [(1000, Hc r)]⟩) (fun i => Upto i fun j => ∀ e, l[j]? = some e → (!e.holds r) = false) ?_ c2Z ?_
 · simp -dsimp
 · intro i hi hq
   simp -dsimp [a9h_l7]
   refine ⟨fun hlt => ?_, fun hge => ?_⟩
   · obtain ⟨e, he⟩ := c3Z hlt
     have hw := c4Z (n := (i : Int) + 1) (by omega)
     simp -dsimp [he, Pd.cells_eq e]
     refine ⟨c0h, a4K (c3h (h e (List.mem_of_getElem? he))) rfl (by simp) (by simp [Pd.av_eq]) (by simp [Pd.av_eq]) (by simp) (by simp [Hc]) (by simp [Hc]) (by simp) ?_⟩
     cases hf : e.holds r with
     | true =>
       simp -dsimp [hw]
       exact ⟨hlt, Upto.succ (fun j hj y hy => by simpa using hq j hj y hy) fun y hy => by rw [he] at hy; cases hy; exact hf⟩
     | false =>
       have := b7L (p := fun q => !Pd.holds r q) he (by rw [hf]; rfl) hq
       simp -dsimp [this]
   · rw [b8L (b9L hge hq)]
theorem c6h {α : Type} (p : α → Bool) (l : List α) : decide (0 ≤ ixP p l) = l.any p := by
 rw [Bool.eq_iff_iff, decide_eq_true_eq, b1M, List.any_eq_true]
theorem c7h {l : List Pd} (hl : l.length < 2 ^ 63) {r : List Vl} (h : ∀ q, q ∈ l → c1h r q) :
   b4z prog true n_a6g [.iv (.lst 9 (l.map Pd.cells)), .fn n_a4g [] [.val (.pt [.lst 3 (rowC r)])]] [] (vb (anyB r l)) [] := by
 refine a5H a6g_is (by simp) (by decide) rfl ?_
 simp -dsimp [a6g]
 refine a1G (c4h hl h) (by simp) (by simp) ?_
 simp -dsimp
 have := c6h (Pd.holds r) l
 simpa [anyB] using this
theorem c8h {l : List Pd} (hl : l.length < 2 ^ 63) {r : List Vl} (h : ∀ q, q ∈ l → c1h r q) :
   b4z prog false n_a6g [.iv (.lst 9 (l.map Pd.cells)), .fn n_a7g [] [.ptr 1000 0]] [(1000, Hc r)] (vb (!allB r l)) [(1000, Hc r)] := by
 refine a2J a6g_is (by simp) (by decide) (by simp) rfl ?_
 simp -dsimp [a6g]
 refine a4K (c5h hl h) rfl (by simp) (by simp) (by simp) (by simp) (by simp [Hc]) (by simp [Hc]) (by simp) ?_
 simp -dsimp
 have := c6h (fun q => !Pd.holds r q) l
 have h2 : (l.any fun q => !Pd.holds r q) = !allB r l := by unfold allB; rw [List.not_all_eq_any_not]
 rw [h2] at this
 simpa using this
theorem c9h {l : List Pd} (hl : l.length < 2 ^ 63) {r : List Vl} (h : ∀ q, q ∈ l → c1h r q) :
   b4z prog false n_a6g [.iv (.lst 9 (l.map Pd.cells)), .fn n_a7g [] [.ptr 5 0]] [(5, Hc r)] (vb (!allB r l)) [(5, Hc r)] :=
 (c8h hl h).ren (Ren.swaps [(1000, 5)]) rfl
set_option maxHeartbeats 4000000 in
theorem c0i {p : Pd} (h : p.Ok) (r : List Vl) (hr : r.length < 2 ^ 63) : c1h r p := by
 induction h with
 | mk p hl _ _ hq ih =>
 refine a5H a9e_is (by simp) (by decide) rfl ?_
 rw [Pd.holds_eq']
 by_cases o1 : p.op = 1
 · simp -dsimp [a9e, Pd.av_eq, o1]
 · by_cases ho : 3 ≤ p.op ∧ p.op ≤ 9
   · rw [if_pos ho]
     have : p.op = 3 ∨ p.op = 4 ∨ p.op = 5 ∨ p.op = 6 ∨ p.op = 7 ∨ p.op = 8 ∨ p.op = 9 := by omega
     rcases this with o | o | o | o | o | o | o
     all_goals
       simp -dsimp [a9e, Pd.av_eq, o]
       refine a1G (c5e p r hr) (by simp [Pd.av_eq, o]) (by simp [Pd.av_eq]) ?_
       simp -dsimp
   · rw [if_neg ho]
     have n3 : ¬p.op = 3 := by omega
     have n4 : ¬p.op = 4 := by omega
     have n5 : ¬p.op = 5 := by omega
     have n6 : ¬p.op = 6 := by omega
     have n7 : ¬p.op = 7 := by omega
     have n8 : ¬p.op = 8 := by omega
     have n9 : ¬p.op = 9 := by omega
     by_cases o10 : p.op = 10
     · simp -dsimp [a9e, Pd.av_eq, o10]
       cases hpl : p.l with
       | nil => simp -dsimp [hpl, fstB]
       | cons a b =>
         have ha : a ∈ p.l := by rw [hpl]; exact List.mem_cons_self
         simp -dsimp [hpl, Pd.cells_eq a]
         refine ⟨c9g, a5K (c2h (ih a ha)) (by simp) (by simp [Pd.av_eq]) (by simp [Pd.av_eq]) ?_⟩
         simp -dsimp [fstB]
     · by_cases o11 : p.op = 11
       · simp -dsimp [a9e, Pd.av_eq, o11]
         refine c2x (c8v [3] (by decide) _) ?_
         refine a4K (c9h (l := p.l) hl ih) rfl (by simp) (by simp) (by simp) (by simp [Hc]) (by simp [Hc]) (by simp [Hc]) (by simp) ?_
         simp -dsimp
       · by_cases o12 : p.op = 12
         · simp -dsimp [a9e, Pd.av_eq, o12]
           refine a1G (c7h (l := p.l) hl ih) (by simp) (by simp) ?_
           simp -dsimp
         · simp -dsimp [a9e, Pd.av_eq, o1, n3, n4, n5, n6, n7, n8, n9, o10, o11, o12]
end Go.Rt
end

section
namespace Go.Vm
@[simp] theorem ev_pn {s : St} : s.ev (.const (.pointer none)) = .iv (.v (.pointer none)) := rfl
theorem b1l {s : St} {j i sz id : Nat} {cs : List AV} (h : look s.hp j = some (.box cs)) (hi : cs[i]? = some (.nil sz)) (hno : look s.hp id = none) (hid : id < 1000) :
   Le s ((s.add id (.list sz [])).add j (.box (cs.set i (.sl id sz 0 0)))) := by
 rintro E n a w ⟨ψ, hs⟩
 have h1 := hs.new (o := .list sz []) (p := none) (w' := w) hid hno (Ext.refl w) (fun b k e => by cases e) ⟨fun _ h => (by cases h), .inl ⟨by simp [upd], rfl⟩⟩
 have hj : j ≠ id := by rintro rfl; rw [hno] at h; cases h
 have hl : look (s.add id (.list sz [])).hp j = some (.box cs) := by rw [d2m, if_neg (Ne.symm hj)]; exact h
 obtain ⟨b, c, e, g1, g2, g3, g4⟩ := h1.obs j _ hl
 have hψ : upd ψ id none id = none := by simp [upd]
 refine ⟨_, h1.chg (o' := .box (cs.set i (.sl id sz 0 0))) hl (Ob.le_none rfl) rfl (fun h => by cases h) g1 (fun _ _ => rfl) rfl ⟨rfl, rfl, rfl, Nat.le_refl _⟩ fun hm _ => ⟨b, c, e, g1, g2, by simpa using g3, fun k x hx => ?_⟩⟩
 rw [List.getElem?_set] at hx
 split at hx
 · rename_i e1
   subst e1
   split at hx
   · simp only [Option.some.injEq] at hx
     subst hx
     have := g4 i _ hi
     generalize c.getD i undef = v at this
     cases this
     exact .sl0 id sz (.list sz []) 0 (by rw [d2m, if_neg hj, d2m, if_pos rfl]) rfl hψ
   · cases hx
 · exact hm x _ (g4 k x hx)
theorem b2l {P : Program} {c : VCode} {s : St} {O : Outs} (D' : List Nat) (n : Nat) (S : Nat → St) (Q : Nat → Prop) (h0 : Le s (S 0)) (q0 : Q 0)
   (hs : ∀ i, i ≤ n → Q i → wpV P c (S i) { O with n := fun s2 => i < n ∧ LeTo D' s2 (S (i + 1)) ∧ Q (i + 1) }) : a9S P c s O := by
 refine ⟨fun k s => ∃ i, i ≤ n ∧ k = n - i ∧ s = S i ∧ Q i, h0.x ⟨_, 0, Nat.zero_le _, rfl, rfl, q0⟩, ?_⟩
 rintro k s' ⟨i, hi, rfl, rfl, hq⟩
 refine c4f c (O := { O with n := fun s2 => i < n ∧ LeTo D' s2 (S (i + 1)) ∧ Q (i + 1) }) (fun s2 h => ?_) (fun _ _ h => h) (fun _ h => h) (fun _ _ h => h) (hs i hi hq)
 obtain ⟨hlt, hle, hq'⟩ := h
 exact ⟨_, _, by omega, hle.le, i + 1, hlt, rfl, rfl, hq'⟩
end Go.Vm
end
