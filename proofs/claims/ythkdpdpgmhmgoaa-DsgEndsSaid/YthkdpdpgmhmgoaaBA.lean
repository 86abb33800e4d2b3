/- Contracts of functions of the program, and what they lean on. Conditions: those of each theorem. -/
import Derived.Calls
import Derived.Laws.World
import Derived.Laws.Sem
import Derived.RangeFuncLeaves
import Derived.RangeFuncRecord
import Derived.OrdersIn
import Derived.TacticsIn
import Derived.LoopIn

set_option linter.unusedVariables false
set_option linter.unusedSimpArgs false

section
namespace Go.Vm
inductive Kd where
 | b
 | i (k : IntKind)
 | s
 deriving DecidableEq, Inhabited
def kdOf : Value → Option Kd
 | .bool _ => some .b
 | .int k _ => some (.i k)
 | .string _ => some .s
 | _ => none
abbrev Sk := Bool × List Kd × Bool
def skOf : Value → Option (Bool × List Kd)
 | .agg cs => (cs.toList.mapM kdOf).map fun l => (true, l)
 | v => (kdOf v).map fun k => (false, [k])
inductive IV where
 | v (x : Value)
 | lst (sz : Nat) (xs : List (List IV))
 | pt (cs : List IV)
 | mp (sk : Sk) (g : List Value → Option (List IV))
 deriving Inhabited
def at2 {α : Type} (xs : List (List α)) (i j : Nat) : Option α := xs[i]?.bind (·[j]?)
def c5v (v : Value) : List Value := v.cells.toList
def c6v : Value → Bool
 | .agg _ => true
 | _ => false
def Fits (sk : Sk) (e : MapEntry) : Prop := skOf e.key = some (sk.1, sk.2.1) ∧ c6v e.val = sk.2.2
def Born (es : Array MapEntry) (clock : Nat) : Prop := (∀ e ∈ es.toList, e.born < clock) ∧ (es.toList.map (·.born)).Nodup
inductive RIV (A : Nat → Prop) (w : World) : IV → Value → Prop
 | v (x : Value) (h1 : x.oneCell' = true) : RIV A w (.v x) x
 | lnil (sz : Nat) : RIV A w (.lst sz []) (.slice none 0 0)
 | lst (sz : Nat) (xs : List (List IV)) (b off cap : Nat) (a : Addr) (vs : Nat → Nat → Value)
     (ha : xs ≠ [] → a = ⟨b, off, none⟩) (hs : ∀ x ∈ xs, x.length = sz) (hcap : xs.length ≤ cap)
     (hc : ∀ i j c, at2 xs i j = some c → A b ∧ w.cell? ⟨b, off + (i * sz + j), none⟩ = some (vs i j))
     (hr : ∀ i j c, at2 xs i j = some c → RIV A w c (vs i j)) : RIV A w (.lst sz xs) (.slice (some a) xs.length cap)
 | pt (cs : List IV) (b off : Nat) (vs : Nat → Value)
     (hc : ∀ i c, cs[i]? = some c → A b ∧ w.cell? ⟨b, off + i, none⟩ = some (vs i))
     (hr : ∀ i c, cs[i]? = some c → RIV A w c (vs i)) : RIV A w (.pt cs) (.pointer (some ⟨b, off, none⟩))
 | mp (sk : Sk) (g : List Value → Option (List IV)) (b clock : Nat) (es : Array MapEntry) (vs : List Value → Nat → Value)
     (hA : A b) (hh : w.heap[b]? = some (.map es clock))
     (hsk : ∀ e ∈ es.toList, Fits sk e)
     (hin : ∀ e ∈ es.toList, ∃ c, g (c5v e.key) = some c)
     (hno : (es.toList.map fun e => c5v e.key).Nodup) (hst : Born es clock)
     (hg : ∀ k c, g k = some c → ∃ e ∈ es.toList, c5v e.key = k ∧ e.val.cells.size = c.length ∧ ∀ i x, c[i]? = some x → e.val.cells[i]? = some (vs k i))
     (hr : ∀ k c, g k = some c → ∀ i x, c[i]? = some x → RIV A w x (vs k i)) : RIV A w (.mp sk g) (.map (some b))
 | mnil (sk : Sk) (g : List Value → Option (List IV)) (h : ∀ k, g k = none) : RIV A w (.mp sk g) (.map none)
theorem c7v {w : World} {b : Nat} {o : Obj} (h : w.heap[b]? = some o) : b < w.heap.size := by
 rcases Nat.lt_or_ge b w.heap.size with h' | h'
 · exact h'
 · rw [Array.getElem?_eq_none h'] at h; cases h
theorem c8v {w w' : World} {b : Nat} (h : w'.heap[b]? = w.heap[b]?) (o : Nat) : w'.cell? ⟨b, o, none⟩ = w.cell? ⟨b, o, none⟩ := by
 simp only [World.cell?, h]
theorem RIV.mono {A A' : Nat → Prop} {w w' : World} {x : IV} {v : Value} (h : RIV A w x v)
   (hA : ∀ b, b < w.heap.size → A b → A' b) (hw : ∀ b, b < w.heap.size → A b → w'.heap[b]? = w.heap[b]?) : RIV A' w' x v := by
 induction h with
 | v x h1 => exact .v x h1
 | lnil sz => exact .lnil sz
 | lst sz xs b off cap a vs ha hs hcap hc hr ih =>
   refine .lst sz xs b off cap a vs ha hs hcap (fun i j c h => ?_) ih
   obtain ⟨h1, h2⟩ := hc i j c h
   have hb := World.block_lt_of_cell? w _ h2
   exact ⟨hA b hb h1, by rw [c8v (hw b hb h1)]; exact h2⟩
 | pt cs b off vs hc hr ih =>
   refine .pt cs b off vs (fun i c h => ?_) ih
   obtain ⟨h1, h2⟩ := hc i c h
   have hb := World.block_lt_of_cell? w _ h2
   exact ⟨hA b hb h1, by rw [c8v (hw b hb h1)]; exact h2⟩
 | mp sk g b clock es vs hA' hh hsk hin hno hst hg hr ih =>
   have hb := c7v hh
   exact .mp sk g b clock es vs (hA b hb hA') (by rw [hw b hb hA']; exact hh) hsk hin hno hst hg ih
 | mnil sk g h => exact .mnil sk g h
inductive CapV where
 | ptr (id off : Nat)
 | val (x : IV)
 deriving Inhabited
inductive AV where
 | iv (x : IV)
 | nil (sz : Nat)
 | sl (id sz lo len : Nat)
 | ptr (id off : Nat)
 | ep (id sz i off : Nat)
 | mpr (id : Nat)
 | fn (f : FuncId) (first caps : List CapV)
 | agg (cs : List AV)
 | tup (vs : List AV)
 | un
 | junk
 deriving Inhabited
abbrev GZ := (Nat → Prop) → (Nat → Prop) → World → Prop
inductive Ob where
 | box (cs : List AV)
 | list (sz : Nat) (xs : List (List IV))
 | map (sk : Sk) (g : List Value → Option (List IV))
 | mapS (sk : Sk) (g : List Value → Option (List IV)) (n : Int) (k : List Value)
 | lent (org sz : Nat) (xs : List (List IV))
 | mapo (sk : Sk) (sz : Nat) (g : List Value → Option (List (List IV))) (hole : Option (List Value))
 | listo (sz : Nat) (xs : List (List (List IV))) (hole : Option Nat)
 | iter (sk : Sk) (g : List Value → Option (List IV)) (left : List (List Value)) (last : Option (List Value))
 | gh (Z : GZ) (vs : List Value) (cs : List AV)
def Ob.dim : Ob → Option (Nat × Nat)
 | .list sz xs => some (sz, xs.length)
 | .lent _ sz xs => some (sz, xs.length)
 | .listo _ xs _ => some (1, xs.length)
 | _ => none
def Ob.org : Ob → Nat → Nat
 | .lent org _ _, _ => org
 | _, id => id
def Ob.isLent : Ob → Bool
 | .lent .. => true
 | _ => false
def Ob.multi : Ob → Bool
 | .mapo .. => true
 | .listo .. => true
 | .gh .. => true
 | _ => false
abbrev Hp := List (Nat × Ob)
def look {α : Type} : List (Nat × α) → Nat → Option α
 | [], _ => none
 | (j, x) :: r, k => if j = k then some x else look r k
structure Pl where
 main : Nat → Option (Nat × (Nat × Nat))
 sub : Nat → Nat → Prop
instance : CoeFun Pl (fun _ => Nat → Option (Nat × (Nat × Nat))) := ⟨Pl.main⟩
inductive RCap (A : Nat → Prop) (ψ : Pl) (H : Hp) (w : World) : CapV → Value → Prop
 | ptr (id off b : Nat) (k : Nat × Nat) (o : Ob) (ho : look H id = some o) (hb : ψ id = some (b, k)) : RCap A ψ H w (.ptr id off) (.pointer (some ⟨b, off, none⟩))
 | val (x : IV) (v : Value) (h1 : RIV A w x v) : RCap A ψ H w (.val x) v
inductive RAV (A : Nat → Prop) (ψ : Pl) (H : Hp) (w : World) : AV → Value → Prop
 | iv (x : IV) (v : Value) (h : RIV A w x v) : RAV A ψ H w (.iv x) v
 | nil (sz : Nat) : RAV A ψ H w (.nil sz) (.slice none 0 0)
 | sl0 (id sz : Nat) (o : Ob) (n : Nat) (ho : look H id = some o) (he : o.dim = some (sz, n)) (hb : ψ id = none) : RAV A ψ H w (.sl id sz 0 0) (.slice none 0 0)
 | sl (id sz lo len b : Nat) (k : Nat × Nat) (cap : Nat) (a : Addr) (o : Ob) (n : Nat) (ho : look H id = some o) (he : o.dim = some (sz, n)) (hx : lo + len ≤ n)
     (hb : ψ id = some (b, k)) (ha : 0 < cap → a = ⟨b, k.1 + lo * sz, none⟩) (hlc : len ≤ cap) (hk : (lo + cap) * sz ≤ k.2) (hm : cap < 2 ^ 63) :
     RAV A ψ H w (.sl id sz lo len) (.slice (some a) len cap)
 | ptr (id off b : Nat) (k : Nat × Nat) (o : Ob) (ho : look H id = some o) (hb : ψ id = some (b, k)) : RAV A ψ H w (.ptr id off) (.pointer (some ⟨b, off, none⟩))
 | ep (id sz i off b : Nat) (k : Nat × Nat) (o : Ob) (n : Nat) (ho : look H id = some o) (he : o.dim = some (sz, n)) (hi : i < n) (hb : ψ id = some (b, k)) :
     RAV A ψ H w (.ep id sz i off) (.pointer (some ⟨b, k.1 + (i * sz + off), none⟩))
 | mpr (id b : Nat) (k : Nat × Nat) (o : Ob) (ho : look H id = some o) (hb : ψ id = some (b, k)) : RAV A ψ H w (.mpr id) (.map (some b))
 | fn (f : FuncId) (first caps : List CapV) (vf vc : Array Value) (hf : vf.size = first.length) (hc : vc.size = caps.length)
     (h1 : ∀ i c, first[i]? = some c → RCap A ψ H w c (vf.getD i undef)) (h2 : ∀ i c, caps[i]? = some c → RCap A ψ H w c (vc.getD i undef)) :
     RAV A ψ H w (.fn f first caps) (.func (.func f) vf vc)
 | agg (cs : List AV) (vs : Array Value) (hl : vs.size = cs.length) (h : ∀ i c, cs[i]? = some c → RAV A ψ H w c (vs.getD i undef)) : RAV A ψ H w (.agg cs) (.agg vs)
 | tup (cs : List AV) (vs : Array Value) (hl : vs.size = cs.length) (h : ∀ i c, cs[i]? = some c → RAV A ψ H w c (vs.getD i undef)) : RAV A ψ H w (.tup cs) (.tuple vs)
 | un : RAV A ψ H w .un undef
 | junk (v : Value) : RAV A ψ H w .junk v
def Ob.le (o o' : Ob) : Prop := ∀ sz n, o.dim = some (sz, n) → ∃ n', o'.dim = some (sz, n') ∧ n ≤ n'
theorem Ob.le_refl (o : Ob) : o.le o := fun _ n h => ⟨n, h, Nat.le_refl _⟩
theorem Ob.le_none {o o' : Ob} (h : o.dim = none) : o.le o' := fun _ _ h' => by rw [h] at h'; cases h'
theorem Ob.le_of {o o' : Ob} {sz n n' : Nat} (h : o.dim = some (sz, n)) (h' : o'.dim = some (sz, n')) (hn : n ≤ n') : o.le o' := fun _ _ e => by
 rw [h] at e; cases e; exact ⟨n', h', hn⟩
def c9v (ψ ψ' : Pl) (H H' : Hp) : Prop := ∀ id o, look H id = some o → (∃ o', look H' id = some o' ∧ o.le o') ∧ ψ' id = ψ id
theorem c9v.refl (ψ : Pl) (H : Hp) : c9v ψ ψ H H := fun _ o h => ⟨⟨o, h, o.le_refl⟩, rfl⟩
theorem c9v.dim {ψ ψ' : Pl} {H H' : Hp} (h : c9v ψ ψ' H H') {id sz n : Nat} {o : Ob} (ho : look H id = some o) (he : o.dim = some (sz, n)) :
   ∃ o' n', look H' id = some o' ∧ o'.dim = some (sz, n') ∧ n ≤ n' := by
 obtain ⟨⟨o', h1, h2⟩, _⟩ := h id _ ho
 obtain ⟨n', h3, h4⟩ := h2 sz n he
 exact ⟨o', n', h1, h3, h4⟩
theorem RCap.mono {A A' : Nat → Prop} {ψ ψ' : Pl} {H H' : Hp} {w w' : World} {c : CapV} {v : Value} (h : RCap A ψ H w c v)
   (hA : ∀ b, b < w.heap.size → A b → A' b) (hw : ∀ b, b < w.heap.size → A b → w'.heap[b]? = w.heap[b]?) (hk : c9v ψ ψ' H H') : RCap A' ψ' H' w' c v := by
 cases h with
 | ptr id off b k o ho hb =>
   obtain ⟨⟨o', h1, _⟩, h2⟩ := hk id o ho
   exact .ptr id off b k o' h1 (by rw [h2]; exact hb)
 | val x v h1 => exact .val x v (h1.mono hA hw)
theorem RAV.mono {A A' : Nat → Prop} {ψ ψ' : Pl} {H H' : Hp} {w w' : World} {x : AV} {v : Value} (h : RAV A ψ H w x v)
   (hA : ∀ b, b < w.heap.size → A b → A' b) (hw : ∀ b, b < w.heap.size → A b → w'.heap[b]? = w.heap[b]?) (hk : c9v ψ ψ' H H') : RAV A' ψ' H' w' x v := by
 induction h with
 | iv x v h => exact .iv x v (h.mono hA hw)
 | nil sz => exact .nil sz
 | sl0 id sz o n ho he hb =>
   obtain ⟨o', n', h1, h2, h3⟩ := hk.dim ho he
   exact .sl0 id sz o' n' h1 h2 (by rw [(hk id _ ho).2]; exact hb)
 | sl id sz lo len b k cap a o n ho he hx hb ha hlc hk' hm =>
   obtain ⟨o', n', h1, h2, h3⟩ := hk.dim ho he
   exact .sl id sz lo len b k cap a o' n' h1 h2 (Nat.le_trans hx h3) (by rw [(hk id _ ho).2]; exact hb) ha hlc hk' hm
 | ptr id off b k o ho hb =>
   obtain ⟨⟨o', h1, _⟩, h2⟩ := hk id o ho
   exact .ptr id off b k o' h1 (by rw [h2]; exact hb)
 | ep id sz i off b k o n ho he hi hb =>
   obtain ⟨o', n', h1, h2, h3⟩ := hk.dim ho he
   exact .ep id sz i off b k o' n' h1 h2 (Nat.lt_of_lt_of_le hi h3) (by rw [(hk id _ ho).2]; exact hb)
 | mpr id b k o ho hb =>
   obtain ⟨⟨o', h1, _⟩, h2⟩ := hk id o ho
   exact .mpr id b k o' h1 (by rw [h2]; exact hb)
 | fn f first caps vf vc hf hc h1 h2 =>
   exact .fn f first caps vf vc hf hc (fun i c h => (h1 i c h).mono hA hw hk) (fun i c h => (h2 i c h).mono hA hw hk)
 | agg cs vs hl _ ih => exact .agg cs vs hl ih
 | tup cs vs hl _ ih => exact .tup cs vs hl ih
 | un => exact .un
 | junk v => exact .junk v
end Go.Vm
end

section
namespace Go.Vm
structure St where
 fr : List (Nat × AV)
 hp : Hp
def St.get (s : St) (t : Nat) : AV := (look s.fr t).getD .junk
def St.set (s : St) (d : Nat) (x : AV) : St := { s with fr := (d, x) :: s.fr }
def St.put (s : St) (d : Option Nat) (x : AV) : St := match d with | some d => s.set d x | none => s
theorem St.get_set (s : St) (d t : Nat) (x : AV) : (s.set d x).get t = if d = t then x else s.get t := by
 simp only [St.get, St.set, look]; split <;> rfl
def Owns (ψ : Pl) (id b : Nat) : Prop := (∃ k, ψ id = some (b, k)) ∨ ψ.sub id b
structure En where
 A : Nat → Prop
 w : World
 ids : List Nat
 ψ : Pl
 big : ∀ id ∈ ids, 1000 ≤ id
 disj : ∀ b id, id ∈ ids → Owns ψ id b → ¬ A b
 there : ∀ id b, id ∈ ids → Owns ψ id b → b < w.heap.size
 inA : ∀ b, A b → b < w.heap.size
 pool : Nat → Prop
 poolW : ∀ b, pool b → b < w.heap.size
 poolA : ∀ b, pool b → ¬ A b
 poolI : ∀ b id, id ∈ ids → Owns ψ id b → ¬ pool b
def En.mp (E : En) (b : Nat) : Prop := (∃ id ∈ E.ids, Owns E.ψ id b) ∨ E.pool b
def En.fresh (E : En) (b : Nat) : Prop := E.pool b ∨ E.w.heap.size ≤ b
theorem En.new {E : En} {b : Nat} (h : E.w.heap.size ≤ b) : E.fresh b := .inr h
theorem En.no {E : En} {b : Nat} {α : Prop} (hb : b < E.w.heap.size) (hm : ¬ E.mp b) (h : E.fresh b) : α := by
 rcases h with h | h
 · exact absurd (.inr h) hm
 · omega
def Held (ψ : Pl) (H : Hp) (b : Nat) : Prop := ∃ id o, look H id = some o ∧ Owns ψ id b
def Subs (ψ : Pl) (H : Hp) (w : World) : Prop := ∀ id o b, look H id = some o → ψ.sub id b → o.multi = true ∧ b < w.heap.size ∧ ∀ k, ψ id ≠ some (b, k)
def Im (E : En) (ψ : Pl) (H : Hp) (b : Nat) : Prop := (E.A b ∨ E.fresh b) ∧ ¬ Held ψ H b
def ctl : Obj → Bool
 | .deferred _ => true
 | .loop _ => true
 | _ => false
def b1H (w : World) (b : Nat) : Prop := ∃ o, w.heap[b]? = some o ∧ ctl o = true
def GOk (Z : GZ) (A B : Nat → Prop) (w : World) : Prop := ∀ (A' B' : Nat → Prop) (w' : World), (∀ b, b < w.heap.size → A b → ¬ b1H w b → A' b) → (∀ b, B b → B' b) →
 (∀ b, b < w.heap.size → A b → ¬ b1H w b → w'.heap[b]? = w.heap[b]?) → (∀ b, B b → w'.heap[b]? = w.heap[b]?) → Z A' B' w'
theorem GOk.dat {Z : GZ} {A B A' B' : Nat → Prop} {w w' : World} (h : GOk Z A B w) (hA : ∀ b, b < w.heap.size → A b → ¬ b1H w b → A' b) (hB : ∀ b, B b → B' b)
   (hw : ∀ b, b < w.heap.size → A b → ¬ b1H w b → w'.heap[b]? = w.heap[b]?) (hb : ∀ b, B b → w'.heap[b]? = w.heap[b]?) : GOk Z A' B' w' := fun A2 B2 w2 k1 k2 k3 k4 => by
 have lt : ∀ b, b < w.heap.size → A b → ¬ b1H w b → b < w'.heap.size ∧ ¬ b1H w' b := fun b hb ha hd => by
   have e := hw b hb ha hd
   refine ⟨?_, fun ⟨q, hq, hc⟩ => hd ⟨q, by rw [← e]; exact hq, hc⟩⟩
   rw [Array.getElem?_eq_getElem hb] at e
   exact c7v e
 exact h A2 B2 w2 (fun b hb ha hd => k1 b (lt b hb ha hd).1 (hA b hb ha hd) (lt b hb ha hd).2) (fun b hb => k2 b (hB b hb))
   (fun b hb ha hd => (k3 b (lt b hb ha hd).1 (hA b hb ha hd) (lt b hb ha hd).2).trans (hw b hb ha hd)) (fun b h => (k4 b (hB b h)).trans (hb b h))
theorem GOk.mono {Z : GZ} {A B A' B' : Nat → Prop} {w w' : World} (h : GOk Z A B w) (hA : ∀ b, b < w.heap.size → A b → A' b) (hB : ∀ b, B b → B' b)
   (hw : ∀ b, b < w.heap.size → A b → w'.heap[b]? = w.heap[b]?) (hb : ∀ b, B b → w'.heap[b]? = w.heap[b]?) : GOk Z A' B' w' :=
 h.dat (fun b hb ha _ => hA b hb ha) hB (fun b hb ha _ => hw b hb ha) hb
theorem GOk.now {Z : GZ} {A B : Nat → Prop} {w : World} (h : GOk Z A B w) : Z A B w := h A B w (fun _ _ h _ => h) (fun _ h => h) (fun _ _ _ _ => rfl) (fun _ _ => rfl)
def b2H (A : Nat → Prop) (w : World) (sz : Nat) (xs : List (List IV)) (b : Nat) (k : Nat × Nat) : Prop :=
 ∃ c e, w.heap[b]? = some (.cells c e (0, 0)) ∧ k.1 + k.2 = c.size ∧ xs.length * sz ≤ k.2 ∧
   ∀ i j x, at2 xs i j = some x → RIV A w x (c.getD (k.1 + (i * sz + j)) undef)
def RSub (A : Nat → Prop) (w : World) (sz : Nat) (xs : List (List IV)) (p : Option (Nat × (Nat × Nat))) (v : Value) : Prop :=
 (∀ x ∈ xs, x.length = sz) ∧ ((p = none ∧ xs = [] ∧ v = .slice none 0 0) ∨
   ∃ b k cap a, p = some (b, k) ∧ v = .slice (some a) xs.length cap ∧ (0 < cap → a = ⟨b, k.1, none⟩) ∧ xs.length ≤ cap ∧ cap * sz ≤ k.2 ∧ cap < 2 ^ 63 ∧ b2H A w sz xs b k)
def RMap (A : Nat → Prop) (w : World) (sk : Sk) (g : List Value → Option (List IV)) (es : Array MapEntry) : Prop :=
 (∀ e ∈ es.toList, Fits sk e) ∧ (∀ e ∈ es.toList, ∃ c, g (c5v e.key) = some c) ∧ (es.toList.map fun e => c5v e.key).Nodup ∧
 ∀ k c, g k = some c → ∃ e ∈ es.toList, c5v e.key = k ∧ e.val.cells.size = c.length ∧ ∀ i x, c[i]? = some x → RIV A w x (e.val.cells.getD i undef)
def ROb (A : Nat → Prop) (ψ : Pl) (H : Hp) (w : World) (id : Nat) : Ob → Prop
 | .box cs => ∃ b c e, ψ id = some (b, (0, c.size)) ∧ w.heap[b]? = some (.cells c e (0, 0)) ∧ c.size = cs.length ∧
     ∀ i x, cs[i]? = some x → RAV A ψ H w x (c.getD i undef)
 | .list sz xs => (∀ x ∈ xs, x.length = sz) ∧ ((ψ id = none ∧ xs = []) ∨
     ∃ b k c e, ψ id = some (b, k) ∧ w.heap[b]? = some (.cells c e (0, 0)) ∧ k.1 + k.2 = c.size ∧ xs.length * sz ≤ k.2 ∧
       ∀ i j x, at2 xs i j = some x → RIV A w x (c.getD (k.1 + (i * sz + j)) undef))
 | .map sk g => ∃ b es clock, ψ id = some (b, (0, 0)) ∧ w.heap[b]? = some (.map es clock) ∧ Born es clock ∧ RMap A w sk g es
 | .mapS sk g n kk => ∃ b es clock, ψ id = some (b, (0, 0)) ∧ w.heap[b]? = some (.map es clock) ∧ Born es clock ∧ RMap A w sk g es ∧ ∃ e ∈ es.toList, (e.born : Int) = n ∧ c5v e.key = kk
 | .lent _ sz xs => (∀ x ∈ xs, x.length = sz) ∧ ((ψ id = none ∧ xs = []) ∨
     ∃ b k c e, ψ id = some (b, k) ∧ w.heap[b]? = some (.cells c e (0, 0)) ∧ k.1 + k.2 = c.size ∧ xs.length * sz ≤ k.2 ∧
       ∀ i j x, at2 xs i j = some x → RIV A w x (c.getD (k.1 + (i * sz + j)) undef))
 | .mapo sk sz g hole => ∃ b es clock, ∃ pl : List Value → Option (Nat × (Nat × Nat)), ψ id = some (b, (0, 0)) ∧ w.heap[b]? = some (.map es clock) ∧ Born es clock ∧
     (∀ e ∈ es.toList, Fits sk e) ∧ sk.2.2 = false ∧ (es.toList.map fun e => c5v e.key).Nodup ∧ (∀ e ∈ es.toList, hole = some (c5v e.key) ∨ ∃ xs, g (c5v e.key) = some xs) ∧
     (∀ k, hole = some k → g k = none ∧ ∃ e ∈ es.toList, c5v e.key = k) ∧
     (∀ k xs, g k = some xs → ∃ e ∈ es.toList, c5v e.key = k ∧ RSub A w sz xs (pl k) e.val) ∧
     (∀ k xs b' q, g k = some xs → pl k = some (b', q) → ψ.sub id b') ∧
     (∀ k xs k' xs' b' q q', g k = some xs → g k' = some xs' → pl k = some (b', q) → pl k' = some (b', q') → k = k')
 | .listo sz xs hole => (∀ j, hole = some j → j < xs.length) ∧ ∃ b k c e, ∃ pl : Nat → Option (Nat × (Nat × Nat)), ψ id = some (b, k) ∧ w.heap[b]? = some (.cells c e (0, 0)) ∧ k.1 + k.2 = c.size ∧ xs.length ≤ k.2 ∧
     (∀ i x, xs[i]? = some x → hole ≠ some i → RSub A w sz x (pl i) (c.getD (k.1 + i) undef)) ∧
     (∀ i x b' q, xs[i]? = some x → hole ≠ some i → pl i = some (b', q) → ψ.sub id b') ∧
     (∀ i x i' x' b' q q', xs[i]? = some x → hole ≠ some i → xs[i']? = some x' → hole ≠ some i' → pl i = some (b', q) → pl i' = some (b', q') → i = i')
 | .iter sk g left last => ∃ b m since stamps lastc, ψ id = some (b, (0, 0)) ∧ w.heap[b]? = some (.mapIter m since stamps lastc) ∧
     ((m = none ∧ left = [] ∧ last = none ∧ ∀ k, g k = none) ∨
      ∃ bm es, m = some bm ∧ A bm ∧ w.heap[bm]? = some (.map es since) ∧ lastc = since ∧ Born es since ∧ RMap A w sk g es ∧ left.Nodup ∧
       (∀ e ∈ es.toList, c5v e.key ∈ left ↔ e.born ∉ stamps.toList) ∧ (∀ k ∈ left, ∃ e ∈ es.toList, c5v e.key = k) ∧
       (last = none ∨ ∃ e ∈ es.toList, ∃ seen : Array Nat, stamps = seen.push e.born ∧ last = some (c5v e.key)))
 | .gh Z vs cs => ψ id = none ∧ GOk Z A (ψ.sub id) w ∧ vs.length = cs.length ∧ ∀ i x, cs[i]? = some x → RAV A ψ H w x (vs.getD i undef)
def b3H (k : Nat) (A : Nat → Prop) (w : World) (ds : List Deferred) : Prop := ds.Nodup ∧ ∀ d ∈ ds, ∃ D, d = { target := .collected D, args := #[] } ∧ k ≤ D ∧ A D ∧ w.heap[D]? = some (.deferred (some []))
theorem b3H.mono {k : Nat} {A A' : Nat → Prop} {w w' : World} {ds : List Deferred} (h : b3H k A w ds) (hA : ∀ b, b < w.heap.size → A b → A' b) (hw : ∀ b, b < w.heap.size → A b → w'.heap[b]? = w.heap[b]?) : b3H k A' w' ds := ⟨h.1, fun d hd => by
 obtain ⟨D, h1, h0, h2, h3⟩ := h.2 d hd
 have hl := c7v h3
 exact ⟨D, h1, h0, hA D hl h2, by rw [hw D hl h2]; exact h3⟩⟩
structure SimAt (E : En) (n : Nat) (ψ : Pl) (s : St) (a : Act) (w : World) : Prop where
 size : a.tmps.size = n
 defers : b3H E.w.heap.size (Im E ψ s.hp) w a.defers
 frame : ∀ t, RAV (Im E ψ s.hp) ψ s.hp w (s.get t) (a.tmps.getD t undef)
 obs : ∀ id o, look s.hp id = some o → ROb (Im E ψ s.hp) ψ s.hp w id o
 inj : ∀ id id' o o' b, look s.hp id = some o → look s.hp id' = some o' → Owns ψ id b → Owns ψ id' b → id = id'
 own : ∀ id o b, look s.hp id = some o → Owns ψ id b → (o.org id ∈ E.ids ∧ Owns E.ψ (o.org id) b) ∨ E.fresh b
 subs : Subs ψ s.hp w
 par : ∀ id, id ∈ E.ids → ψ id = E.ψ id
 old : ∀ b, b < E.w.heap.size → ¬ E.mp b → w.heap[b]? = E.w.heap[b]?
 grow : E.w.heap.size ≤ w.heap.size
 same : w.os = E.w.os ∧ w.tape = E.w.tape ∧ w.output = E.w.output ∧ E.w.drawn ≤ w.drawn
def Sim (E : En) (n : Nat) (s : St) (a : Act) (w : World) : Prop := ∃ ψ, SimAt E n ψ s a w
structure Ext (w w' : World) : Prop where
 block : ∀ b, b < w.heap.size → w'.heap[b]? = w.heap[b]?
 size : w.heap.size ≤ w'.heap.size
 same : w'.os = w.os ∧ w'.tape = w.tape ∧ w'.output = w.output ∧ w.drawn ≤ w'.drawn
theorem Ext.refl (w : World) : Ext w w := ⟨fun _ _ => rfl, Nat.le_refl _, rfl, rfl, rfl, Nat.le_refl _⟩
theorem Ext.trans {a b c : World} (h : Ext a b) (k : Ext b c) : Ext a c :=
 ⟨fun i hi => (k.block i (Nat.lt_of_lt_of_le hi h.size)).trans (h.block i hi), Nat.le_trans h.size k.size,
   k.same.1.trans h.same.1, k.same.2.1.trans h.same.2.1, k.same.2.2.1.trans h.same.2.2.1, Nat.le_trans h.same.2.2.2 k.same.2.2.2⟩
theorem Ext.cell {w u : World} (h : Ext w u) {a : Addr} {v : Value} (hc : w.cell? a = some v) : u.cell? a = some v := by
 have hb := World.block_lt_of_cell? w _ hc
 have e : u.cell? a = w.cell? a := by simp only [World.cell?, h.block _ hb]
 rw [e]; exact hc
theorem Ext.cell' {w u : World} (h : Ext w u) {a : Addr} {o : Option Value} (hc : w.cell? a = o) (hs : o.isSome = true) : u.cell? a = o := by
 obtain ⟨v, rfl⟩ := Option.isSome_iff_exists.1 hs
 exact h.cell hc
theorem Ext.heap {w u : World} (h : Ext w u) {b : Nat} {o : Obj} (hb : w.heap[b]? = some o) : u.heap[b]? = some o := by
 rw [h.block b (c7v hb)]; exact hb
theorem Ext.alloc (w : World) (o : Obj) : Ext w (w.alloc o) := by
 refine ⟨fun b hb => ?_, by simp, rfl, rfl, rfl, Nat.le_refl _⟩
 show (w.heap.push o)[b]? = _
 rw [Array.getElem?_push, if_neg (by omega)]
theorem Ext.drew (w : World) : Ext w w.drew := ⟨fun _ _ => rfl, Nat.le_refl _, rfl, rfl, rfl, Nat.le_succ _⟩
theorem b4H (a : Act) (d : Nat) (v : Value) (t : Nat) (hd : d < a.tmps.size) :
   (a.put (some d) v).tmps.getD t undef = if d = t then v else a.tmps.getD t undef := by
 simp only [Act.put, Array.getD_eq_getD_getElem?, Array.getElem?_setIfInBounds]
 split
 · subst_vars; simp
 · rfl
theorem SimAt.set {E : En} {n : Nat} {ψ : Pl} {s : St} {a : Act} {w : World} (h : SimAt E n ψ s a w) {d : Nat} (hd : d < n) {x : AV} {v : Value}
   (hx : RAV (Im E ψ s.hp) ψ s.hp w x v) : SimAt E n ψ (s.set d x) (a.put (some d) v) w := by
 refine { h with size := by simp [Act.put, h.size], defers := h.defers, frame := fun t => ?_ }
 rw [St.get_set, b4H a d v t (by rw [h.size]; exact hd)]
 split
 · exact hx
 · exact h.frame t
theorem SimAt.put {E : En} {n : Nat} {ψ : Pl} {s : St} {a : Act} {w : World} (h : SimAt E n ψ s a w) {d : Option Nat} (hd : ∀ i, d = some i → i < n) {x : AV} {v : Value}
   (hx : RAV (Im E ψ s.hp) ψ s.hp w x v) : SimAt E n ψ (s.put d x) (a.put d v) w := by
 cases d with
 | none => exact h
 | some d => exact h.set (hd d rfl) hx
theorem b2H.mono {A A' : Nat → Prop} {w w' : World} {sz : Nat} {xs : List (List IV)} {b : Nat} {k : Nat × Nat} (h : b2H A w sz xs b k)
   (hA : ∀ b, b < w.heap.size → A b → A' b) (hw : ∀ b, b < w.heap.size → A b → w'.heap[b]? = w.heap[b]?) (hb : w'.heap[b]? = w.heap[b]?) : b2H A' w' sz xs b k := by
 obtain ⟨c, e, h1, h2, h3, h4⟩ := h
 exact ⟨c, e, by rw [hb]; exact h1, h2, h3, fun i j x hx => (h4 i j x hx).mono hA hw⟩
theorem RSub.mono {A A' : Nat → Prop} {w w' : World} {sz : Nat} {xs : List (List IV)} {p : Option (Nat × (Nat × Nat))} {v : Value} (h : RSub A w sz xs p v)
   (hA : ∀ b, b < w.heap.size → A b → A' b) (hw : ∀ b, b < w.heap.size → A b → w'.heap[b]? = w.heap[b]?) (hb : ∀ b q, p = some (b, q) → w'.heap[b]? = w.heap[b]?) : RSub A' w' sz xs p v := by
 obtain ⟨h0, h⟩ := h
 refine ⟨h0, ?_⟩
 rcases h with h | ⟨b, k, cap, a, h1, h2, h3, h4, h5, h6, h7⟩
 · exact .inl h
 · exact .inr ⟨b, k, cap, a, h1, h2, h3, h4, h5, h6, h7.mono hA hw (hb b k h1)⟩
theorem RMap.mono {A A' : Nat → Prop} {w w' : World} {sk : Sk} {g : List Value → Option (List IV)} {es : Array MapEntry} (h : RMap A w sk g es)
   (hA : ∀ b, b < w.heap.size → A b → A' b) (hw : ∀ b, b < w.heap.size → A b → w'.heap[b]? = w.heap[b]?) : RMap A' w' sk g es := by
 obtain ⟨m1, m2, m3, m4⟩ := h
 refine ⟨m1, m2, m3, fun k c hg => ?_⟩
 obtain ⟨e, he, h5, h6, h7⟩ := m4 k c hg
 exact ⟨e, he, h5, h6, fun i x hx => (h7 i x hx).mono hA hw⟩
theorem ROb.move {A A' : Nat → Prop} {ψ ψ' : Pl} {H H' : Hp} {w w' : World} {id : Nat} {o : Ob} (h : ROb A ψ H w id o) (hbox : (∀ cs, o ≠ .box cs) ∧ ∀ Z vs cs, o ≠ .gh Z vs cs)
   (hA : ∀ b, b < w.heap.size → A b → A' b) (hw : ∀ b, b < w.heap.size → A b → w'.heap[b]? = w.heap[b]?)
   (hψ : ψ' id = ψ id ∧ ∀ b, ψ.sub id b → ψ'.sub id b) (hb : ∀ b, Owns ψ id b → w'.heap[b]? = w.heap[b]?) : ROb A' ψ' H' w' id o := by
 obtain ⟨hψ, hs⟩ := hψ
 have hb0 : ∀ {b k}, ψ id = some (b, k) → w'.heap[b]? = w.heap[b]? := fun e => hb _ (.inl ⟨_, e⟩)
 have hb1 : ∀ {b}, ψ.sub id b → w'.heap[b]? = w.heap[b]? := fun e => hb _ (.inr e)
 cases o with
 | box cs => exact absurd rfl (hbox.1 cs)
 | gh Z vs cs => exact absurd rfl (hbox.2 Z vs cs)
 | list sz xs =>
   obtain ⟨h0, h⟩ := h
   refine ⟨h0, ?_⟩
   rcases h with ⟨h1, h2⟩ | ⟨b, k, c, e, h1, h2, h3, h3', h4⟩
   · exact .inl ⟨by rw [hψ]; exact h1, h2⟩
   · exact .inr ⟨b, k, c, e, by rw [hψ]; exact h1, by rw [hb0 h1]; exact h2, h3, h3', fun i j x hx => (h4 i j x hx).mono hA hw⟩
 | map sk g =>
   obtain ⟨b, es, clock, h1, h2, h3, m⟩ := h
   exact ⟨b, es, clock, by rw [hψ]; exact h1, by rw [hb0 h1]; exact h2, h3, m.mono hA hw⟩
 | mapS sk g n kk =>
   obtain ⟨b, es, clock, h1, h2, h3, m, h4⟩ := h
   exact ⟨b, es, clock, by rw [hψ]; exact h1, by rw [hb0 h1]; exact h2, h3, m.mono hA hw, h4⟩
 | lent org sz xs =>
   obtain ⟨h0, h⟩ := h
   refine ⟨h0, ?_⟩
   rcases h with ⟨h1, h2⟩ | ⟨b, k, c, e, h1, h2, h3, h3', h4⟩
   · exact .inl ⟨by rw [hψ]; exact h1, h2⟩
   · exact .inr ⟨b, k, c, e, by rw [hψ]; exact h1, by rw [hb0 h1]; exact h2, h3, h3', fun i j x hx => (h4 i j x hx).mono hA hw⟩
 | mapo sk sz g hole =>
   obtain ⟨b, es, clock, pl, h1, h2, h3, h4, h5, h6, h7, h8, h9, h10, h11⟩ := h
   refine ⟨b, es, clock, pl, by rw [hψ]; exact h1, by rw [hb0 h1]; exact h2, h3, h4, h5, h6, h7, h8, fun k xs hg => ?_, fun k xs b' q g1 g2 => hs _ (h10 k xs b' q g1 g2), h11⟩
   obtain ⟨e, g1, g2, g3⟩ := h9 k xs hg
   exact ⟨e, g1, g2, g3.mono hA hw fun b' q hq => hb1 (h10 k xs b' q hg hq)⟩
 | listo sz xs hole =>
   obtain ⟨h0, b, k, c, e, pl, h1, h2, h3, h4, h5, h6, h7⟩ := h
   exact ⟨h0, b, k, c, e, pl, by rw [hψ]; exact h1, by rw [hb0 h1]; exact h2, h3, h4, fun i x g1 g2 => (h5 i x g1 g2).mono hA hw fun b' q hq => hb1 (h6 i x b' q g1 g2 hq),
     fun i x b' q g1 g2 g3 => hs _ (h6 i x b' q g1 g2 g3), h7⟩
 | iter sk g left last =>
   obtain ⟨b, m, since, stamps, lastc, h1, h2, h3⟩ := h
   refine ⟨b, m, since, stamps, lastc, by rw [hψ]; exact h1, by rw [hb0 h1]; exact h2, ?_⟩
   rcases h3 with h3 | ⟨bm, es, g1, g2, g3, g4, g5, g6, g7⟩
   · exact .inl h3
   · have hlt := c7v g3
     exact .inr ⟨bm, es, g1, hA bm hlt g2, by rw [hw bm hlt g2]; exact g3, g4, g5, g6.mono hA hw, g7⟩
theorem ROb.mono {A A' : Nat → Prop} {ψ ψ' : Pl} {H H' : Hp} {w w' : World} {id : Nat} {o : Ob} (h : ROb A ψ H w id o)
   (hA : ∀ b, b < w.heap.size → A b → A' b) (hw : ∀ b, b < w.heap.size → A b → w'.heap[b]? = w.heap[b]?) (hk : c9v ψ ψ' H H')
   (hψ : ψ' id = ψ id ∧ ∀ b, ψ.sub id b → ψ'.sub id b) (hb : ∀ b, Owns ψ id b → w'.heap[b]? = w.heap[b]?) : ROb A' ψ' H' w' id o := by
 by_cases hbox : ∃ cs, o = .box cs
 · obtain ⟨cs, rfl⟩ := hbox
   obtain ⟨b, c, e, h1, h2, h3, h4⟩ := h
   exact ⟨b, c, e, by rw [hψ.1]; exact h1, by rw [hb _ (.inl ⟨_, h1⟩)]; exact h2, h3, fun i x hx => (h4 i x hx).mono hA hw hk⟩
 · by_cases hgh : ∃ Z vs cs, o = .gh Z vs cs
   · obtain ⟨Z, vs, cs, rfl⟩ := hgh
     obtain ⟨h1, h2, h3, h4⟩ := h
     exact ⟨by rw [hψ.1]; exact h1, h2.mono hA (fun b hb => hψ.2 b hb) hw (fun b h => hb b (.inr h)), h3, fun i x hx => (h4 i x hx).mono hA hw hk⟩
   · exact h.move ⟨fun cs e => hbox ⟨cs, e⟩, fun Z vs cs e => hgh ⟨Z, vs, cs, e⟩⟩ hA hw hψ hb
theorem ROb.lt {A : Nat → Prop} {ψ : Pl} {H : Hp} {w : World} {id : Nat} {o : Ob} (h : ROb A ψ H w id o) {b : Nat} {k : Nat × Nat} (hb : ψ id = some (b, k)) : b < w.heap.size := by
 cases o with
 | box cs => obtain ⟨b', c, e, h1, h2, _⟩ := h; rw [h1] at hb; cases hb; exact c7v h2
 | list sz xs =>
   rcases h.2 with ⟨h1, _⟩ | ⟨b', k', c, e, h1, h2, _⟩
   · rw [h1] at hb; cases hb
   · rw [h1] at hb; cases hb; exact c7v h2
 | map sk g => obtain ⟨b', es, cl, h1, h2, _⟩ := h; rw [h1] at hb; cases hb; exact c7v h2
 | mapS sk g n kk => obtain ⟨b', es, cl, h1, h2, _⟩ := h; rw [h1] at hb; cases hb; exact c7v h2
 | lent org sz xs =>
   rcases h.2 with ⟨h1, _⟩ | ⟨b', k', c, e, h1, h2, _⟩
   · rw [h1] at hb; cases hb
   · rw [h1] at hb; cases hb; exact c7v h2
 | mapo sk sz g hole => obtain ⟨b', es, cl, pl, h1, h2, _⟩ := h; rw [h1] at hb; cases hb; exact c7v h2
 | listo sz xs hole => obtain ⟨_, b', k', c, e, pl, h1, h2, _⟩ := h; rw [h1] at hb; cases hb; exact c7v h2
 | iter sk g left last => obtain ⟨b', m, si, st, la, h1, h2, _⟩ := h; rw [h1] at hb; cases hb; exact c7v h2
 | gh Z vs cs => obtain ⟨h1, _⟩ := h; rw [h1] at hb; cases hb
theorem SimAt.lt {E : En} {n : Nat} {ψ : Pl} {s : St} {a : Act} {w : World} (h : SimAt E n ψ s a w) {id b : Nat} {o : Ob} (ho : look s.hp id = some o) (hb : Owns ψ id b) : b < w.heap.size := by
 rcases hb with ⟨k, hb⟩ | hb
 · exact (h.obs id o ho).lt hb
 · exact (h.subs id o b ho hb).2.1
theorem Subs.ext {ψ : Pl} {H : Hp} {w w' : World} (h : Subs ψ H w) (hs : w.heap.size ≤ w'.heap.size) : Subs ψ H w' := fun id o b ho hb => by
 obtain ⟨h1, h2, h3⟩ := h id o b ho hb
 exact ⟨h1, Nat.lt_of_lt_of_le h2 hs, h3⟩
theorem SimAt.ext {E : En} {n : Nat} {ψ : Pl} {s : St} {a : Act} {w w' : World} (h : SimAt E n ψ s a w) (hx : Ext w w') : SimAt E n ψ s a w' := by
 have hA : ∀ b, b < w.heap.size → Im E ψ s.hp b → Im E ψ s.hp b := fun _ _ h => h
 have hw : ∀ b, b < w.heap.size → Im E ψ s.hp b → w'.heap[b]? = w.heap[b]? := fun b hb _ => hx.block b hb
 refine { h with defers := h.defers.mono hA hw, frame := fun t => (h.frame t).mono hA hw (c9v.refl _ _), obs := fun id o ho => ?_, subs := h.subs.ext hx.size, old := fun b hb hm => ?_, grow := ?_, same := ?_ }
 · exact (h.obs id o ho).mono hA hw (c9v.refl _ _) ⟨rfl, fun _ h => h⟩ fun b hb => hx.block b (h.lt ho hb)
 · rw [hx.block b (Nat.lt_of_lt_of_le hb h.grow)]; exact h.old b hb hm
 · exact Nat.le_trans h.grow hx.size
 · exact ⟨hx.same.1.trans h.same.1, hx.same.2.1.trans h.same.2.1, hx.same.2.2.1.trans h.same.2.2.1, Nat.le_trans h.same.2.2.2 hx.same.2.2.2⟩
/-! ### References to an object are let go. -/
def CapV.of (p : Nat → Bool) : CapV → Bool
 | .ptr id _ => p id
 | .val _ => false
def AV.kc (p : Nat → Bool) : AV → AV
 | .sl id sz lo len => if p id then .junk else .sl id sz lo len
 | .ptr id off => if p id then .junk else .ptr id off
 | .ep id sz i off => if p id then .junk else .ep id sz i off
 | .mpr id => if p id then .junk else .mpr id
 | .fn f a b => if a.any (CapV.of p) || b.any (CapV.of p) then .junk else .fn f a b
 | .iv x => .iv x
 | .nil sz => .nil sz
 | .un => .un
 | .agg _ => .junk
 | .tup _ => .junk
 | .junk => .junk
def AV.ivc : AV → Option IV
 | .iv x => some x
 | .nil sz => some (.lst sz [])
 | _ => none
def b5H : List AV → Option (List IV)
 | [] => some []
 | x :: r => match x.ivc with
   | some y => (b5H r).map fun l => y :: l
   | none => none
def CapV.fc (id : Nat) (o : Ob) : CapV → CapV
 | .ptr j off => if j = id then match o with
     | .box cs => match b5H cs with
       | some l => .val (.pt (l.drop off))
       | none => .ptr j off
     | _ => .ptr j off
   else .ptr j off
 | .val x => .val x
def AV.fc (id : Nat) (o : Ob) : AV → AV
 | .sl j sz lo len => if j = id then match o with
     | .list _ xs => .iv (.lst sz ((xs.drop lo).take len))
     | .listo sz' xs none => .iv (.lst 1 (((xs.map fun x => [IV.lst sz' x]).drop lo).take len))
     | _ => .junk
   else .sl j sz lo len
 | .ep j sz i off => if j = id then match o with
     | .list _ xs => .iv (.pt ((xs.getD i []).drop off))
     | _ => .junk
   else .ep j sz i off
 | .mpr j => if j = id then match o with
     | .map sk g => .iv (.mp sk g)
     | .mapo sk sz g none => .iv (.mp sk fun k => (g k).map fun xs => [IV.lst sz xs])
     | _ => .junk
   else .mpr j
 | .ptr j off => if j = id then match o with
     | .box cs => match b5H cs with
       | some l => .iv (.pt (l.drop off))
       | none => .junk
     | _ => .junk
   else .ptr j off
 | .fn f a b => .fn f (a.map (CapV.fc id o)) (b.map (CapV.fc id o))
 | x => x
def AV.map1 (f : AV → AV) : AV → AV
 | .agg cs => .agg (cs.map f)
 | x => f x
def AV.mapc (f : AV → AV) : AV → AV
 | .tup vs => .tup (vs.map (AV.map1 f))
 | .agg cs => .agg (cs.map f)
 | x => f x
def Ob.mapc (f : AV → AV) : Ob → Ob
 | .box cs => .box (cs.map f)
 | .gh Z vs cs => .gh Z vs (cs.map (AV.mapc f))
 | o => o
def St.mapc (f : AV → AV) (s : St) : St := ⟨s.fr.map fun (t, x) => (t, x.mapc f), s.hp.map fun (id, o) => (id, o.mapc f)⟩
def St.drop (id : Nat) (s : St) : St := match look s.hp id with
 | none => s
 | some o => { s.mapc (fun x => (x.fc id o).kc (· == id)) with hp := (s.mapc fun x => (x.fc id o).kc (· == id)).hp.filter (·.1 != id) }
theorem b6H {α β : Type} (f : α → β) (l : List (Nat × α)) (k : Nat) : look (l.map fun (t, x) => (t, f x)) k = (look l k).map f := by
 induction l with
 | nil => rfl
 | cons p l ih => obtain ⟨j, x⟩ := p; simp only [List.map_cons, look]; split <;> simp [ih]
theorem b7H {α : Type} (l : List (Nat × α)) (id k : Nat) : look (l.filter (·.1 != id)) k = if k = id then none else look l k := by
 induction l with
 | nil => simp [look]
 | cons p l ih =>
   obtain ⟨j, x⟩ := p
   by_cases hj : j = id
   · subst hj
     rw [List.filter_cons_of_neg (by simp), ih]
     simp only [look]
     by_cases hk : k = j
     · simp [hk]
     · simp [hk, Ne.symm hk]
   · rw [List.filter_cons_of_pos (by simpa using hj)]
     simp only [look, ih]
     by_cases hk : j = k
     · subst hk; simp [hj]
     · simp [hk]
def b8H (A A' : Nat → Prop) (ψ ψ' : Pl) (H H' : Hp) (w w' : World) (f : AV → AV) : Prop := ∀ x v, RAV A ψ H w x v → (∀ cs, x ≠ .agg cs) → (∀ cs, x ≠ .tup cs) → RAV A' ψ' H' w' (f x) v
theorem RAV.mapc {A A' : Nat → Prop} {ψ ψ' : Pl} {H H' : Hp} {w w' : World} {f : AV → AV} (hf : b8H A A' ψ ψ' H H' w w' f)
   (hagg : ∀ cs, f (.agg cs) = .junk) (htup : ∀ cs, f (.tup cs) = .junk) {x : AV} {v : Value} (h : RAV A ψ H w x v) : RAV A' ψ' H' w' (x.mapc f) v := by
 have hc : ∀ {x v}, RAV A ψ H w x v → RAV A' ψ' H' w' (f x) v := by
   intro x v h
   cases x with
   | agg cs => rw [hagg]; exact .junk v
   | tup cs => rw [htup]; exact .junk v
   | _ => exact hf _ _ h (by simp) (by simp)
 have h1 : ∀ {x v}, RAV A ψ H w x v → RAV A' ψ' H' w' (x.map1 f) v := by
   intro x v h
   cases h with
   | agg cs vs hl h =>
     refine .agg _ _ (by simpa using hl) fun i c hi => ?_
     rw [List.getElem?_map] at hi
     cases hci : cs[i]? with
     | none => rw [hci] at hi; cases hi
     | some c0 => rw [hci] at hi; cases hi; exact hc (h i c0 hci)
   | tup cs vs hl h => simp only [AV.map1, htup]; exact .junk _
   | iv x v h => exact hc (.iv x v h)
   | nil sz => exact hc (.nil sz)
   | sl0 id sz o n ho he hb => exact hc (.sl0 id sz o n ho he hb)
   | sl id sz lo len b k cap a o n ho he hx hb ha hlc hk hm => exact hc (.sl id sz lo len b k cap a o n ho he hx hb ha hlc hk hm)
   | ptr id off b k o ho hb => exact hc (.ptr id off b k o ho hb)
   | ep id sz i off b k o n ho he hi hb => exact hc (.ep id sz i off b k o n ho he hi hb)
   | mpr id b k o ho hb => exact hc (.mpr id b k o ho hb)
   | fn g first caps vf vc hf hc' h1 h2 => exact hc (.fn g first caps vf vc hf hc' h1 h2)
   | un => exact hc .un
   | junk v => exact hc (.junk v)
 cases h with
 | tup cs vs hl h =>
   refine .tup _ _ (by simpa using hl) fun i c hi => ?_
   rw [List.getElem?_map] at hi
   cases hci : cs[i]? with
   | none => rw [hci] at hi; cases hi
   | some c0 => rw [hci] at hi; cases hi; exact h1 (h i c0 hci)
 | agg cs vs hl h => exact h1 (.agg cs vs hl h)
 | iv x v h => exact hc (.iv x v h)
 | nil sz => exact hc (.nil sz)
 | sl0 id sz o n ho he hb => exact hc (.sl0 id sz o n ho he hb)
 | sl id sz lo len b k cap a o n ho he hx hb ha hlc hk hm => exact hc (.sl id sz lo len b k cap a o n ho he hx hb ha hlc hk hm)
 | ptr id off b k o ho hb => exact hc (.ptr id off b k o ho hb)
 | ep id sz i off b k o n ho he hi hb => exact hc (.ep id sz i off b k o n ho he hi hb)
 | mpr id b k o ho hb => exact hc (.mpr id b k o ho hb)
 | fn g first caps vf vc hf hc' h1 h2 => exact hc (.fn g first caps vf vc hf hc' h1 h2)
 | un => exact hc .un
 | junk v => exact hc (.junk v)
def b9H (p : Nat → Bool) (ψ ψ' : Pl) (H H' : Hp) : Prop := ∀ id o, p id = false → look H id = some o → (∃ o', look H' id = some o' ∧ o.le o') ∧ ψ' id = ψ id
theorem b0I {A A' : Nat → Prop} {ψ ψ' : Pl} {H H' : Hp} {w w' : World} {p : Nat → Bool} (hA : ∀ b, b < w.heap.size → A b → A' b)
   (hw : ∀ b, b < w.heap.size → A b → w'.heap[b]? = w.heap[b]?) (hk : b9H p ψ ψ' H H') : b8H A A' ψ ψ' H H' w w' (AV.kc p) := by
 intro x v h _ _
 have hlist : ∀ {id sz n o}, p id = false → look H id = some o → o.dim = some (sz, n) → ∃ o' n', look H' id = some o' ∧ o'.dim = some (sz, n') ∧ n ≤ n' := by
   intro id sz n o hp ho he
   obtain ⟨⟨o', h1, h2⟩, _⟩ := hk id _ hp ho
   obtain ⟨n', h3, h4⟩ := h2 sz n he
   exact ⟨o', n', h1, h3, h4⟩
 have hcap : ∀ {c : CapV} {v : Value}, c.of p = false → RCap A ψ H w c v → RCap A' ψ' H' w' c v := by
   intro c v hp h
   cases h with
   | ptr id off b k o ho hb =>
     obtain ⟨⟨o', h1, _⟩, h2⟩ := hk id o hp ho
     exact .ptr id off b k o' h1 (by rw [h2]; exact hb)
   | val x v h1 => exact .val x v (h1.mono hA hw)
 cases h with
 | iv x v h => exact .iv x v (h.mono hA hw)
 | nil sz => exact .nil sz
 | sl0 id sz o n ho he hb =>
   simp only [AV.kc]; split
   · exact .junk _
   · rename_i hp
     have hp : p id = false := by simpa using hp
     obtain ⟨o', n', h1, h2, _⟩ := hlist hp ho he
     exact .sl0 id sz o' n' h1 h2 (by rw [(hk id _ hp ho).2]; exact hb)
 | sl id sz lo len b k cap a o n ho he hx hb ha hlc hk' hm =>
   simp only [AV.kc]; split
   · exact .junk _
   · rename_i hp
     have hp : p id = false := by simpa using hp
     obtain ⟨o', n', h1, h2, h3⟩ := hlist hp ho he
     exact .sl id sz lo len b k cap a o' n' h1 h2 (Nat.le_trans hx h3) (by rw [(hk id _ hp ho).2]; exact hb) ha hlc hk' hm
 | ptr id off b k o ho hb =>
   simp only [AV.kc]; split
   · exact .junk _
   · rename_i hp
     have hp : p id = false := by simpa using hp
     obtain ⟨⟨o', h1, _⟩, h2⟩ := hk id o hp ho
     exact .ptr id off b k o' h1 (by rw [h2]; exact hb)
 | ep id sz i off b k o n ho he hi hb =>
   simp only [AV.kc]; split
   · exact .junk _
   · rename_i hp
     have hp : p id = false := by simpa using hp
     obtain ⟨o', n', h1, h2, h3⟩ := hlist hp ho he
     exact .ep id sz i off b k o' n' h1 h2 (Nat.lt_of_lt_of_le hi h3) (by rw [(hk id _ hp ho).2]; exact hb)
 | mpr id b k o ho hb =>
   simp only [AV.kc]; split
   · exact .junk _
   · rename_i hp
     have hp : p id = false := by simpa using hp
     obtain ⟨⟨o', h1, _⟩, h2⟩ := hk id o hp ho
     exact .mpr id b k o' h1 (by rw [h2]; exact hb)
 | fn g first caps vf vc hf hc h1 h2 =>
   simp only [AV.kc]; split
   · exact .junk _
   · rename_i hp
     simp only [Bool.or_eq_true, List.any_eq_true, not_or, not_exists, not_and, Bool.not_eq_true] at hp
     exact .fn g first caps vf vc hf hc (fun i c h => hcap (hp.1 c (List.mem_of_getElem? h)) (h1 i c h)) (fun i c h => hcap (hp.2 c (List.mem_of_getElem? h)) (h2 i c h))
 | agg cs vs hl h => exact .junk _
 | tup cs vs hl h => exact .junk _
 | un => exact .un
 | junk v => exact .junk _
end Go.Vm
end

section
namespace Go.Vm
section
variable {E : En} {n : Nat} {ψ : Pl} {s : St} {a : Act} {w : World}
theorem St.get_mapc (f : AV → AV) (hf : f .junk = .junk) (t : Nat) : (s.mapc f).get t = (s.get t).mapc f := by
 simp only [St.get, St.mapc]
 rw [b6H (AV.mapc f)]
 cases look s.fr t <;> simp [AV.mapc, hf]
theorem c0e (f : AV → AV) (k : Nat) : look (s.mapc f).hp k = (look s.hp k).map (Ob.mapc f) := by
 simp only [St.mapc]; rw [b6H (Ob.mapc f)]
theorem c1e (f : AV → AV) (Z : GZ) (vs : List Value) (cs : List AV) : (Ob.gh Z vs cs).mapc f = .gh Z vs (cs.map (AV.mapc f)) := rfl
theorem Ob.dim_mapc (f : AV → AV) (o : Ob) : (o.mapc f).dim = o.dim := by cases o <;> rfl
theorem Ob.org_mapc (f : AV → AV) (o : Ob) (id : Nat) : (o.mapc f).org id = o.org id := by cases o <;> rfl
theorem Ob.multi_mapc (f : AV → AV) (o : Ob) : (o.mapc f).multi = o.multi := by cases o <;> rfl
theorem Ob.le_mapc (f : AV → AV) (o : Ob) : o.le (o.mapc f) := fun _ n h => ⟨n, by rw [Ob.dim_mapc]; exact h, Nat.le_refl _⟩
theorem c2e {α : Type} (xs : List (List α)) (lo len i j : Nat) (x : α) (h : at2 ((xs.drop lo).take len) i j = some x) : at2 xs (lo + i) j = some x := by
 simp only [at2, List.getElem?_take, List.getElem?_drop] at h ⊢
 split at h
 · exact h
 · cases h
theorem c3e {α : Type} {xs : List (List α)} {i j : Nat} {x : α} (h : at2 xs i j = some x) : ∃ r, xs[i]? = some r ∧ r[j]? = some x := by
 simp only [at2] at h
 cases hr : xs[i]? with
 | none => rw [hr] at h; cases h
 | some r => rw [hr] at h; exact ⟨r, rfl, h⟩
theorem c4e {α : Type} {xs : List (List α)} {i j : Nat} {r : List α} {x : α} (h1 : xs[i]? = some r) (h2 : r[j]? = some x) : at2 xs i j = some x := by
 simp [at2, h1, h2]
theorem c5e {w : World} {b : Nat} {c : Array Value} {e : TypeId} {f : Nat × Nat} (h : w.heap[b]? = some (.cells c e f)) (o : Nat) : w.cell? ⟨b, o, none⟩ = c[o]? := by
 simp [World.cell?, h]
theorem c6e {w : World} {b : Nat} {c : Array Value} {e : TypeId} {f : Nat × Nat} (h : w.heap[b]? = some (.cells c e f)) {o : Nat} (ho : o < c.size) :
   w.cell? ⟨b, o, none⟩ = some (c.getD o undef) := by
 rw [c5e h]; simp [ho]
theorem c7e {A A' : Nat → Prop} {H : Hp} {id sz : Nat} {xs : List (List IV)} (h : ROb A ψ H w id (.list sz xs)) (hA : ∀ b, b < w.heap.size → A b → A' b)
   (hin : ∀ b k, ψ id = some (b, k) → A' b) {lo len cap : Nat} {a : Addr} {b : Nat} {k : Nat × Nat} (hb : ψ id = some (b, k)) (ha : 0 < cap → a = ⟨b, k.1 + lo * sz, none⟩) (hlc : len ≤ cap)
   (hx : lo + len ≤ xs.length) : RIV A' w (.lst sz ((xs.drop lo).take len)) (.slice (some a) len cap) := by
 obtain ⟨hs, h⟩ := h
 rcases h with ⟨h1, _⟩ | ⟨b', k', c, e, h1, h2, h3', h3, h4⟩
 · rw [h1] at hb; cases hb
 rw [h1] at hb; cases hb
 have hlen : ((xs.drop lo).take len).length = len := by simp; omega
 have key := RIV.lst (A := A') (w := w) sz ((xs.drop lo).take len) b (k.1 + lo * sz) cap a (fun i j => c.getD (k.1 + ((lo + i) * sz + j)) undef)
   (fun hne => ha (by
     rcases Nat.eq_zero_or_pos cap with h0 | h0
     · exact absurd (List.eq_nil_of_length_eq_zero (by omega)) hne
     · exact h0))
   (fun x hx => hs x (List.mem_of_mem_drop (List.mem_of_mem_take hx))) (by omega)
   (fun i j x hij => by
     refine ⟨hin _ _ h1, ?_⟩
     have hat := c2e _ _ _ _ _ _ hij
     obtain ⟨r, hr, hj⟩ := c3e hat
     have hi : lo + i < xs.length := (List.getElem?_eq_some_iff.1 hr).1
     have hj' : j < sz := by rw [← hs r (List.mem_of_getElem? hr)]; exact (List.getElem?_eq_some_iff.1 hj).1
     have hm : (lo + i + 1) * sz ≤ xs.length * sz := Nat.mul_le_mul_right sz (by omega)
     have e1 : (lo + i) * sz = lo * sz + i * sz := Nat.add_mul _ _ _
     have e2 : (lo + i + 1) * sz = (lo + i) * sz + sz := by rw [Nat.add_mul]; omega
     rw [show k.1 + lo * sz + (i * sz + j) = k.1 + ((lo + i) * sz + j) from by omega]
     exact c6e h2 (by omega))
   (fun i j x hij => (h4 _ _ _ (c2e _ _ _ _ _ _ hij)).mono hA (fun _ _ _ => rfl))
 rw [hlen] at key
 exact key
theorem c8e {A A' : Nat → Prop} {H : Hp} {id sz : Nat} {xs : List (List IV)} (h : ROb A ψ H w id (.list sz xs)) (hA : ∀ b, b < w.heap.size → A b → A' b)
   (hin : ∀ b k, ψ id = some (b, k) → A' b) {i off : Nat} {b : Nat} {k : Nat × Nat} (hb : ψ id = some (b, k)) (hi : i < xs.length) :
   RIV A' w (.pt ((xs.getD i []).drop off)) (.pointer (some ⟨b, k.1 + (i * sz + off), none⟩)) := by
 obtain ⟨hs, h⟩ := h
 rcases h with ⟨h1, _⟩ | ⟨b', k', c, e, h1, h2, h3', h3, h4⟩
 · rw [h1] at hb; cases hb
 rw [h1] at hb; cases hb
 have hr : xs[i]? = some xs[i] := List.getElem?_eq_getElem hi
 have hg : xs.getD i [] = xs[i] := by simp [List.getD, hr]
 rw [hg]
 have hsz := hs xs[i] (List.getElem_mem hi)
 refine .pt _ b (k.1 + (i * sz + off)) (fun j => c.getD (k.1 + (i * sz + (off + j))) undef) (fun j x hj => ?_) (fun j x hj => ?_)
 · rw [List.getElem?_drop] at hj
   refine ⟨hin _ _ h1, ?_⟩
   have hj' : off + j < sz := by rw [← hsz]; exact (List.getElem?_eq_some_iff.1 hj).1
   have hm : (i + 1) * sz ≤ xs.length * sz := Nat.mul_le_mul_right sz (by omega)
   have e2 : (i + 1) * sz = i * sz + sz := by rw [Nat.add_mul]; omega
   rw [show k.1 + (i * sz + off) + j = k.1 + (i * sz + (off + j)) from by omega]
   exact c6e h2 (by omega)
 · rw [List.getElem?_drop] at hj
   exact (h4 i (off + j) x (c4e hr hj)).mono hA (fun _ _ _ => rfl)
theorem c9e {c : Array Value} {i : Nat} (h : i < c.size) : c[i]? = some (c.getD i undef) := by
 rw [Array.getElem?_eq_getElem h]; simp [Array.getD_eq_getD_getElem?, h]
theorem c0f {A A' : Nat → Prop} {H : Hp} {x : AV} {v : Value} {y : IV} (h : RAV A ψ H w x v) (hx : x.ivc = some y) (hA : ∀ b, b < w.heap.size → A b → A' b) : RIV A' w y v := by
 unfold AV.ivc at hx
 split at hx
 · cases hx; cases h with | iv _ _ h => exact h.mono hA (fun _ _ _ => rfl)
 · cases hx; cases h; exact .lnil _
 · cases hx
theorem c1f : ∀ {cs : List AV} {l : List IV}, b5H cs = some l → l.length = cs.length ∧ ∀ (i : Nat) (y : IV), l[i]? = some y → ∃ x : AV, cs[i]? = some x ∧ x.ivc = some y
 | [], l, h => by simp only [b5H, Option.some.injEq] at h; subst h; simp
 | x :: r, l, h => by
   simp only [b5H] at h
   split at h
   · rename_i y hy
     cases hr : b5H r with
     | none => rw [hr] at h; cases h
     | some l' =>
       rw [hr] at h
       simp only [Option.map_some, Option.some.injEq] at h
       subst h
       obtain ⟨g1, g2⟩ := c1f hr
       refine ⟨by simp [g1], fun i z hz => ?_⟩
       cases i with
       | zero => simp only [List.getElem?_cons_zero, Option.some.injEq] at hz; subst hz; exact ⟨x, rfl, hy⟩
       | succ i => simpa using g2 i z (by simpa using hz)
   · cases h
theorem c2f {A A' : Nat → Prop} {H : Hp} {id : Nat} {cs : List AV} {l : List IV} (h : ROb A ψ H w id (.box cs)) (hl : b5H cs = some l) (hA : ∀ b, b < w.heap.size → A b → A' b)
   (hin : ∀ b k, ψ id = some (b, k) → A' b) {off b : Nat} {k : Nat × Nat} (hb : ψ id = some (b, k)) : RIV A' w (.pt (l.drop off)) (.pointer (some ⟨b, off, none⟩)) := by
 obtain ⟨b', c, e, h1, h2, h3, h4⟩ := h
 rw [h1] at hb; cases hb
 obtain ⟨g1, g2⟩ := c1f hl
 refine .pt _ b off (fun i => c.getD (off + i) undef) (fun i y hy => ?_) (fun i y hy => ?_) <;> rw [List.getElem?_drop] at hy <;> obtain ⟨x, hx, hxy⟩ := g2 _ y hy
 · refine ⟨hin _ _ h1, c6e h2 ?_⟩
   rw [h3]; exact (List.getElem?_eq_some_iff.1 hx).1
 · exact c0f (h4 _ x hx) hxy hA
theorem c3f {A A' : Nat → Prop} {b clock : Nat} {es : Array MapEntry} {sk : Sk} {g : List Value → Option (List IV)} (hh : w.heap[b]? = some (.map es clock)) (hb : Born es clock) (h : RMap A w sk g es)
   (hA : ∀ b, b < w.heap.size → A b → A' b) (hin : A' b) : RIV A' w (.mp sk g) (.map (some b)) := by
 obtain ⟨m1, m2, m3, m4⟩ := h
 classical
 have : ∀ k, ∃ e : MapEntry, ∀ c, g k = some c → e ∈ es.toList ∧ c5v e.key = k ∧ e.val.cells.size = c.length ∧ ∀ i x, c[i]? = some x → RIV A w x (e.val.cells.getD i undef) := by
   intro k
   cases hg : g k with
   | none => exact ⟨⟨undef, undef, 0⟩, fun c h => by cases h⟩
   | some c => obtain ⟨e, h⟩ := m4 k c hg; exact ⟨e, fun c' hc => by cases hc; exact h⟩
 refine .mp sk g b clock es (fun k i => (Classical.choose (this k)).val.cells.getD i undef) hin hh m1 m2 m3 hb (fun k c hg => ?_) (fun k c hg i x hx => ?_) <;>
   obtain ⟨h1, h2, h3, h4⟩ := Classical.choose_spec (this k) c hg
 · refine ⟨_, h1, h2, h3, fun i x hx => ?_⟩
   have hi : i < (Classical.choose (this k)).val.cells.size := by rw [h3]; exact (List.getElem?_eq_some_iff.1 hx).1
   exact c9e hi
 · exact (h4 i x hx).mono hA (fun _ _ _ => rfl)
theorem c4f {A A' : Nat → Prop} {sz : Nat} {xs : List (List IV)} {p : Option (Nat × (Nat × Nat))} {v : Value} (h : RSub A w sz xs p v) (hA : ∀ b, b < w.heap.size → A b → A' b)
   (hin : ∀ b q, p = some (b, q) → A' b) : RIV A' w (.lst sz xs) v := by
 obtain ⟨hs, ⟨_, h2, h3⟩ | ⟨b, k, cap, a, h1, h2, h3, h4, h5, h6, c, e, g1, g2, g3, g4⟩⟩ := h
 · subst h2; subst h3; exact .lnil sz
 · subst h2
   have bound : ∀ {i j x}, at2 xs i j = some x → i * sz + j < xs.length * sz := by
     intro i j x hij
     obtain ⟨r, hr, hj⟩ := c3e hij
     have hi : i < xs.length := (List.getElem?_eq_some_iff.1 hr).1
     have hj' : j < sz := by rw [← hs r (List.mem_of_getElem? hr)]; exact (List.getElem?_eq_some_iff.1 hj).1
     have hm : (i + 1) * sz ≤ xs.length * sz := Nat.mul_le_mul_right sz (by omega)
     have e2 : (i + 1) * sz = i * sz + sz := by rw [Nat.add_mul]; omega
     omega
   refine RIV.lst sz xs b k.1 cap a (fun i j => c.getD (k.1 + (i * sz + j)) undef) (fun hne => h3 ?_) hs h4 (fun i j x hij => ⟨hin _ _ h1, ?_⟩) (fun i j x hij => (g4 i j x hij).mono hA (fun _ _ _ => rfl))
   · rcases Nat.eq_zero_or_pos cap with h0 | h0
     · exact absurd (List.eq_nil_of_length_eq_zero (by omega)) hne
     · exact h0
   · have := bound hij
     exact c6e g1 (by omega)
theorem c5f {v : Value} (h : c6v v = false) : v.cells = #[v] := by cases v <;> simp_all [c6v, Value.cells]
theorem c6f {A A' : Nat → Prop} {H : Hp} {id sz : Nat} {sk : Sk} {g : List Value → Option (List (List IV))} (h : ROb A ψ H w id (.mapo sk sz g none)) (hA : ∀ b, b < w.heap.size → A b → A' b)
   (hin : ∀ b, Owns ψ id b → A' b) {b : Nat} {k : Nat × Nat} (hb : ψ id = some (b, k)) : RIV A' w (.mp sk fun k => (g k).map fun xs => [IV.lst sz xs]) (.map (some b)) := by
 obtain ⟨b', es, clock, pl, h1, h2, h3, h4, h5, h6, h7, h8, h9, h10, h11⟩ := h
 rw [h1] at hb; cases hb
 refine c3f (A := A') h2 h3 ⟨h4, fun e he => ?_, h6, fun k c hc => ?_⟩ (fun _ _ h => h) (hin _ (.inl ⟨_, h1⟩))
 · rcases h7 e he with h | ⟨xs, h⟩
   · cases h
   · exact ⟨[.lst sz xs], by simp [h]⟩
 · cases hg : g k with
   | none => simp only [hg] at hc; cases hc
   | some xs =>
     simp only [hg] at hc
     simp only [Option.map_some, Option.some.injEq] at hc
     subst hc
     obtain ⟨e, g1, g2, g3⟩ := h9 k xs hg
     have hc := c5f ((h4 e g1).2.trans h5)
     refine ⟨e, g1, g2, by rw [hc]; rfl, fun i x hx => ?_⟩
     cases i with
     | zero =>
       simp only [List.getElem?_cons_zero, Option.some.injEq] at hx; subst hx
       rw [hc]
       exact c4f g3 hA fun b' q hq => hin _ (.inr (h10 k xs b' q hg hq))
     | succ i => simp at hx
theorem c7f {A A' : Nat → Prop} {H : Hp} {id sz : Nat} {xs : List (List (List IV))} (h : ROb A ψ H w id (.listo sz xs none)) (hA : ∀ b, b < w.heap.size → A b → A' b)
   (hin : ∀ b, Owns ψ id b → A' b) {lo len cap : Nat} {a : Addr} {b : Nat} {k : Nat × Nat} (hb : ψ id = some (b, k)) (ha : 0 < cap → a = ⟨b, k.1 + lo * 1, none⟩) (hlc : len ≤ cap)
   (hx : lo + len ≤ xs.length) : RIV A' w (.lst 1 (((xs.map fun x => [IV.lst sz x]).drop lo).take len)) (.slice (some a) len cap) := by
 obtain ⟨_, b', k', c, e, pl, h1, h2, h3, h4, h5, h6, h7⟩ := h
 rw [h1] at hb; cases hb
 have hlen : (((xs.map fun x => [IV.lst sz x]).drop lo).take len).length = len := by simp; omega
 have el : ∀ {i j x}, at2 (((xs.map fun x => [IV.lst sz x]).drop lo).take len) i j = some x → ∃ z, xs[lo + i]? = some z ∧ j = 0 ∧ x = .lst sz z := by
   intro i j x hij
   have hat := c2e _ _ _ _ _ _ hij
   obtain ⟨r, hr, hj⟩ := c3e hat
   rw [List.getElem?_map] at hr
   cases hz : xs[lo + i]? with
   | none => rw [hz] at hr; cases hr
   | some z =>
     rw [hz] at hr
     simp only [Option.map_some, Option.some.injEq] at hr
     subst hr
     cases j with
     | zero => simp only [List.getElem?_cons_zero, Option.some.injEq] at hj; exact ⟨z, rfl, rfl, hj.symm⟩
     | succ j => simp at hj
 have key := RIV.lst (A := A') (w := w) 1 (((xs.map fun x => [IV.lst sz x]).drop lo).take len) b (k.1 + lo * 1) cap a (fun i j => c.getD (k.1 + (lo + i)) undef)
   (fun hne => ha (by
     rcases Nat.eq_zero_or_pos cap with h0 | h0
     · exact absurd (List.eq_nil_of_length_eq_zero (by omega)) hne
     · exact h0))
   (fun x hx => by
     have := List.mem_of_mem_drop (List.mem_of_mem_take hx)
     obtain ⟨z, _, rfl⟩ := List.mem_map.1 this
     rfl) (by omega)
   (fun i j x hij => by
     obtain ⟨z, g1, rfl, rfl⟩ := el hij
     have hi : lo + i < xs.length := (List.getElem?_eq_some_iff.1 g1).1
     refine ⟨hin _ (.inl ⟨_, h1⟩), ?_⟩
     rw [show k.1 + lo * 1 + (i * 1 + 0) = k.1 + (lo + i) from by omega]
     exact c6e h2 (by omega))
   (fun i j x hij => by
     obtain ⟨z, g1, rfl, rfl⟩ := el hij
     exact c4f (h5 _ z g1 (by simp)) hA fun b' q hq => hin _ (.inr (h6 _ z b' q g1 (by simp) hq)))
 rw [hlen] at key
 exact key
theorem ROb.mapc {A A' : Nat → Prop} {H H' : Hp} {f : AV → AV} {id : Nat} {o : Ob} (h : ROb A ψ H w id o) (hA : ∀ b, b < w.heap.size → A b → A' b)
   (hf : b8H A A' ψ ψ H H' w w f) (hagg : ∀ cs, f (.agg cs) = .junk) (htup : ∀ cs, f (.tup cs) = .junk) : ROb A' ψ H' w id (o.mapc f) := by
 cases o with
 | box cs =>
   obtain ⟨b, c, e, h1, h2, h3, h4⟩ := h
   refine ⟨b, c, e, h1, h2, by simpa using h3, fun i x hx => ?_⟩
   rw [List.getElem?_map] at hx
   cases hci : cs[i]? with
   | none => rw [hci] at hx; cases hx
   | some c0 =>
     rw [hci] at hx; cases hx
     have h5 := h4 i c0 hci
     cases c0 with
     | agg l => rw [hagg]; exact .junk _
     | tup l => rw [htup]; exact .junk _
     | _ => exact hf _ _ h5 (by simp) (by simp)
 | list sz xs =>
   obtain ⟨h0, ho⟩ := h
   refine ⟨h0, ?_⟩
   rcases ho with ho | ⟨b, k, c, e, h1, h2, h3, h3', h4⟩
   · exact .inl ho
   · exact .inr ⟨b, k, c, e, h1, h2, h3, h3', fun i j x hx => (h4 i j x hx).mono hA (fun _ _ _ => rfl)⟩
 | map sk g => obtain ⟨b, es, clock, h1, h2, h3, m⟩ := h; exact ⟨b, es, clock, h1, h2, h3, m.mono hA (fun _ _ _ => rfl)⟩
 | mapS sk g n kk => obtain ⟨b, es, clock, h1, h2, h3, m, h4⟩ := h; exact ⟨b, es, clock, h1, h2, h3, m.mono hA (fun _ _ _ => rfl), h4⟩
 | lent org sz xs =>
   obtain ⟨h0, ho⟩ := h
   refine ⟨h0, ?_⟩
   rcases ho with ho | ⟨b, k, c, e, h1, h2, h3, h3', h4⟩
   · exact .inl ho
   · exact .inr ⟨b, k, c, e, h1, h2, h3, h3', fun i j x hx => (h4 i j x hx).mono hA (fun _ _ _ => rfl)⟩
 | mapo sk sz g hole =>
   obtain ⟨b, es, clock, pl, h1, h2, h3, h4, h5, h6, h7, h8, h9, h10, h11⟩ := h
   refine ⟨b, es, clock, pl, h1, h2, h3, h4, h5, h6, h7, h8, fun k xs hg => ?_, h10, h11⟩
   obtain ⟨e, g1, g2, g3⟩ := h9 k xs hg
   exact ⟨e, g1, g2, g3.mono hA (fun _ _ _ => rfl) fun _ _ _ => rfl⟩
 | listo sz xs hole =>
   obtain ⟨h0, b, k, c, e, pl, h1, h2, h3, h4, h5, h6, h7⟩ := h
   exact ⟨h0, b, k, c, e, pl, h1, h2, h3, h4, fun i x g1 g2 => (h5 i x g1 g2).mono hA (fun _ _ _ => rfl) fun _ _ _ => rfl, h6, h7⟩
 | iter sk g left last =>
   obtain ⟨b, m, since, stamps, lastc, h1, h2, h3⟩ := h
   refine ⟨b, m, since, stamps, lastc, h1, h2, ?_⟩
   rcases h3 with h3 | ⟨bm, es, g1, g2, g3, g4, g5, g6, g7⟩
   · exact .inl h3
   · exact .inr ⟨bm, es, g1, hA bm (c7v g3) g2, g3, g4, g5, g6.mono hA (fun _ _ _ => rfl), g7⟩
 | gh Z vs cs =>
   obtain ⟨h1, h2, h3, h4⟩ := h
   refine ⟨h1, h2.mono hA (fun _ h => h) (fun _ _ _ => rfl) (fun _ _ => rfl), by simpa using h3, fun i x hx => ?_⟩
   rw [List.getElem?_map] at hx
   cases hci : cs[i]? with
   | none => rw [hci] at hx; cases hx
   | some c0 => rw [hci] at hx; cases hx; exact (h4 i c0 hci).mapc hf hagg htup
theorem SimAt.drop (h : SimAt E n ψ s a w) {id : Nat} (hid : id < 1000) : SimAt E n ψ (s.drop id) a w := by
 have gen : ∀ f : AV → AV, f .junk = .junk → (∀ cs, f (.agg cs) = .junk) → (∀ cs, f (.tup cs) = .junk) →
     (let t : St := { s.mapc f with hp := (s.mapc f).hp.filter (·.1 != id) }
      b8H (Im E ψ s.hp) (Im E ψ t.hp) ψ ψ s.hp t.hp w w f → SimAt E n ψ t a w) := by
   intro f hj hagg htup t hf
   have hlook : ∀ k, look t.hp k = if k = id then none else (look s.hp k).map (Ob.mapc f) := by
     intro k
     show look ((s.mapc f).hp.filter (·.1 != id)) k = _
     rw [b7H, c0e]
   have back : ∀ {k o}, look t.hp k = some o → k ≠ id ∧ ∃ o', look s.hp k = some o' ∧ o = o'.mapc f := by
     intro k o hk
     rw [hlook] at hk
     split at hk
     · cases hk
     · rename_i hne
       cases ho : look s.hp k with
       | none => rw [ho] at hk; cases hk
       | some o' => rw [ho] at hk; exact ⟨hne, o', rfl, by simpa using hk.symm⟩
   have hA : ∀ b, b < w.heap.size → Im E ψ s.hp b → Im E ψ t.hp b := by
     rintro b _ ⟨h1, h2⟩
     refine ⟨h1, ?_⟩
     rintro ⟨k, o, ho, hq⟩
     obtain ⟨_, o', ho', _⟩ := back ho
     exact h2 ⟨k, o', ho', hq⟩
   refine { size := h.size, defers := h.defers.mono hA (fun _ _ _ => rfl), par := h.par, old := h.old, grow := h.grow, same := h.same, frame := fun x => ?_, obs := ?_, inj := ?_, own := ?_, subs := ?_ }
   · have e : t.get x = (s.get x).mapc f := St.get_mapc f hj x
     rw [e]
     exact (h.frame x).mapc hf hagg htup
   · intro k o hk
     obtain ⟨hne, o', ho', rfl⟩ := back hk
     exact (h.obs k o' ho').mapc hA hf hagg htup
   · intro i i' o o' b hi hi' hb hb'
     obtain ⟨_, o1, h1, _⟩ := back hi
     obtain ⟨_, o2, h2, _⟩ := back hi'
     exact h.inj i i' o1 o2 b h1 h2 hb hb'
   · intro i o b hi hb
     obtain ⟨_, o1, h1, rfl⟩ := back hi
     rw [Ob.org_mapc]
     exact h.own i o1 b h1 hb
   · intro i o b hi hb
     obtain ⟨_, o1, h1, rfl⟩ := back hi
     rw [Ob.multi_mapc]
     exact h.subs i o1 b h1 hb
 have kb : ∀ f : AV → AV, b9H (· == id) ψ ψ s.hp ((s.mapc f).hp.filter (·.1 != id)) := by
   intro f k o hk ho
   have hk : k ≠ id := by simpa using hk
   refine ⟨⟨o.mapc f, ?_, Ob.le_mapc f o⟩, rfl⟩
   rw [b7H, c0e, if_neg hk, ho]; rfl
 have im : ∀ f : AV → AV, ∀ b, b < w.heap.size → Im E ψ s.hp b → Im E ψ ((s.mapc f).hp.filter (·.1 != id)) b := by
   rintro f b _ ⟨h1, h2⟩
   refine ⟨h1, ?_⟩
   rintro ⟨k, o, ho, hq⟩
   rw [b7H, c0e] at ho
   split at ho
   · cases ho
   · cases ho' : look s.hp k with
     | none => rw [ho'] at ho; cases ho
     | some o' => exact h2 ⟨k, o', ho', hq⟩
 unfold St.drop
 cases ho : look s.hp id with
 | none => exact h
 | some o =>
   refine gen (fun x => (x.fc id o).kc (· == id)) rfl (fun _ => rfl) (fun _ => rfl) ?_
   show b8H (Im E ψ s.hp) (Im E ψ ((s.mapc fun x => (x.fc id o).kc (· == id)).hp.filter (·.1 != id))) ψ ψ s.hp ((s.mapc fun x => (x.fc id o).kc (· == id)).hp.filter (·.1 != id)) w w (fun x => (x.fc id o).kc (· == id))
   have im1 := im fun x => (x.fc id o).kc (· == id)
   have kb1 := kb fun x => (x.fc id o).kc (· == id)
   have hH2 : ∀ k' o', look ((s.mapc fun x => (x.fc id o).kc (· == id)).hp.filter (·.1 != id)) k' = some o' → k' ≠ id ∧ ∃ o1, look s.hp k' = some o1 := by
     intro k' o' ho'
     rw [b7H, c0e] at ho'
     split at ho'
     · cases ho'
     · rename_i hne
       cases ho1 : look s.hp k' with
       | none => rw [ho1] at ho'; cases ho'
       | some o1 => exact ⟨hne, o1, rfl⟩
   generalize ((s.mapc fun x => (x.fc id o).kc (· == id)).hp.filter (·.1 != id)) = H2 at im1 kb1 hH2 ⊢
   intro x v hx hn1 hn2
   have hkc := b0I (p := (· == id)) (w := w) (w' := w) im1 (fun _ _ _ => rfl) kb1
   have hob := h.obs id _ ho
   have hin : o.isLent = false → ∀ b, Owns ψ id b → Im E ψ H2 b := by
     intro hl b hb
     refine ⟨.inr ?_, ?_⟩
     · rcases h.own id _ b ho hb with ⟨h1, _⟩ | h1
       · have e : o.org id = id := by cases o <;> first | rfl | cases hl
         rw [e] at h1
         have := E.big id h1; omega
       · exact h1
     · rintro ⟨k', o', ho', hq⟩
       obtain ⟨hne, o1, ho1⟩ := hH2 k' o' ho'
       exact hne (h.inj k' id o1 _ b ho1 ho hq hb)
   have hin' : o.isLent = false → ∀ b k, ψ id = some (b, k) → Im E ψ H2 b := fun hl b k hb => hin hl b (.inl ⟨k, hb⟩)
   have jk : ∀ {v}, RAV (Im E ψ H2) ψ H2 w (AV.junk.kc (· == id)) v := .junk _
   cases hx with
   | sl0 j sz' o' m hj he hb =>
     by_cases hji : j = id
     · subst hji
       rw [ho] at hj; cases hj
       simp only [AV.fc, if_true]
       cases o with
       | list sz xs =>
         simp only [AV.kc]
         rw [List.take_zero]
         exact .iv _ _ (.lnil _)
       | listo sz xs hole =>
         cases hole with
         | none =>
           simp only [AV.kc]
           rw [List.take_zero]
           exact .iv _ _ (.lnil _)
         | some q => exact jk
       | _ => exact jk
     · have := hkc _ _ (.sl0 j sz' o' m hj he hb) (by simp) (by simp)
       simpa [AV.fc, hji] using this
   | sl j sz' lo len b k cap ad o' m hj he hxl hb ha hlc hk hm =>
     by_cases hji : j = id
     · subst hji
       rw [ho] at hj; cases hj
       simp only [AV.fc, if_true]
       cases o with
       | list sz xs =>
         simp only [Ob.dim, Option.some.injEq, Prod.mk.injEq] at he
         obtain ⟨rfl, rfl⟩ := he
         exact .iv _ _ (c7e hob im1 (hin' rfl) hb ha hlc hxl)
       | listo sz xs hole =>
         simp only [Ob.dim, Option.some.injEq, Prod.mk.injEq] at he
         obtain ⟨rfl, rfl⟩ := he
         cases hole with
         | none => exact .iv _ _ (c7f hob im1 (hin rfl) hb ha hlc hxl)
         | some q => exact jk
       | _ => exact jk
     · have := hkc _ _ (.sl j sz' lo len b k cap ad o' m hj he hxl hb ha hlc hk hm) (by simp) (by simp)
       simpa [AV.fc, hji] using this
   | ep j sz' i off b k o' m hj he hi hb =>
     by_cases hji : j = id
     · subst hji
       rw [ho] at hj; cases hj
       simp only [AV.fc, if_true]
       cases o with
       | list sz xs =>
         simp only [Ob.dim, Option.some.injEq, Prod.mk.injEq] at he
         obtain ⟨rfl, rfl⟩ := he
         exact .iv _ _ (c8e hob im1 (hin' rfl) hb hi)
       | _ => exact jk
     · have := hkc _ _ (.ep j sz' i off b k o' m hj he hi hb) (by simp) (by simp)
       simpa [AV.fc, hji] using this
   | mpr j b k o' hj hb =>
     by_cases hji : j = id
     · subst hji
       rw [ho] at hj; cases hj
       simp only [AV.fc, if_true]
       cases o with
       | map sk g =>
         obtain ⟨b', es, clock, g1, g2, g3, g4⟩ := hob
         rw [g1] at hb; cases hb
         exact .iv _ _ (c3f g2 g3 g4 im1 (hin' rfl _ _ g1))
       | mapo sk sz g hole =>
         cases hole with
         | none => exact .iv _ _ (c6f hob im1 (hin rfl) hb)
         | some q => exact jk
       | _ => exact jk
     · have := hkc _ _ (.mpr j b k o' hj hb) (by simp) (by simp)
       simpa [AV.fc, hji] using this
   | ptr j off b k o' hj hb =>
     by_cases hji : j = id
     · subst hji
       rw [ho] at hj; cases hj
       simp only [AV.fc, if_true]
       cases o with
       | box cs =>
         have e : ∀ A H, (∀ l, b5H cs = some l → RAV A ψ H w (.iv (.pt (l.drop off))) (.pointer (some ⟨b, off, none⟩))) →
             RAV A ψ H w (AV.kc (· == j) (match b5H cs with | some l => .iv (.pt (l.drop off)) | none => .junk)) (.pointer (some ⟨b, off, none⟩)) := by
           intro A H hh
           split
           · rename_i l hl; exact hh l hl
           · exact .junk _
         exact e _ _ fun l hl => .iv _ _ (c2f hob hl im1 (hin' rfl) hb)
       | _ => exact jk
     · have := hkc _ _ (.ptr j off b k o' hj hb) (by simp) (by simp)
       simpa [AV.fc, hji] using this
   | iv x v hx => exact hkc _ _ (.iv x v hx) (fun _ h => by cases h) (fun _ h => by cases h)
   | nil sz' => exact .nil sz'
   | fn g first caps vf vc hf hc h1 h2 =>
     have hcap : ∀ {c : CapV} {v : Value}, (c.fc id o).of (· == id) = false → RCap (Im E ψ s.hp) ψ s.hp w c v →
         RCap (Im E ψ H2) ψ H2 w (c.fc id o) v := by
       intro c v hp hr
       cases hr with
       | val x v hx => exact .val x v (hx.mono im1 (fun _ _ _ => rfl))
       | ptr j off b k o' hj hb =>
         by_cases hji : j = id
         · subst hji
           rw [ho] at hj; cases hj
           simp only [CapV.fc, if_true] at hp ⊢
           cases o with
           | box cs =>
             dsimp only at hp ⊢
             cases hl : b5H cs with
             | none => rw [hl] at hp; simp [CapV.of] at hp
             | some l => exact .val _ _ (c2f hob hl im1 (hin' rfl) hb)
           | _ => simp [CapV.of] at hp
         · simp only [CapV.fc, if_neg hji]
           obtain ⟨⟨o2, q1, _⟩, q2⟩ := kb1 j o' (by simpa using hji) hj
           exact .ptr j off b k o2 q1 hb
     simp only [AV.fc, AV.kc]
     split
     · exact .junk _
     · rename_i hp
       simp only [Bool.or_eq_true, List.any_eq_true, not_or, not_exists, not_and, Bool.not_eq_true, List.mem_map, forall_exists_index, and_imp, forall_apply_eq_imp_iff₂] at hp
       refine .fn g _ _ vf vc (by simpa using hf) (by simpa using hc) (fun i c h => ?_) (fun i c h => ?_) <;> rw [List.getElem?_map] at h
       · cases hi : first[i]? with
         | none => rw [hi] at h; cases h
         | some c0 => rw [hi] at h; cases h; exact hcap (hp.1 c0 (List.mem_of_getElem? hi)) (h1 i c0 hi)
       · cases hi : caps[i]? with
         | none => rw [hi] at h; cases h
         | some c0 => rw [hi] at h; cases h; exact hcap (hp.2 c0 (List.mem_of_getElem? hi)) (h2 i c0 hi)
   | agg cs vs hl h => exact (hn1 cs rfl).elim
   | tup cs vs hl h => exact (hn2 cs rfl).elim
   | un => exact .un
   | junk v => exact .junk v
end
end Go.Vm
end

section
namespace Go.Vm
section
variable {E : En} {n : Nat} {ψ : Pl} {s : St} {a : Act} {w : World}
def St.lone (id : Nat) (s : St) : St := s.mapc (AV.kc (· == id))
theorem c3G (id k : Nat) : look (s.lone id).hp k = (look s.hp k).map (Ob.mapc (AV.kc (· == id))) := c0e _ _
theorem SimAt.lone (h : SimAt E n ψ s a w) (id : Nat) : SimAt E n ψ (s.lone id) a w := by
 have back : ∀ {k o}, look (s.lone id).hp k = some o → ∃ o', look s.hp k = some o' ∧ o = o'.mapc (AV.kc (· == id)) := by
   intro k o hk
   rw [c3G] at hk
   cases ho : look s.hp k with
   | none => rw [ho] at hk; cases hk
   | some o' => rw [ho] at hk; exact ⟨o', rfl, by simpa using hk.symm⟩
 have hA : ∀ b, b < w.heap.size → Im E ψ s.hp b → Im E ψ (s.lone id).hp b := by
   rintro b _ ⟨h1, h2⟩
   refine ⟨h1, ?_⟩
   rintro ⟨k, o, ho, hq⟩
   obtain ⟨o', ho', _⟩ := back ho
   exact h2 ⟨k, o', ho', hq⟩
 have hk : b9H (· == id) ψ ψ s.hp (s.lone id).hp := by
   intro k o _ ho
   exact ⟨⟨_, by rw [c3G, ho]; rfl, Ob.le_mapc _ o⟩, rfl⟩
 have hf := b0I (p := (· == id)) hA (fun _ _ _ => rfl) hk (w' := w)
 refine { size := h.size, defers := h.defers.mono hA (fun _ _ _ => rfl), par := h.par, old := h.old, grow := h.grow, same := h.same, frame := fun x => ?_, obs := ?_, inj := ?_, own := ?_, subs := ?_ }
 · have e : (s.lone id).get x = (s.get x).mapc (AV.kc (· == id)) := St.get_mapc _ rfl x
   rw [e]
   exact (h.frame x).mapc hf (fun _ => rfl) (fun _ => rfl)
 · intro k o hk
   obtain ⟨o', ho', rfl⟩ := back hk
   exact (h.obs k o' ho').mapc hA hf (fun _ => rfl) (fun _ => rfl)
 · intro i i' o o' b hi hi' hb hb'
   obtain ⟨o1, h1, _⟩ := back hi
   obtain ⟨o2, h2, _⟩ := back hi'
   exact h.inj i i' o1 o2 b h1 h2 hb hb'
 · intro i o b hi hb
   obtain ⟨o1, h1, rfl⟩ := back hi
   rw [Ob.org_mapc]
   exact h.own i o1 b h1 hb
 · intro i o b hi hb
   obtain ⟨o1, h1, rfl⟩ := back hi
   rw [Ob.multi_mapc]
   exact h.subs i o1 b h1 hb
def St.add (s : St) (id : Nat) (o : Ob) : St := { s with hp := (id, o) :: s.hp }
theorem c4G (id k : Nat) (o : Ob) : look (s.add id o).hp k = if id = k then some o else look s.hp k := by
 simp only [St.add, look]
def upd (ψ : Pl) (id : Nat) (p : Option (Nat × (Nat × Nat))) : Pl := ⟨fun j => if j = id then p else ψ j, fun j b => j ≠ id ∧ ψ.sub j b⟩
theorem c5G (id : Nat) (p : Option (Nat × (Nat × Nat))) {b : Nat} (h : Owns (upd ψ id p) id b) : ∃ k, p = some (b, k) := by
 rcases h with ⟨k, h⟩ | h
 · simp only [upd, if_true] at h; exact ⟨k, h⟩
 · exact absurd rfl h.1
theorem c6G {id j : Nat} (p : Option (Nat × (Nat × Nat))) {b : Nat} (hj : j ≠ id) : Owns (upd ψ id p) j b ↔ Owns ψ j b := by
 simp [Owns, upd, hj]
theorem SimAt.new (h : SimAt E n ψ s a w) {id : Nat} (hid : id < 1000) (hno : look s.hp id = none) {o : Ob} {w' : World} (hx : Ext w w') {p : Option (Nat × (Nat × Nat))}
   (hp : ∀ b k, p = some (b, k) → w.heap.size ≤ b)
   (ho : ROb (fun b => b < w.heap.size ∧ Im E ψ s.hp b) (upd ψ id p) (s.add id o).hp w' id o) : SimAt E n (upd ψ id p) (s.add id o) a w' := by
 have hne : ∀ {k o}, look s.hp k = some o → k ≠ id := by rintro k o hk rfl; rw [hno] at hk; cases hk
 have hlt : ∀ {k o b}, look s.hp k = some o → Owns ψ k b → b < w.heap.size := fun hk hb => h.lt hk hb
 have hI : ∀ b, b < w.heap.size → Im E ψ s.hp b → Im E (upd ψ id p) (s.add id o).hp b := by
   rintro b hb ⟨h1, h2⟩
   refine ⟨h1, ?_⟩
   rintro ⟨k, ob, hk, hq⟩
   rw [c4G] at hk
   by_cases he : id = k
   · subst he
     obtain ⟨q, hq⟩ := c5G _ _ hq
     have := hp _ _ hq
     omega
   · rw [if_neg he] at hk
     exact h2 ⟨k, ob, hk, (c6G p (Ne.symm he)).1 hq⟩
 have hw : ∀ b, b < w.heap.size → Im E ψ s.hp b → w'.heap[b]? = w.heap[b]? := fun b hb _ => hx.block b hb
 have hk : c9v ψ (upd ψ id p) s.hp (s.add id o).hp := by
   intro k ob hk
   have hne := hne hk
   refine ⟨⟨ob, ?_, ob.le_refl⟩, ?_⟩
   · rw [c4G, if_neg (Ne.symm hne)]; exact hk
   · simp [upd, hne]
 refine { size := h.size, defers := h.defers.mono hI hw, frame := fun t => (h.frame t).mono hI hw hk, obs := ?_, inj := ?_, own := ?_, subs := ?_, par := ?_, old := ?_, grow := ?_, same := ?_ }
 · intro k ob hko
   rw [c4G] at hko
   by_cases he : id = k
   · subst he
     rw [if_pos rfl] at hko
     cases hko
     exact ho.mono (fun b _ hb => hI b hb.1 hb.2) (fun _ _ _ => rfl) (c9v.refl _ _) ⟨rfl, fun _ h => h⟩ (fun _ _ => rfl)
   · rw [if_neg he] at hko
     exact (h.obs k ob hko).mono hI hw hk ⟨by simp [upd, Ne.symm he], fun b hb => ⟨Ne.symm he, hb⟩⟩ fun b hb => hx.block b (hlt hko hb)
 · intro i i' o1 o2 b hi hi' hb hb'
   rw [c4G] at hi hi'
   by_cases e1 : id = i
   · by_cases e2 : id = i'
     · exact e1.symm.trans e2
     · subst e1
       rw [if_neg e2] at hi'
       obtain ⟨q, hb⟩ := c5G _ _ hb
       have hb' := (c6G p (Ne.symm e2)).1 hb'
       have := hp _ _ hb
       have := hlt hi' hb'
       omega
   · by_cases e2 : id = i'
     · subst e2
       rw [if_neg e1] at hi
       obtain ⟨q, hb'⟩ := c5G _ _ hb'
       have hb := (c6G p (Ne.symm e1)).1 hb
       have := hp _ _ hb'
       have := hlt hi hb
       omega
     · rw [if_neg e1] at hi
       rw [if_neg e2] at hi'
       exact h.inj i i' o1 o2 b hi hi' ((c6G p (Ne.symm e1)).1 hb) ((c6G p (Ne.symm e2)).1 hb')
 · intro i o1 b hi hb
   rw [c4G] at hi
   by_cases e1 : id = i
   · subst e1
     obtain ⟨q, hb⟩ := c5G _ _ hb
     exact .inr (.inr (Nat.le_trans h.grow (hp _ _ hb)))
   · rw [if_neg e1] at hi
     exact h.own i o1 b hi ((c6G p (Ne.symm e1)).1 hb)
 · intro i o1 b hi hb
   rw [c4G] at hi
   rw [if_neg (Ne.symm hb.1)] at hi
   obtain ⟨g1, g2, g3⟩ := h.subs i o1 b hi hb.2
   exact ⟨g1, Nat.lt_of_lt_of_le g2 hx.size, fun k => by simp only [upd, if_neg hb.1]; exact g3 k⟩
 · intro i hi
   have : i ≠ id := by have := E.big i hi; omega
   simp only [upd, if_neg this]
   exact h.par i hi
 · intro b hb hm
   rw [hx.block b (Nat.lt_of_lt_of_le hb h.grow)]; exact h.old b hb hm
 · exact Nat.le_trans h.grow hx.size
 · exact ⟨hx.same.1.trans h.same.1, hx.same.2.1.trans h.same.2.1, hx.same.2.2.1.trans h.same.2.2.1, Nat.le_trans h.same.2.2.2 hx.same.2.2.2⟩
theorem SimAt.chg (h : SimAt E n ψ s a w) {id : Nat} {o o' : Ob} (hold : look s.hp id = some o) (hle : o.le o') (horg : o'.org id = o.org id) (hmul : o.multi = true → o'.multi = true) {w' : World} {b : Nat} {k : Nat × Nat} (hb : ψ id = some (b, k))
   (hw : ∀ i, i ≠ b → w'.heap[i]? = w.heap[i]?) (hsz : w'.heap.size = w.heap.size) (hs : w'.os = w.os ∧ w'.tape = w.tape ∧ w'.output = w.output ∧ w.drawn ≤ w'.drawn)
   (ho : (∀ x v, RAV (Im E ψ s.hp) ψ s.hp w x v → RAV (Im E ψ (s.add id o').hp) ψ (s.add id o').hp w' x v) →
     (∀ x v, RIV (Im E ψ s.hp) w x v → RIV (Im E ψ (s.add id o').hp) w' x v) → ROb (Im E ψ (s.add id o').hp) ψ (s.add id o').hp w' id o') :
   SimAt E n ψ (s.add id o') a w' := by
 have hheld : ∀ i, Held ψ (s.add id o').hp i ↔ Held ψ s.hp i := by
   intro i
   constructor
   · rintro ⟨j, ob, hj, hq⟩
     rw [c4G] at hj
     by_cases e : id = j
     · subst e; exact ⟨id, o, hold, hq⟩
     · rw [if_neg e] at hj; exact ⟨j, ob, hj, hq⟩
   · rintro ⟨j, ob, hj, hq⟩
     by_cases e : id = j
     · subst e; exact ⟨id, o', by rw [c4G, if_pos rfl], hq⟩
     · exact ⟨j, ob, by rw [c4G, if_neg e]; exact hj, hq⟩
 have hI : ∀ i, i < w.heap.size → Im E ψ s.hp i → Im E ψ (s.add id o').hp i := fun i _ h => ⟨h.1, fun hh => h.2 ((hheld i).1 hh)⟩
 have hB : Held ψ s.hp b := ⟨id, o, hold, .inl ⟨k, hb⟩⟩
 have hw' : ∀ i, i < w.heap.size → Im E ψ s.hp i → w'.heap[i]? = w.heap[i]? := fun i _ h => hw i (fun e => h.2 (e ▸ hB))
 have hk : c9v ψ ψ s.hp (s.add id o').hp := by
   intro j ob hj
   refine ⟨?_, rfl⟩
   by_cases e : id = j
   · subst e
     rw [hold] at hj; cases hj
     exact ⟨o', by rw [c4G, if_pos rfl], hle⟩
   · exact ⟨ob, by rw [c4G, if_neg e]; exact hj, ob.le_refl⟩
 refine { size := h.size, defers := h.defers.mono hI hw', frame := fun t => (h.frame t).mono hI hw' hk, obs := ?_, inj := ?_, own := ?_, subs := ?_, par := h.par, old := ?_, grow := ?_, same := ?_ }
 · intro j ob hj
   rw [c4G] at hj
   by_cases e : id = j
   · subst e
     rw [if_pos rfl] at hj; cases hj
     exact ho (fun x v hx => hx.mono hI hw' hk) (fun x v hx => hx.mono hI hw')
   · rw [if_neg e] at hj
     refine (h.obs j ob hj).mono hI hw' hk ⟨rfl, fun _ h => h⟩ fun i hi => hw i ?_
     rintro rfl
     exact e (h.inj id j o ob i hold hj (.inl ⟨k, hb⟩) hi)
 · have conv : ∀ {i o1}, look (s.add id o').hp i = some o1 → ∃ o2, look s.hp i = some o2 := by
     intro i o1 hi
     rw [c4G] at hi
     by_cases e : id = i
     · subst e; exact ⟨o, hold⟩
     · rw [if_neg e] at hi; exact ⟨o1, hi⟩
   intro i i' o1 o2 x hi hi' hx hx'
   obtain ⟨_, g1⟩ := conv hi
   obtain ⟨_, g2⟩ := conv hi'
   exact h.inj i i' _ _ x g1 g2 hx hx'
 · intro i o1 x hi hx
   rw [c4G] at hi
   by_cases e : id = i
   · subst e
     rw [if_pos rfl] at hi; cases hi
     rw [horg]
     exact h.own id o x hold hx
   · rw [if_neg e] at hi; exact h.own i o1 x hi hx
 · intro i o1 x hi hx
   rw [c4G] at hi
   by_cases e : id = i
   · subst e
     rw [if_pos rfl] at hi; cases hi
     obtain ⟨g1, g2, g3⟩ := h.subs id o x hold hx
     exact ⟨hmul g1, by rw [hsz]; exact g2, g3⟩
   · rw [if_neg e] at hi
     obtain ⟨g1, g2, g3⟩ := h.subs i o1 x hi hx
     exact ⟨g1, by rw [hsz]; exact g2, g3⟩
 · intro i hi hm
   rw [hw i ?_]
   · exact h.old i hi hm
   · rintro rfl
     rcases h.own id o i hold (.inl ⟨k, hb⟩) with ⟨h1, h2⟩ | h1
     · exact hm (.inl ⟨_, h1, h2⟩)
     · exact E.no hi hm h1
 · rw [hsz]; exact h.grow
 · exact ⟨hs.1.trans h.same.1, hs.2.1.trans h.same.2.1, hs.2.2.1.trans h.same.2.2.1, Nat.le_trans h.same.2.2.2 hs.2.2.2⟩
theorem c7G (w : World) (a : Addr) (v : Value) (i : Nat) (h : i ≠ a.block) : (w.setCell a v).heap[i]? = w.heap[i]? := by
 simp only [World.setCell, Array.getElem?_modify]
 rw [if_neg (fun e => h e.symm)]
theorem c8G (w : World) (b o : Nat) (v : Value) {c : Array Value} {e : TypeId} {f : Nat × Nat} (h : w.heap[b]? = some (.cells c e f)) :
   (w.setCell ⟨b, o, none⟩ v).heap[b]? = some (.cells (c.setIfInBounds o v) e f) := by
 simp only [World.setCell, Array.getElem?_modify, if_true, h, Option.map_some]
 rfl
end
end Go.Vm
end

section
namespace Go.Vm
inductive Rhs where
 | mov (x : Operand)
 | nils (sz : Nat)
 | pick (c a b : Operand)
 | alloc (z : List AV)
 | box (x : Operand)
 | build (z : List AV) (parts : List (Nat × Nat × Operand))
 | lit (sz len : Nat) (parts : List (Nat × Operand))
 | ld (a : Operand) (n : Option Nat)
 | st (a x : Operand) (n : Nat)
 | chk (x : Operand)
 | bin (op : BinOp) (x y : Operand)
 | beq (neg : Bool) (x y : Operand)
 | peq (neg : Bool) (x y : Operand)
 | eqs (neg : Bool) (ks : List Kd) (x y : Operand)
 | un (op : UnOp) (x : Operand)
 | cvt (k : IntKind) (x : Operand)
 | cut (sz : Nat) (x : Operand) (lo hi : Option Operand)
 | fa (off : Nat) (x : Operand)
 | fld (off : Nat) (n : Option Nat) (x : Operand)
 | ia (sz : Nat) (x i : Operand)
 | is (x i : Operand)
 | ix (n : Nat) (x i : Operand)
 | ext (i : Nat) (x : Operand)
 | len (x : Operand)
 | lens (x : Operand)
 | app (sz bytes : Nat) (x y : Operand)
 | mm (max : Bool) (xs : List Operand)
 | call (f : FuncId) (args : List Operand)
 | callv (x : Operand) (args : List Operand)
 | mkfn (f : FuncId) (first caps : List Operand)
 | mks (sz bytes : Nat) (z : List AV) (l c : Operand)
 | mkmap (sk : Sk)
 | lkp (sk : Sk) (z : List AV) (m k : Operand) (ok : Bool)
 | mset (sk : Sk) (m k x : Operand)
 | mdel (sk : Sk) (m k : Operand)
 | lenm (x : Operand)
 | snil (neg : Bool) (x : Operand)
 | cpy (sz : Nat) (x y : Operand)
 | clr (sz : Nat) (z : List AV) (x : Operand)
 | ment (sk : Sk) (z : List AV) (m k : Operand)
 | est (m st x : Operand)
 | rng (sk : Sk) (x : Operand)
 | nxt (x : Operand)
 | ent (x : Operand)
 deriving Inhabited
structure VOp where
 d : Option Nat
 g : Option (Nat × Bool)
 r : Rhs
 deriving Inhabited
def zav (sz : Nat) : Value → AV
 | .slice none 0 0 => .nil sz
 | .agg _ => .junk
 | .tuple _ => .junk
 | v => .iv (.v v)
def AV.const : Value → AV
 | .agg cs => .agg (cs.toList.map (zav 0))
 | v => zav 0 v
def St.ev (s : St) : Operand → AV
 | .tmp t => s.get t
 | .const v => AV.const v
 | .global _ => .junk
 | .func f => .fn f [] []
def b8N (P : Program) (t : TypeId) : Option Nat := (P.info? t).map (·.size)
def szOf (P : Program) (t : TypeId) : Nat := match P.underlying t with
 | some (.slice e) => (b8N P e).getD 0
 | _ => 0
def b9N (P : Program) : Nat → TypeId → List Nat
 | 0, _ => []
 | d + 1, t => match P.underlying t with
   | some (.struct fs) => fs.toList.flatMap fun f => b9N P d f.type
   | some (.array k e) => (List.replicate k ()).flatMap fun _ => b9N P d e
   | some (.slice e) => [(b8N P e).getD 0]
   | _ => [0]
def b0O : List Value → List Nat → List AV
 | [], _ => []
 | v :: r, [] => zav 0 v :: b0O r []
 | v :: r, n :: q => zav n v :: b0O r q
def b1O (P : Program) (t : TypeId) : Option (List AV) := do
 let i ← P.info? t
 let z ← i.zero
 pure (b0O z.cells.toList (b9N P 20 t))
def b2O (P : Program) (t : TypeId) : Bool := match P.underlying t with
 | some (.struct _) | some (.array ..) => true
 | _ => false
def b3O (P : Program) : Nat → TypeId → Option (List Kd)
 | 0, _ => none
 | d + 1, t => match P.underlying t with
   | some .bool => some [.b]
   | some (.int k) => some [.i k]
   | some .string => some [.s]
   | some (.struct fs) => if P.stoodInHeld t then none else fs.toList.foldlM (fun ks f => if f.name ≠ "_" ∧ f.offset = ks.length then
       (b3O P d f.type).bind fun q => if b8N P f.type = some q.length then some (ks ++ q) else none else none) []
   | _ => none
def skT (P : Program) (t e : TypeId) : Option Sk := (b3O P 20 t).bind fun l => if b8N P t = some l.length then (if (P.underlying e).isSome then some (b2O P t, l, b2O P e) else none) else none
def b4O : AV → Option (Kd × Value)
 | .iv (.v u) => (kdOf u).map fun k => (k, u)
 | _ => none
def b5O : AV → Option ((Bool × List Kd) × List Value)
 | .iv (.v u) => (kdOf u).map fun k => ((false, [k]), [u])
 | .agg cs => (cs.mapM b4O).map fun (l : List (Kd × Value)) => ((true, l.map (·.1)), l.map (·.2))
 | _ => none
open Classical in
noncomputable def gset {β : Type} (g : List Value → Option β) (k : List Value) (c : Option β) : List Value → Option β := fun q => if q = k then c else g q
open Classical in
noncomputable def rmk (k : List Value) (l : List (List Value)) : List (List Value) := l.filter fun q => decide (q ≠ k)
def b6O : AV → Bool
 | .agg _ => true
 | _ => false
def b7O (agg : Bool) (cs : List AV) : AV := if agg then .agg cs else match cs with | [x] => x | _ => .junk
def lkR (z : List AV) (agg ok : Bool) : Option (List IV) → AV
 | some c => if ok then .tup [b7O agg (c.map .iv), .iv (.v (.bool true))] else b7O agg (c.map .iv)
 | none => if ok then .tup [b7O agg z, .iv (.v (.bool false))] else b7O agg z
def St.mapOf (s : St) : AV → Option (Sk × (List Value → Option (List IV)))
 | .mpr id => match look s.hp id with
   | some (.map sk g) => some (sk, g)
   | some (.mapS sk g _ _) => some (sk, g)
   | _ => none
 | .iv (.mp sk g) => some (sk, g)
 | _ => none
def St.moOf (s : St) : AV → Option (Nat × Sk × Nat × (List Value → Option (List (List IV))) × Option (List Value))
 | .mpr id => match look s.hp id with
   | some (.mapo sk sz g hole) => some (id, sk, sz, g, hole)
   | _ => none
 | _ => none
open Classical in
noncomputable def b8O (v : Value) : List Value → List AV → Option Nat
 | u :: vs, c :: cs => match c with
   | .mpr id => if u = v then some id else b8O v vs cs
   | _ => b8O v vs cs
 | _, _ => none
noncomputable def b9O (s : Hp) (v : Value) : Hp → Option Nat
 | [] => none
 | (g, _) :: r => match look s g with
   | some (.gh _ vs cs) => match b8O v vs cs with
     | some id => some id
     | none => b9O s v r
   | _ => b9O s v r
noncomputable def St.unr (s : St) : AV → AV
 | .iv (.v v) => match b9O s.hp v s.hp with
   | some id => .mpr id
   | none => .iv (.v v)
 | x => x
theorem b0P {v : Value} : ∀ {vs : List Value} {cs : List AV} {id : Nat}, b8O v vs cs = some id → ∃ i : Nat, vs[i]? = some v ∧ cs[i]? = some (AV.mpr id)
 | [], _, _, h => by simp [b8O] at h
 | _ :: _, [], _, h => by simp [b8O] at h
 | u :: vs, c :: cs, id, h => by
   unfold b8O at h
   split at h
   · split at h
     · rename_i e; subst e; cases h; exact ⟨0, rfl, rfl⟩
     · obtain ⟨i, h1, h2⟩ := b0P h; exact ⟨i + 1, by simpa using h1, by simpa using h2⟩
   · obtain ⟨i, h1, h2⟩ := b0P h; exact ⟨i + 1, by simpa using h1, by simpa using h2⟩
theorem b1P {s : Hp} {v : Value} : ∀ {r : Hp} {id : Nat}, b9O s v r = some id → ∃ (g : Nat) (Z : GZ) (vs : List Value) (cs : List AV) (i : Nat), look s g = some (.gh Z vs cs) ∧ vs[i]? = some v ∧ cs[i]? = some (AV.mpr id)
 | [], _, h => by simp [b9O] at h
 | (g, o) :: r, id, h => by
   unfold b9O at h
   split at h
   · rename_i Z vs cs hl
     split at h
     · rename_i id' hf
       cases h
       obtain ⟨i, h1, h2⟩ := b0P hf
       exact ⟨g, Z, vs, cs, i, hl, h1, h2⟩
     · exact b1P h
   · exact b1P h
@[simp] theorem unr_mpr {s : St} {id : Nat} : s.unr (.mpr id) = .mpr id := rfl
def St.kill (id : Nat) (s : St) : St :=
 let t := s.mapc (AV.kc (· == id))
 { t with hp := t.hp.filter (·.1 != id) }
def Ob.org? : Ob → Option Nat
 | .lent org _ _ => some org
 | _ => none
def okFn (P : Program) (f : FuncId) : Bool := match P.funcs[f]? with
 | some fn => fn.name != "runtime.NumGoroutine" && fn.body.isSome
 | none => false
def b2P (ops : Array Oper) (o : Oper) : Option (Option (Nat × Bool)) := match o.guard with
 | none => some none
 | some (j, b) => ((ops[j]?).bind (·.dst)).map fun d => some (d, b)
def comp (P : Program) (o : Oper) : Option Rhs :=
 match o.op with
 | .move x | .assign x => match x with
   | .const (.slice none 0 0) => some (.nils (szOf P o.type))
   | x => some (.mov x)
 | .pick c a b => some (.pick c a b)
 | .alloc t => (b1O P t).map .alloc
 | .box _ x => some (.box x)
 | .build t parts => match P.underlying t with
   | some (.struct fs) => if fs.all (fun f => (b8N P f.type).isSome) then do
       let z ← b1O P t
       let l ← parts.toList.mapM fun (p : Nat × Operand) => do
         let f ← fs[p.1]?
         let n ← b8N P f.type
         pure (f.offset, n, p.2)
       pure (.build z l)
     else none
   | some (.array _ e) => do
     let q ← b8N P e
     let z ← b1O P t
     pure (.build z (parts.toList.map fun p => (p.1 * q, q, p.2)))
   | _ => none
 | .buildSlice t len parts => match P.underlying t with
   | some (.slice e) => do
     let sz ← b8N P e
     if parts.size = len ∧ (parts.toList.map (·.1)) = List.range len ∧ 0 < sz ∧ len * sz ≤ 2 ^ 24 then do
       let _ ← b1O P e
       pure (.lit sz len parts.toList)
     else none
   | _ => none
 | .load t a => do
   let _ ← P.underlying t
   if b2O P t then (b8N P t).map fun n => .ld a (some n) else pure (.ld a none)
 | .store t a x => (b8N P t).map fun n => .st a x n
 | .nilCheck x => some (.chk x)
 | .binOp op xt x y _ => match P.underlying xt with
   | some (.int _) | some .string => some (.bin op x y)
   | some .bool => match op with
     | .eql => some (.beq false x y)
     | .neq => some (.beq true x y)
     | _ => none
   | some (.pointer _) => match op with
     | .eql => some (.peq false x y)
     | .neq => some (.peq true x y)
     | _ => none
   | some (.slice _) => match op, y with
     | .eql, .const (.slice none 0 0) => some (.snil false x)
     | .neq, .const (.slice none 0 0) => some (.snil true x)
     | _, _ => none
   | some (.struct _) => if P.eqGuardType P.depth xt = false then (b3O P 20 xt).bind fun ks => if b8N P xt ≠ some ks.length then none else match op with
       | .eql => some (.eqs false ks x y)
       | .neq => some (.eqs true ks x y)
       | _ => none
     else none
   | _ => none
 | .unOp op _ x => some (.un op x)
 | .convert s d x => match P.underlying s, P.underlying d with
   | some (.int _), some (.int k) => some (.cvt k x)
   | _, _ => none
 | .makeFunc (.func f) first caps => some (.mkfn f first.toList caps.toList)
 | .makeMap t none => match P.underlying t with
   | some (.map k e) => (skT P k e).map .mkmap
   | _ => none
 | .makeSlice t l c => match P.underlying t with
   | some (.slice e) => do
     let i ← P.info? e
     let z ← b1O P e
     if z.length = i.size ∧ 0 < i.size then pure (.mks i.size i.bytes z l c) else none
   | _ => none
 | .slice t x lo hi none => match P.underlying t with
   | some (.slice e) => (b8N P e).map fun sz => .cut sz x lo hi
   | _ => none
 | .fieldAddr st x f => match P.underlying st with
   | some (.struct fs) => do
     let f ← fs[f]?
     let n ← b8N P f.type
     if n = 0 then none else pure (.fa f.offset x)
   | _ => none
 | .field st x f => match P.underlying st with
   | some (.struct fs) => do
     let f ← fs[f]?
     let n ← b8N P f.type
     let _ ← P.underlying f.type
     pure (.fld f.offset (if b2O P f.type then some n else none) x)
   | _ => none
 | .indexAddr t x i => match P.underlying t with
   | some (.slice e) => (b8N P e).map fun sz => .ia sz x i
   | _ => none
 | .index t x i => match P.underlying t with
   | some .string => some (.is x i)
   | some (.array n e) => if b8N P e = some 1 ∧ b2O P e = false ∧ (P.underlying e).isSome = true then some (.ix n x i) else none
   | _ => none
 | .lookup t m k ok => match P.underlying t with
   | some (.map k' e) => do
     let sk ← skT P k' e
     let z ← b1O P e
     if ((P.info? e).bind (·.zero)).map c6v = some (b2O P e) then pure (.lkp sk z m k ok) else none
   | _ => none
 | .mapEntry t m k => match P.underlying t with
   | some (.map k' e) => do
     let sk ← skT P k' e
     let z ← b1O P e
     if ((P.info? e).bind (·.zero)).map c6v = some (b2O P e) then pure (.ment sk z m k) else none
   | _ => none
 | .entryStore _ m st x => some (.est m st x)
 | .range t x => match P.underlying t with
   | some (.map k e) => (skT P k e).map fun sk => .rng sk x
   | _ => none
 | .next it false => some (.nxt it)
 | .entry it => some (.ent it)
 | .mapUpdate t m k x | .insert t m k x => match P.underlying t with
   | some (.map k' e) => (skT P k' e).map fun sk => .mset sk m k x
   | _ => none
 | .extract x i => some (.ext i x)
 | .call c => match c.callee with
   | .value (.func f) => if okFn P f then some (.call f c.args.toList) else none
   | .value x => some (.callv x c.args.toList)
   | .builtin .len => match c.args.toList, c.argTypes.toList with
     | [x], [t] => match P.underlying t with
       | some (.slice _) => some (.len x)
       | some .string => some (.lens x)
       | some (.map _ _) => some (.lenm x)
       | _ => none
     | _, _ => none
   | .builtin .append => match c.args.toList, c.argTypes.toList with
     | [x, y], [t, u] => match P.underlying t, P.underlying u with
       | some (.slice e), some (.slice _) => (P.info? e).bind fun i => i.zero.bind fun z => if z.cells.size = i.size then some (.app i.size i.bytes x y) else none
       | _, _ => none
     | _, _ => none
   | .builtin .min => some (.mm false c.args.toList)
   | .builtin .max => some (.mm true c.args.toList)
   | .builtin .delete => match c.args.toList, c.argTypes.toList with
     | [m, k], t :: _ => match P.underlying t with
       | some (.map k' e) => (skT P k' e).map fun sk => .mdel sk m k
       | _ => none
     | _, _ => none
   | .builtin .copy => match c.args.toList, c.argTypes.toList with
     | [x, y], t :: _ => match P.underlying t with
       | some (.slice e) => (b8N P e).map fun sz => .cpy sz x y
       | _ => none
     | _, _ => none
   | .builtin .clear => match c.args.toList, c.argTypes.toList with
     | [x], t :: _ => match P.underlying t with
       | some (.slice e) => (P.info? e).bind fun i => (b1O P e).bind fun z => if z.length = i.size then some (.clr i.size z x) else none
       | _ => none
     | _, _ => none
   | _ => none
 | _ => none
def Ob.els : Ob → Option (Nat × List (List IV))
 | .list sz xs => some (sz, xs)
 | .lent _ sz xs => some (sz, xs)
 | _ => none
def Ob.setEls (o : Ob) (sz : Nat) (xs : List (List IV)) : Ob := match o with
 | .lent org _ _ => .lent org sz xs
 | _ => .list sz xs
theorem b3P {A : Nat → Prop} {ψ : Pl} {H : Hp} {w : World} {id sz : Nat} {xs : List (List IV)} {o : Ob} (he : o.els = some (sz, xs)) (h : ROb A ψ H w id o) : ROb A ψ H w id (.list sz xs) := by
 cases o <;> simp only [Ob.els, Option.some.injEq, Prod.mk.injEq] at he <;> first | (obtain ⟨rfl, rfl⟩ := he; exact h) | cases he
theorem b4P {A : Nat → Prop} {ψ : Pl} {H : Hp} {w : World} {id sz sz' : Nat} {xs ys : List (List IV)} {o : Ob} (he : o.els = some (sz', ys)) (h : ROb A ψ H w id (.list sz xs)) : ROb A ψ H w id (o.setEls sz xs) := by
 cases o <;> first | exact h | cases he
theorem b5P {o : Ob} {sz : Nat} {xs : List (List IV)} (he : o.els = some (sz, xs)) : o.dim = some (sz, xs.length) := by
 cases o <;> simp only [Ob.els, Option.some.injEq, Prod.mk.injEq] at he <;> first | (obtain ⟨rfl, rfl⟩ := he; rfl) | cases he
theorem b6P {o : Ob} {sz sz' : Nat} {xs ys : List (List IV)} (he : o.els = some (sz', ys)) : (o.setEls sz xs).dim = some (sz, xs.length) := by
 cases o <;> first | rfl | cases he
theorem b7P {o : Ob} {sz sz' id : Nat} {xs ys : List (List IV)} (he : o.els = some (sz', ys)) : (o.setEls sz xs).org id = o.org id := by
 cases o <;> first | rfl | cases he
theorem b8P {o : Ob} {sz : Nat} {xs : List (List IV)} (he : o.els = some (sz, xs)) : o.multi = false := by
 cases o <;> first | rfl | cases he
def dstOk (n : Nat) : Option Nat → Bool
 | some d => decide (d < n)
 | none => true
def b9P (P : Program) (n : Nat) (ops : Array Oper) (o : Oper) : Option VOp := do
 let g ← b2P ops o
 let r ← comp P o
 if dstOk n o.dst then pure ⟨o.dst, g, r⟩ else none
def AV.cellsOf : AV → Option (List AV)
 | .agg cs => some cs
 | .tup _ => none
 | .un => none
 | .junk => none
 | x => some [x]
def AV.one : AV → Bool
 | .agg _ | .tup _ | .un | .junk => false
 | _ => true
def b0Q {α : Type} (z : List α) (off : Nat) (cs : List α) : List α := z.take off ++ cs ++ z.drop (off + cs.length)
def AV.iv? : AV → Option IV
 | .iv x => some x
 | .nil sz => some (.lst sz [])
 | _ => none
def St.ivOf (s : St) : AV → Option IV
 | .iv x => some x
 | .nil sz => some (.lst sz [])
 | .sl id sz lo len => match look s.hp id with
   | some (.list sz' xs) => if sz' = sz then some (.lst sz ((xs.drop lo).take len)) else none
   | _ => none
 | _ => none
def St.pure1 (s : St) (x : AV) : AV := match s.ivOf x with | some y => .iv y | none => x
def St.pure (s : St) : AV → AV
 | .agg cs => .agg (cs.map s.pure1)
 | x => s.pure1 x
def AV.ids : AV → List Nat
 | .sl id _ _ _ => [id]
 | .mpr id => [id]
 | .agg cs => cs.flatMap fun | .sl id _ _ _ => [id] | .mpr id => [id] | _ => []
 | _ => []
def St.frz (s : St) (xs : List AV) : St := (xs.flatMap AV.ids).foldl (fun s id => if id < 1000 then s.drop id else s) s
def b1Q (op : BinOp) (k : IntKind) (x y : Int) : Int :=
 let a := BitVec.ofInt k.bits x
 let b := BitVec.ofInt k.bits y
 match op with
 | .and => k.wrap (a &&& b).toNat
 | .or => k.wrap (a ||| b).toNat
 | .xor => k.wrap (a ^^^ b).toNat
 | _ => k.wrap (a &&& ~~~b).toNat
def b2Q (op : BinOp) (k : IntKind) (x y : Int) : Int :=
 match op with
 | .shl => k.wrap (x * 2 ^ (min y.toNat k.bits))
 | _ => x.fdiv (2 ^ (min y.toNat k.bits))
def b3Q (a b : ByteArray) : Bool := a.toList == b.toList
def b4Q (a b : ByteArray) : Bool := Op.bytesLess a.toList b.toList
def binI (op : BinOp) (k : IntKind) (a b : Int) : Option Value :=
 match op with
 | .add => some (.int k (k.wrap (a + b)))
 | .sub => some (.int k (k.wrap (a - b)))
 | .mul => some (.int k (k.wrap (a * b)))
 | .quo => if b = 0 then none else some (.int k (k.wrap (a.tdiv b)))
 | .rem => if b = 0 then none else some (.int k (a.tmod b))
 | .eql => some (.bool (a == b))
 | .neq => some (.bool (a != b))
 | .lss => some (.bool (decide (a < b)))
 | .leq => some (.bool (decide (a ≤ b)))
 | .gtr => some (.bool (decide (a > b)))
 | .geq => some (.bool (decide (a ≥ b)))
 | .and => some (.int k (b1Q .and k a b))
 | .or => some (.int k (b1Q .or k a b))
 | .xor => some (.int k (b1Q .xor k a b))
 | .andNot => some (.int k (b1Q .andNot k a b))
 | .shl => none
 | .shr => none
def binS (op : BinOp) (a b : ByteArray) : Option Value :=
 match op with
 | .eql => some (.bool (b3Q a b))
 | .neq => some (.bool (!b3Q a b))
 | .lss => some (.bool (b4Q a b))
 | .leq => some (.bool (b4Q a b || b3Q a b))
 | .gtr => some (.bool (!(b4Q a b || b3Q a b)))
 | .geq => some (.bool (!b4Q a b))
 | _ => none
def binV (op : BinOp) : Value → Value → Option Value
 | .int j a, .int k b => match op with
   | .shl => if b < 0 then none else some (.int j (b2Q .shl j a b))
   | .shr => if b < 0 then none else some (.int j (b2Q .shr j a b))
   | op => if j = k then binI op j a b else none
 | .string a, .string b => binS op a b
 | _, _ => none
def unV (op : UnOp) : Value → Option Value
 | .int k a => match op with
   | .neg => some (.int k (k.wrap (0 - a)))
   | _ => none
 | .bool b => match op with
   | .not => some (.bool (!b))
   | _ => none
 | _ => none
def b5Q : Kd → Value → Value → Option Bool
 | .b, .bool a, .bool b => some (a == b)
 | .i _, .int j a, .int k b => if j = k then some (a == b) else none
 | .s, .string a, .string b => some (a == b)
 | _, _, _ => none
def b6Q : List Kd → List AV → List AV → Option Bool
 | [], [], [] => some true
 | t :: ks, .iv (.v a) :: r, .iv (.v b) :: q => (b5Q t a b).bind fun x => (b6Q ks r q).map fun y => x && y
 | _, _, _ => none
def b7Q (mx : Bool) (k : IntKind) (n : Int) : List AV → Option (IntKind × Int)
 | [] => some (k, n)
 | .iv (.v (.int _ m)) :: r => b7Q mx k (if mx then max n m else min n m) r
 | _ => none
def b8Q (mx : Bool) : List AV → Option (IntKind × Int)
 | .iv (.v (.int k n)) :: r => b7Q mx k n r
 | _ => none
def AV.cap : AV → Option CapV
 | .ptr id off => some (.ptr id off)
 | .iv x => some (.val x)
 | .nil sz => some (.val (.lst sz []))
 | _ => none
def CapV.av : CapV → AV
 | .ptr id off => .ptr id off
 | .val x => .iv x
def St.bound (s : St) (d : Nat) : Option Operand → Option Int
 | none => some d
 | some x => match s.ev x with
   | .iv (.v (.int _ n)) => some n
   | _ => none
def St.elems (s : St) : AV → Option (Nat × List (List IV))
 | .iv (.lst sz xs) => some (sz, xs)
 | .nil sz => some (sz, [])
 | .sl id sz lo len => match look s.hp id with
   | some o => match o.els with
     | some (_, xs) => some (sz, (xs.drop lo).take len)
     | none => none
   | none => none
 | _ => none
end Go.Vm
end

section
namespace Go.Vm
structure Same (w w' : World) : Prop where
 os : w'.os = w.os
 tape : w'.tape = w.tape
 output : w'.output = w.output
 drawn : w.drawn ≤ w'.drawn
def b9l (P : Program) (fr : Bool) (f : FuncId) (args : List AV) (H : Hp) (res : AV) (H' : Hp) : Prop :=
 ((∀ id o, look H id = some o → o.isLent = false) ∧ ∀ id o, look H' id = some o → o.isLent = false) ∧ ∀ (A : Nat → Prop) (ψ : Pl) (w : World) (vs : List Value), (∀ b, A b → b < w.heap.size) →
   (∀ id o, look H id = some o → ROb A ψ H w id o) →
   (∀ id id' o o' b, look H id = some o → look H id' = some o' → Owns ψ id b → Owns ψ id' b → id = id') → Subs ψ H w →
   (∀ b, Held ψ H b → ¬ A b) → vs.length = args.length → (∀ i x, args[i]? = some x → RAV A ψ H w x (vs.getD i undef)) →
   Calls P f vs.toArray w fun e w' => ∃ v ψ', e = .returned v ∧
     (∀ b, b < w.heap.size → ¬ Held ψ H b → w'.heap[b]? = w.heap[b]?) ∧ w.heap.size ≤ w'.heap.size ∧ Same w w' ∧
     (∀ id o, look H id = some o → ψ' id = ψ id) ∧
     (∀ id o b, look H' id = some o → Owns ψ' id b → (∃ o0, look H id = some o0 ∧ Owns ψ id b) ∨ w.heap.size ≤ b) ∧
     (∀ id id' o o' b, look H' id = some o → look H' id' = some o' → Owns ψ' id b → Owns ψ' id' b → id = id') ∧ Subs ψ' H' w' ∧
     (∀ id o, look H' id = some o → ROb (fun b => ((fr = false ∧ A b) ∨ w.heap.size ≤ b) ∧ ¬ Held ψ' H' b) ψ' H' w' id o) ∧
     RAV (fun b => ((fr = false ∧ A b) ∨ w.heap.size ≤ b) ∧ ¬ Held ψ' H' b) ψ' H' w' res v
def b0m (P : Program) (fr : Bool) (f : FuncId) (args : List AV) (H : Hp) (R : AV → Hp → Prop) : Prop :=
 ((∀ id o, look H id = some o → o.isLent = false) ∧ ∀ res H', R res H' → ∀ id o, look H' id = some o → o.isLent = false) ∧ ∀ (A : Nat → Prop) (ψ : Pl) (w : World) (vs : List Value), (∀ b, A b → b < w.heap.size) →
   (∀ id o, look H id = some o → ROb A ψ H w id o) →
   (∀ id id' o o' b, look H id = some o → look H id' = some o' → Owns ψ id b → Owns ψ id' b → id = id') → Subs ψ H w →
   (∀ b, Held ψ H b → ¬ A b) → vs.length = args.length → (∀ i x, args[i]? = some x → RAV A ψ H w x (vs.getD i undef)) →
   Calls P f vs.toArray w fun e w' => ∃ v ψ' res H', R res H' ∧ e = .returned v ∧
     (∀ b, b < w.heap.size → ¬ Held ψ H b → w'.heap[b]? = w.heap[b]?) ∧ w.heap.size ≤ w'.heap.size ∧ Same w w' ∧
     (∀ id o, look H id = some o → ψ' id = ψ id) ∧
     (∀ id o b, look H' id = some o → Owns ψ' id b → (∃ o0, look H id = some o0 ∧ Owns ψ id b) ∨ w.heap.size ≤ b) ∧
     (∀ id id' o o' b, look H' id = some o → look H' id' = some o' → Owns ψ' id b → Owns ψ' id' b → id = id') ∧ Subs ψ' H' w' ∧
     (∀ id o, look H' id = some o → ROb (fun b => ((fr = false ∧ A b) ∨ w.heap.size ≤ b) ∧ ¬ Held ψ' H' b) ψ' H' w' id o) ∧
     RAV (fun b => ((fr = false ∧ A b) ∨ w.heap.size ≤ b) ∧ ¬ Held ψ' H' b) ψ' H' w' res v
theorem b9l.n {P : Program} {fr : Bool} {f : FuncId} {args : List AV} {H : Hp} {res : AV} {H' : Hp} (h : b9l P fr f args H res H') : b0m P fr f args H (fun r K => r = res ∧ K = H') :=
 ⟨⟨h.1.1, fun r K e => by obtain ⟨rfl, rfl⟩ := e; exact h.1.2⟩, fun A ψ w vs a b c d e f g => (h.2 A ψ w vs a b c d e f g).mono fun e w' ⟨v, ψ', q⟩ => ⟨v, ψ', res, H', ⟨rfl, rfl⟩, q⟩⟩
theorem b0m.one {P : Program} {fr : Bool} {f : FuncId} {args : List AV} {H : Hp} {res : AV} {H' : Hp} {R : AV → Hp → Prop} (h : b0m P fr f args H R) (hR : ∀ r K, R r K → r = res ∧ K = H')
   (hl : ∀ id o, look H' id = some o → o.isLent = false) : b9l P fr f args H res H' :=
 ⟨⟨h.1.1, hl⟩, fun A ψ w vs a b c d e f g => (h.2 A ψ w vs a b c d e f g).mono fun e w' ⟨v, ψ', r, K, hr, q⟩ => by obtain ⟨rfl, rfl⟩ := hR r K hr; exact ⟨v, ψ', q⟩⟩
def Le (s s' : St) : Prop := ∀ E n a w, Sim E n s a w → Sim E n s' a w
def LeX (s : St) (F : St → Prop) : Prop := ∀ E n a w, Sim E n s a w → ∃ s', F s' ∧ Sim E n s' a w
theorem Le.x {s s' : St} {F : St → Prop} (h : Le s s') (hF : F s') : LeX s F := fun E n a w hs => ⟨s', hF, h E n a w hs⟩
theorem LeX.le {s s' : St} {F : St → Prop} (h : Le s s') (k : LeX s' F) : LeX s F := fun E n a w hs => k E n a w (h E n a w hs)
theorem Le.refl (s : St) : Le s s := fun _ _ _ _ h => h
theorem Le.trans {s t u : St} (h : Le s t) (k : Le t u) : Le s u := fun E n a w hs => k E n a w (h E n a w hs)
theorem b1m {α : Type} (l r : List (Nat × α)) (k : Nat) : look (l ++ r) k = (look l k).or (look r k) := by
 induction l with
 | nil => simp [look]
 | cons p l ih => obtain ⟨j, x⟩ := p; simp only [List.cons_append, look]; split <;> simp [ih]
def St.join (s : St) (H : Hp) : St := ⟨s.fr, H ++ s.hp⟩
theorem b2m (vs : List Value) (i : Nat) : vs.toArray.getD i undef = vs.getD i undef := by
 simp [Array.getD_eq_getD_getElem?, List.getD]
def CapV.inn (ids : List Nat) : CapV → Bool
 | .ptr id _ => ids.contains id
 | .val _ => true
def AV.inn (ids : List Nat) : AV → Bool
 | .iv _ => true
 | .nil _ => true
 | .sl id _ _ _ => ids.contains id
 | .ptr id _ => ids.contains id
 | .ep id _ _ _ => ids.contains id
 | .mpr id => ids.contains id
 | .fn _ a b => a.all (CapV.inn ids) && b.all (CapV.inn ids)
 | .agg _ => false
 | .tup _ => false
 | .un => true
 | .junk => true
def AV.inns (ids : List Nat) : AV → Bool
 | .agg cs => cs.all (AV.inn ids)
 | x => x.inn ids
theorem RCap.restrict {A A' : Nat → Prop} {ψ : Pl} {H H' : Hp} {w : World} {c : CapV} {v : Value} (h : RCap A ψ H w c v) {ids : List Nat} (hi : c.inn ids = true)
   (hA : ∀ b, b < w.heap.size → A b → A' b) (hH : ∀ id o, ids.contains id = true → look H id = some o → look H' id = some o) : RCap A' ψ H' w c v := by
 cases h with
 | ptr id off b k o ho hb => exact .ptr id off b k o (hH id o hi ho) hb
 | val x v h1 => exact .val x v (h1.mono hA (fun _ _ _ => rfl))
theorem RAV.restrict1 {A A' : Nat → Prop} {ψ : Pl} {H H' : Hp} {w : World} {x : AV} {v : Value} (h : RAV A ψ H w x v) {ids : List Nat} (hi : x.inn ids = true)
   (hA : ∀ b, b < w.heap.size → A b → A' b) (hH : ∀ id o, ids.contains id = true → look H id = some o → look H' id = some o) : RAV A' ψ H' w x v := by
 cases h with
 | iv x v h => exact .iv x v (h.mono hA (fun _ _ _ => rfl))
 | nil sz => exact .nil sz
 | sl0 id sz o n ho he hb => exact .sl0 id sz o n (hH id _ hi ho) he hb
 | sl id sz lo len b k cap a o n ho he hx hb ha hlc hk hm => exact .sl id sz lo len b k cap a o n (hH id _ hi ho) he hx hb ha hlc hk hm
 | ptr id off b k o ho hb => exact .ptr id off b k o (hH id o hi ho) hb
 | ep id sz i off b k o n ho he hi' hb => exact .ep id sz i off b k o n (hH id _ hi ho) he hi' hb
 | mpr id b k o ho hb => exact .mpr id b k o (hH id o hi ho) hb
 | fn f first caps vf vc hf hc h1 h2 =>
   simp only [AV.inn, Bool.and_eq_true, List.all_eq_true] at hi
   exact .fn f first caps vf vc hf hc (fun i c h => (h1 i c h).restrict (hi.1 c (List.mem_of_getElem? h)) hA hH) (fun i c h => (h2 i c h).restrict (hi.2 c (List.mem_of_getElem? h)) hA hH)
 | agg cs vs hl h => cases hi
 | tup cs vs hl h => cases hi
 | un => exact .un
 | junk v => exact .junk v
theorem RAV.restrict {A A' : Nat → Prop} {ψ : Pl} {H H' : Hp} {w : World} {x : AV} {v : Value} (h : RAV A ψ H w x v) {ids : List Nat} (hi : x.inns ids = true)
   (hA : ∀ b, b < w.heap.size → A b → A' b) (hH : ∀ id o, ids.contains id = true → look H id = some o → look H' id = some o) : RAV A' ψ H' w x v := by
 cases x with
 | agg cs =>
   cases h with
   | agg cs vs hl h =>
     simp only [AV.inns, List.all_eq_true] at hi
     exact .agg cs vs hl fun i c hc => (h i c hc).restrict1 (hi c (List.mem_of_getElem? hc)) hA hH
 | _ => exact h.restrict1 hi hA hH
def Ob.inns (ids : List Nat) : Ob → Bool
 | .box cs => cs.all (AV.inn ids)
 | .gh _ _ cs => cs.all (AV.inn ids)
 | _ => true
theorem ROb.restrict {A A' : Nat → Prop} {ψ : Pl} {H H' : Hp} {w : World} {id : Nat} {o : Ob} (h : ROb A ψ H w id o) {ids : List Nat} (hi : o.inns ids = true)
   (hA : ∀ b, b < w.heap.size → A b → A' b) (hH : ∀ id o, ids.contains id = true → look H id = some o → look H' id = some o) : ROb A' ψ H' w id o := by
 cases o with
 | box cs =>
   obtain ⟨b, c, e, h1, h2, h3, h4⟩ := h
   simp only [Ob.inns, List.all_eq_true] at hi
   exact ⟨b, c, e, h1, h2, h3, fun i x hx => (h4 i x hx).restrict1 (hi x (List.mem_of_getElem? hx)) hA hH⟩
 | list sz xs =>
   obtain ⟨h0, h⟩ := h
   refine ⟨h0, ?_⟩
   rcases h with h | ⟨b, k, c, e, h1, h2, h3, h3', h4⟩
   · exact .inl h
   · exact .inr ⟨b, k, c, e, h1, h2, h3, h3', fun i j x hx => (h4 i j x hx).mono hA (fun _ _ _ => rfl)⟩
 | map sk g => obtain ⟨b, es, clock, h1, h2, h3, m⟩ := h; exact ⟨b, es, clock, h1, h2, h3, m.mono hA (fun _ _ _ => rfl)⟩
 | mapS sk g n kk => obtain ⟨b, es, clock, h1, h2, h3, m, h4⟩ := h; exact ⟨b, es, clock, h1, h2, h3, m.mono hA (fun _ _ _ => rfl), h4⟩
 | lent org sz xs =>
   obtain ⟨h0, h⟩ := h
   refine ⟨h0, ?_⟩
   rcases h with h | ⟨b, k, c, e, h1, h2, h3, h3', h4⟩
   · exact .inl h
   · exact .inr ⟨b, k, c, e, h1, h2, h3, h3', fun i j x hx => (h4 i j x hx).mono hA (fun _ _ _ => rfl)⟩
 | mapo sk sz g hole =>
   obtain ⟨b, es, clock, pl, h1, h2, h3, h4, h5, h6, h7, h8, h9, h10, h11⟩ := h
   refine ⟨b, es, clock, pl, h1, h2, h3, h4, h5, h6, h7, h8, fun k xs hg => ?_, h10, h11⟩
   obtain ⟨e, g1, g2, g3⟩ := h9 k xs hg
   exact ⟨e, g1, g2, g3.mono hA (fun _ _ _ => rfl) fun _ _ _ => rfl⟩
 | listo sz xs hole =>
   obtain ⟨h0, b, k, c, e, pl, h1, h2, h3, h4, h5, h6, h7⟩ := h
   exact ⟨h0, b, k, c, e, pl, h1, h2, h3, h4, fun i x g1 g2 => (h5 i x g1 g2).mono hA (fun _ _ _ => rfl) fun _ _ _ => rfl, h6, h7⟩
 | iter sk g left last =>
   obtain ⟨b, m, since, stamps, lastc, h1, h2, h3⟩ := h
   refine ⟨b, m, since, stamps, lastc, h1, h2, ?_⟩
   rcases h3 with h3 | ⟨bm, es, g1, g2, g3, g4, g5, g6, g7⟩
   · exact .inl h3
   · exact .inr ⟨bm, es, g1, hA bm (c7v g3) g2, g3, g4, g5, g6.mono hA (fun _ _ _ => rfl), g7⟩
 | gh Z vs cs =>
   obtain ⟨h1, h2, h3, h4⟩ := h
   simp only [Ob.inns, List.all_eq_true] at hi
   exact ⟨h1, h2.mono hA (fun _ h => h) (fun _ _ _ => rfl) (fun _ _ => rfl), h3, fun i x hx => (h4 i x hx).restrict1 (hi x (List.mem_of_getElem? hx)) hA hH⟩
def allO {α β : Type} (f : α → Option β) : List α → Option (List β)
 | [] => some []
 | x :: r => match f x with
   | some y => (allO f r).map fun l => y :: l
   | none => none
def St.ivW (s : St) (ids : List Nat) : Nat → AV → Option IV
 | _, .iv x => some x
 | _, .nil sz => some (.lst sz [])
 | _, .sl id sz lo len => if ids.contains id then none else match look s.hp id with
   | some (.list _ xs) => some (.lst sz ((xs.drop lo).take len))
   | some (.listo sz' xs none) => some (.lst 1 (((xs.map fun x => [IV.lst sz' x]).drop lo).take len))
   | _ => none
 | _, .mpr id => if ids.contains id then none else match look s.hp id with
   | some (.map sk g) => some (.mp sk g)
   | some (.mapo sk sz g none) => some (.mp sk fun k => (g k).map fun xs => [IV.lst sz xs])
   | _ => none
 | d + 1, .ptr id off => if ids.contains id then none else match look s.hp id with
   | some (.box cs) => (allO (St.ivW s ids d) cs).map fun l => .pt (l.drop off)
   | _ => none
 | _, _ => none
def CapV.bor (s : St) (ids : List Nat) : CapV → CapV
 | .ptr id off => match s.ivW ids 3 (.ptr id off) with
   | some y => .val y
   | none => .ptr id off
 | .val x => .val x
def St.arg1 (s : St) (fr : Bool) (ids : List Nat) : AV → AV
 | .iv x => .iv x
 | .nil sz => .iv (.lst sz [])
 | .fn f a b => if fr && !((AV.fn f a b).inn ids) then .fn f (a.map (CapV.bor s ids)) (b.map (CapV.bor s ids)) else .fn f a b
 | x => if fr && !(x.inn ids) then match s.ivW ids 3 x with
     | some y => .iv y
     | none => x
   else x
def St.arg (s : St) (fr : Bool) (ids : List Nat) : AV → AV
 | .agg cs => .agg (cs.map (s.arg1 fr ids))
 | x => s.arg1 fr ids x
structure CallOk (P : Program) (fr : Bool) (f : FuncId) (args : List AV) (H : Hp) (res : AV) (H' : Hp) (s : St) : Prop where
 spec : b9l P fr f args H res H'
 refs : args.all (AV.inns (H.map (·.1))) = true
 sub : ∀ id o, look H id = some o → look s.hp id = some o
 own : ∀ id o, look H id = some o → o.inns (H.map (·.1)) = true
 keep : ∀ id o, look H id = some o → ∃ o', look H' id = some o' ∧ o.le o'
 new : ∀ id o, look H' id = some o → look H id = none → look s.hp id = none ∧ id < 1000
structure CallOkN (P : Program) (fr : Bool) (f : FuncId) (args : List AV) (H : Hp) (R : AV → Hp → Prop) (s : St) : Prop where
 spec : b0m P fr f args H R
 refs : args.all (AV.inns (H.map (·.1))) = true
 sub : ∀ id o, look H id = some o → look s.hp id = some o
 own : ∀ id o, look H id = some o → o.inns (H.map (·.1)) = true
 keep : ∀ res H', R res H' → ∀ id o, look H id = some o → ∃ o', look H' id = some o' ∧ o.le o'
 new : ∀ res H', R res H' → ∀ id o, look H' id = some o → look H id = none → look s.hp id = none ∧ id < 1000
theorem CallOk.n {P : Program} {fr : Bool} {f : FuncId} {args : List AV} {H : Hp} {res : AV} {H' : Hp} {s : St} (h : CallOk P fr f args H res H' s) : CallOkN P fr f args H (fun r K => r = res ∧ K = H') s :=
 ⟨h.spec.n, h.refs, h.sub, h.own, fun r K e => by obtain ⟨rfl, rfl⟩ := e; exact h.keep, fun r K e => by obtain ⟨rfl, rfl⟩ := e; exact h.new⟩
theorem b3m {α : Type} {l : List (Nat × α)} {k : Nat} {x : α} (h : look l k = some x) : (l.map (·.1)).contains k = true := by
 induction l with
 | nil => cases h
 | cons p l ih =>
   obtain ⟨j, y⟩ := p
   simp only [look] at h
   split at h
   · subst_vars; simp
   · have := ih h; simp at this ⊢; exact .inr this
theorem b4m {α : Type} {l : List (Nat × α)} {k : Nat} (h : (l.map (·.1)).contains k = true) : ∃ x, look l k = some x := by
 induction l with
 | nil => simp at h
 | cons p l ih =>
   obtain ⟨j, y⟩ := p
   simp only [look]
   by_cases e : j = k
   · exact ⟨y, by rw [if_pos e]⟩
   · rw [if_neg e]
     refine ih ?_
     simp at h ⊢
     rcases h with h | h
     · exact absurd h.symm e
     · exact h
section
variable {P : Program} {E : En} {n : Nat} {ψ : Pl} {s : St} {a : Act} {w : World}
structure CallSh (H H' : Hp) (s : St) : Prop where
 lent : ∀ id o, look H id = some o → o.isLent = false
 lent' : ∀ id o, look H' id = some o → o.isLent = false
 sub : ∀ id o, look H id = some o → look s.hp id = some o
 keep : ∀ id o, look H id = some o → ∃ o', look H' id = some o' ∧ o.le o'
 new : ∀ id o, look H' id = some o → look H id = none → look s.hp id = none ∧ id < 1000
theorem CallOkN.sh {P : Program} {fr : Bool} {f : FuncId} {args : List AV} {H : Hp} {R : AV → Hp → Prop} {s : St} (hc : CallOkN P fr f args H R s) {res : AV} {H' : Hp} (hR : R res H') : CallSh H H' s :=
 ⟨hc.spec.1.1, hc.spec.1.2 res H' hR, hc.sub, hc.keep res H' hR, hc.new res H' hR⟩
theorem SimAt.called (h : SimAt E n ψ s a w) {fr : Bool} {H : Hp} {res : AV} {H' : Hp} (hc : CallSh H H' s) {A : Nat → Prop}
   (hAI : fr = false → ∀ b, A b → Im E ψ s.hp b) {w' : World} {v : Value} {ψ' : Pl}
   (k1 : ∀ b, b < w.heap.size → ¬ Held ψ H b → w'.heap[b]? = w.heap[b]?) (k2 : w.heap.size ≤ w'.heap.size) (k3 : Same w w')
   (k4 : ∀ id o, look H id = some o → ψ' id = ψ id)
   (k5 : ∀ id o b, look H' id = some o → Owns ψ' id b → (∃ o0, look H id = some o0 ∧ Owns ψ id b) ∨ w.heap.size ≤ b)
   (k6 : ∀ id id' o o' b, look H' id = some o → look H' id' = some o' → Owns ψ' id b → Owns ψ' id' b → id = id') (kS : Subs ψ' H' w')
   (k7 : ∀ id o, look H' id = some o → ROb (fun b => ((fr = false ∧ A b) ∨ w.heap.size ≤ b) ∧ ¬ Held ψ' H' b) ψ' H' w' id o)
   (k8 : RAV (fun b => ((fr = false ∧ A b) ∨ w.heap.size ≤ b) ∧ ¬ Held ψ' H' b) ψ' H' w' res v) :
   ∃ ψ2, SimAt E n ψ2 (s.join H') a w' ∧ RAV (Im E ψ2 (s.join H').hp) ψ2 (s.join H').hp w' res v := by
 let ψ2 : Pl := ⟨fun id => if (look H' id).isSome then ψ' id else ψ id, fun id b => if (look H' id).isSome then ψ'.sub id b else ψ.sub id b⟩
 have hlk : ∀ id, look (s.join H').hp id = (look H' id).or (look s.hp id) := fun id => b1m _ _ _
 have hlt : ∀ {k o b}, look s.hp k = some o → Owns ψ k b → b < w.heap.size := fun hk hb => h.lt hk hb
 have o1 : ∀ {id o b}, look H' id = some o → (Owns ψ2 id b ↔ Owns ψ' id b) := by
   intro id o b ho
   simp [Owns, ψ2, ho]
 have o2 : ∀ {id b}, look H' id = none → (Owns ψ2 id b ↔ Owns ψ id b) := by
   intro id b ho
   simp [Owns, ψ2, ho]
 have cases_ : ∀ {id o}, look (s.join H').hp id = some o → (look H' id = some o ∧ ∀ b, Owns ψ2 id b ↔ Owns ψ' id b) ∨ (look H' id = none ∧ look s.hp id = some o ∧ ∀ b, Owns ψ2 id b ↔ Owns ψ id b) := by
   intro id o ho
   rw [hlk] at ho
   cases hh : look H' id with
   | some o' => rw [hh] at ho; left; exact ⟨by simpa using ho, fun b => o1 hh⟩
   | none => rw [hh] at ho; right; exact ⟨rfl, by simpa using ho, fun b => o2 hh⟩
 have keepsH : c9v ψ ψ2 s.hp (s.join H').hp := by
   intro id o ho
   cases hh : look H' id with
   | some o' =>
     cases hH : look H id with
     | some o0 =>
       have e := hc.sub id o0 hH
       rw [ho] at e; cases e
       obtain ⟨o1, g1, g2⟩ := hc.keep id o hH
       rw [hh] at g1; cases g1
       exact ⟨⟨o', by rw [hlk, hh]; rfl, g2⟩, by simp [ψ2, hh, k4 id o hH]⟩
     | none => have := (hc.new id o' hh hH).1; rw [ho] at this; cases this
   | none => exact ⟨⟨o, by rw [hlk, hh]; simpa using ho, o.le_refl⟩, by simp [ψ2, hh]⟩
 have heldS : ∀ {b}, Held ψ H b → Held ψ s.hp b := by
   rintro b ⟨id, o, ho, hb⟩
   exact ⟨id, o, hc.sub id o ho, hb⟩
 have held2 : ∀ {b}, b < w.heap.size → Held ψ2 (s.join H').hp b → Held ψ s.hp b := by
   rintro b hb ⟨id, o, ho, hq⟩
   rcases cases_ ho with ⟨g1, g2⟩ | ⟨_, g1, g2⟩
   · rcases k5 id o b g1 ((g2 b).1 hq) with ⟨o0, g3, g4⟩ | g3
     · exact ⟨id, o0, hc.sub id o0 g3, g4⟩
     · omega
   · exact ⟨id, o, g1, (g2 b).1 hq⟩
 have hI : ∀ b, b < w.heap.size → Im E ψ s.hp b → Im E ψ2 (s.join H').hp b := fun b hb hi => ⟨hi.1, fun hh => hi.2 (held2 hb hh)⟩
 have hw : ∀ b, b < w.heap.size → Im E ψ s.hp b → w'.heap[b]? = w.heap[b]? := fun b hb hi => k1 b hb fun hh => hi.2 (heldS hh)
 have hA' : ∀ b, b < w'.heap.size → (((fr = false ∧ A b) ∨ w.heap.size ≤ b) ∧ ¬ Held ψ' H' b) → Im E ψ2 (s.join H').hp b := by
   rintro b hb ⟨h1, h2⟩
   rcases h1 with ⟨hf, h1⟩ | h1
   · have hi := hAI hf b h1
     refine ⟨hi.1, ?_⟩
     rintro ⟨id, o, ho, hq⟩
     rcases cases_ ho with ⟨g1, g2⟩ | ⟨_, g1, g2⟩
     · exact h2 ⟨id, o, g1, (g2 b).1 hq⟩
     · exact hi.2 ⟨id, o, g1, (g2 b).1 hq⟩
   · refine ⟨.inr (.inr (Nat.le_trans h.grow h1)), ?_⟩
     rintro ⟨id, o, ho, hq⟩
     rcases cases_ ho with ⟨g1, g2⟩ | ⟨_, g1, g2⟩
     · exact h2 ⟨id, o, g1, (g2 b).1 hq⟩
     · have := hlt g1 ((g2 b).1 hq); omega
 have keeps' : c9v ψ' ψ2 H' (s.join H').hp := by
   intro id o ho
   exact ⟨⟨o, by rw [hlk, ho]; rfl, o.le_refl⟩, by simp [ψ2, ho]⟩
 have ownH : ∀ {id o b}, look H' id = some o → Owns ψ' id b → (o.org id ∈ E.ids ∧ Owns E.ψ (o.org id) b) ∨ E.fresh b := by
   intro id o b ho hb
   have org : ∀ {o : Ob}, o.isLent = false → o.org id = id := by intro o h; cases o <;> first | rfl | cases h
   rcases k5 id o b ho hb with ⟨o0, p1, p2⟩ | p1
   · have := h.own id o0 b (hc.sub id o0 p1) p2
     rw [org (hc.lent id o0 p1)] at this
     rw [org (hc.lent' id o ho)]
     exact this
   · exact .inr (.inr (Nat.le_trans h.grow p1))
 refine ⟨ψ2, ?_, k8.mono hA' (fun _ _ _ => rfl) keeps'⟩
 refine { size := h.size, defers := h.defers.mono hI hw, frame := fun t => (h.frame t).mono hI hw keepsH, obs := ?_, inj := ?_, own := ?_, subs := ?_, par := ?_, old := ?_, grow := ?_, same := ?_ }
 · intro id o ho
   rcases cases_ ho with ⟨g1, g2⟩ | ⟨g0, g1, g2⟩
   · exact (k7 id o g1).mono hA' (fun _ _ _ => rfl) keeps' ⟨by simp [ψ2, g1], fun b hb => by simpa [ψ2, g1] using hb⟩ (fun _ _ => rfl)
   · refine (h.obs id o g1).mono hI hw keepsH ⟨by simp [ψ2, g0], fun b hb => by simpa [ψ2, g0] using hb⟩ fun b hb => k1 b (hlt g1 hb) ?_
     rintro ⟨id2, o2, ho2, hq2⟩
     have e := h.inj id id2 o _ b g1 (hc.sub id2 o2 ho2) hb hq2
     subst e
     obtain ⟨o3, g3, _⟩ := hc.keep id o2 ho2
     rw [g0] at g3; cases g3
 · intro i i' o1 o2 b hi hi' hb hb'
   rcases cases_ hi with ⟨g1, g2⟩ | ⟨g0, g1, g2⟩ <;> rcases cases_ hi' with ⟨f1, f2⟩ | ⟨f0, f1, f2⟩ <;> rw [g2] at hb <;> rw [f2] at hb'
   · exact k6 i i' o1 o2 b g1 f1 hb hb'
   · rcases k5 i o1 b g1 hb with ⟨o0, p1, p2⟩ | p1
     · exact h.inj i i' _ _ b (hc.sub i o0 p1) f1 p2 hb'
     · have := hlt f1 hb'; omega
   · rcases k5 i' o2 b f1 hb' with ⟨o0, p1, p2⟩ | p1
     · exact h.inj i i' _ _ b g1 (hc.sub i' o0 p1) hb p2
     · have := hlt g1 hb; omega
   · exact h.inj i i' _ _ b g1 f1 hb hb'
 · intro i o1 b hi hb
   rcases cases_ hi with ⟨g1, g2⟩ | ⟨g0, g1, g2⟩ <;> rw [g2] at hb
   · exact ownH g1 hb
   · exact h.own i o1 b g1 hb
 · intro i o1 b hi hb
   rcases cases_ hi with ⟨g1, g2⟩ | ⟨g0, g1, g2⟩
   · have hb : ψ'.sub i b := by simpa [ψ2, g1] using hb
     obtain ⟨q1, q2, q3⟩ := kS i o1 b g1 hb
     exact ⟨q1, q2, fun k => by simpa [ψ2, g1] using q3 k⟩
   · have hb : ψ.sub i b := by simpa [ψ2, g0] using hb
     obtain ⟨q1, q2, q3⟩ := h.subs i o1 b g1 hb
     exact ⟨q1, Nat.lt_of_lt_of_le q2 k2, fun k => by simpa [ψ2, g0] using q3 k⟩
 · intro i hi
   have hb := E.big i hi
   cases hh : look H' i with
   | none => simp only [ψ2, hh]; exact h.par i hi
   | some o =>
     cases hH : look H i with
     | some o0 => simp only [ψ2, hh]; simp only [Option.isSome_some, if_true]; rw [k4 i o0 hH]; exact h.par i hi
     | none => have := (hc.new i o hh hH).2; omega
 · intro b hb hm
   rw [k1 b (Nat.lt_of_lt_of_le hb h.grow) ?_]
   · exact h.old b hb hm
   · rintro ⟨id, o, ho, hq⟩
     rcases h.own id o b (hc.sub id o ho) hq with ⟨h1, h2⟩ | h1
     · exact hm (.inl ⟨_, h1, h2⟩)
     · exact E.no hb hm h1
 · exact Nat.le_trans h.grow k2
 · exact ⟨k3.os.trans h.same.1, k3.tape.trans h.same.2.1, k3.output.trans h.same.2.2.1, Nat.le_trans h.same.2.2.2 k3.drawn⟩
end
end Go.Vm
end

section
namespace Go.Vm
def St.args (s : St) (pre : List CapV) (ops : List Operand) (post : List CapV) : List AV := pre.map CapV.av ++ ops.map s.ev ++ post.map CapV.av
def pl0 : Pl := ⟨fun _ => none, fun _ _ => False⟩
def AV.isIv : AV → Bool
 | .iv _ => true
 | _ => false
def AV.plain : AV → Bool
 | .iv _ => true
 | .agg cs => cs.all AV.isIv
 | _ => false
theorem b9J {A : Nat → Prop} {ψ : Pl} {H : Hp} {w : World} {x : AV} {v : Value} (hp : x.plain = true) (h : RAV A ψ H w x v) : RAV A pl0 [] w x v := by
 cases h with
 | iv x v h => exact .iv x v h
 | agg cs vs hl h =>
   refine .agg cs vs hl fun i c hc => ?_
   have h1 := h i c hc
   have h2 : c.isIv = true := List.all_eq_true.1 hp c (List.mem_of_getElem? hc)
   cases c <;> first | cases h2 | skip
   cases h1 with
   | iv _ _ h => exact .iv _ _ h
 | _ => cases hp
theorem rav0 {A : Nat → Prop} {ψ : Pl} {H : Hp} {w : World} {x : AV} {v : Value} (h : RAV A pl0 [] w x v) : RAV A ψ H w x v := h.mono (fun _ _ h => h) (fun _ _ _ => rfl) fun id o ho => by cases ho
def b0K (P : Program) (l : Nat) (xs : List AV) (Z : GZ) (b : Bool) (Z' : GZ) : Prop := ∀ (A B : Nat → Prop) (w : World) (vs : List Value), (∀ k, A k → k < w.heap.size) → (∀ k, B k → k < w.heap.size) → (∀ k, B k → ¬ A k) →
 GOk Z A B w → vs.length = xs.length → (∀ i x, xs[i]? = some x → RAV A pl0 [] w x (vs.getD i undef)) →
 ∃ fn tmps assign body, (Instr.yield l vs.toArray).run P w = .ok (.round l fn tmps assign body) w ∧ ∀ m, RoundIn Fence.wide m P l fn tmps assign body w fun e w' => ∃ B' : Nat → Prop, e = .returned (.bool b) ∧
   (∀ k, k < w.heap.size → ¬ B k → w'.heap[k]? = w.heap[k]?) ∧ w.heap.size ≤ w'.heap.size ∧ Same w w' ∧ (∀ k, B' k → B k ∨ w.heap.size ≤ k) ∧ (∀ k, B' k → k < w'.heap.size) ∧
   GOk Z' (fun k => (A k ∨ w.heap.size ≤ k) ∧ ¬ B' k) B' w'
def b1K (P : Program) (l : Nat) (ops : List Operand) (s : St) (K : St → AV → Prop) : Prop :=
 ∃ (s1 : St) (g : Nat) (Z : GZ) (b : Bool) (Z' : GZ) (xs : List AV), Le s s1 ∧ look s1.hp g = some (.gh Z [] []) ∧ (ops.map s1.ev = xs ∧ xs.all AV.plain = true) ∧ b0K P l xs Z b Z' ∧ K (s1.join [(g, .gh Z' [] [])]) (.iv (.v (.bool b)))
def b2K (s : St) (fr : Bool) (ids : List Nat) : List AV → List AV → Prop
 | [], [] => True
 | x :: xs, y :: ys => (y = s.arg fr ids x ∨ ∃ sz sz', x = .nil sz ∧ y = .nil sz') ∧ b2K s fr ids xs ys
 | _, _ => False
theorem b3K {s : St} {fr : Bool} {ids : List Nat} : ∀ (l : List AV), b2K s fr ids l (l.map (s.arg fr ids))
 | [] => trivial
 | x :: l => ⟨.inl rfl, b3K l⟩
theorem b4K {s : St} {fr : Bool} {ids : List Nat} : ∀ {l l' : List AV}, b2K s fr ids l l' → l'.length = l.length ∧ ∀ (i : Nat) (y : AV), l'[i]? = some y → ∃ x, l[i]? = some x ∧ (y = s.arg fr ids x ∨ ∃ sz sz', x = .nil sz ∧ y = .nil sz')
 | [], [], _ => ⟨rfl, fun i y h => by simp at h⟩
 | x :: l, y :: l', h => by
   obtain ⟨h1, h2⟩ := h
   obtain ⟨g1, g2⟩ := b4K h2
   refine ⟨by simp [g1], fun i z hz => ?_⟩
   cases i with
   | zero => simp only [List.getElem?_cons_zero, Option.some.injEq] at hz; subst hz; exact ⟨x, rfl, h1⟩
   | succ i => simpa using g2 i z (by simpa using hz)
 | [], y :: l', h => h.elim
 | x :: l, [], h => h.elim
def b5K (P : Program) (d : Nat) (f : FuncId) (pre : List CapV) (ops : List Operand) (post : List CapV) (y : Option Operand) (s : St) (K : St → AV → Prop) : Prop :=
 ∃ (s0 : St), Le s s0 ∧ ∃ (fr : Bool) (H : Hp) (R : AV → Hp → Prop) (s1 : St),
   s1 = (if fr then s0 else s0.frz ((s0.args pre ops post).filter fun x => !x.inns (H.map (·.1)))).drop d ∧
   (match y with | some y => s1.ev y = .fn f pre post | none => True) ∧
   ∃ as1, b2K s1 fr (H.map (·.1)) (s1.args pre ops post) as1 ∧ CallOkN P fr f as1 H R s1 ∧ ∀ res H', R res H' → K (s1.join H') res
theorem b6K {P : Program} {d : Nat} {f : FuncId} {pre : List CapV} {ops : List Operand} {post : List CapV} {y : Option Operand} {s : St} {K : St → AV → Prop}
   (h : ∃ (s0 : St), Le s s0 ∧ ∃ (fr : Bool) (H : Hp) (res : AV) (H' : Hp) (s1 : St),
     s1 = (if fr then s0 else s0.frz ((s0.args pre ops post).filter fun x => !x.inns (H.map (·.1)))).drop d ∧
     (match y with | some y => s1.ev y = .fn f pre post | none => True) ∧
     CallOk P fr f ((s1.args pre ops post).map (s1.arg fr (H.map (·.1)))) H res H' s1 ∧ K (s1.join H') res) : b5K P d f pre ops post y s K := by
 obtain ⟨s0, h0, fr, H, res, H', s1, a, b, c, k⟩ := h
 exact ⟨s0, h0, fr, H, _, s1, a, b, _, b3K _, c.n, fun r K e => by obtain ⟨rfl, rfl⟩ := e; exact k⟩
def b7K (s : St) : List AV → List (Nat × Nat × Operand) → Option (List AV)
 | z, [] => some z
 | z, (off, n, x) :: r => match (s.ev x).cellsOf with
   | some cs => if cs.length = n ∧ off + n ≤ z.length then b7K s (b0Q z off cs) r else none
   | none => none
def litA (s : St) (sz : Nat) : List (Nat × Operand) → Option (List (List IV))
 | [] => some []
 | (_, x) :: r => match (s.ev x).cellsOf.bind fun cs => cs.mapM AV.iv? with
   | some c => if c.length = sz then (litA s sz r).map fun q => c :: q else none
   | none => none
def vtrue : AV := .iv (.v (.bool true))
def b8K : List AV → Option Nat
 | [.nil sz] => some sz
 | _ => none
theorem b9K {z : List AV} {sz : Nat} (h : b8K z = some sz) : z = [.nil sz] := by
 unfold b8K at h
 split at h
 · cases h; rfl
 · cases h
def stp (P : Program) (d : Nat) (s : St) (K : St → AV → Prop) : Rhs → Prop
 | .mov x => K s (s.ev x)
 | .nils sz => K ((s.drop d).add d (.list sz [])) (.sl d sz 0 0)
 | .pick c x y => match s.ev c with
   | .iv (.v (.bool t)) => K s (if t then s.ev x else s.ev y)
   | _ => False
 | .alloc z => K ((s.drop d).add d (.box z)) (.ptr d 0)
 | .box x => match ((s.drop d).ev x).cellsOf with
   | some cs => K ((s.drop d).add d (.box cs)) (.ptr d 0)
   | none => False
 | .build z parts => match b7K s z parts with
   | some cs => K s (.agg cs)
   | none => False
 | .lit sz len parts => match litA ((s.frz (parts.map fun p => s.ev p.2)).drop d) sz parts with
   | some xs => K (((s.frz (parts.map fun p => s.ev p.2)).drop d).add d (.list sz xs)) (.sl d sz 0 len)
   | none => False
 | .ld x none => match s.ev x with
   | .ptr id off => match look s.hp id with
     | some (.box cs) => match cs[off]? with
       | some y => K s y
       | none => False
     | _ => False
   | .ep id _ i off => match look s.hp id with
     | some (.list _ xs) => match at2 xs i off with
       | some y => K s (.iv y)
       | none => False
     | some (.listo sz2 xs hole) => hole = none ∧ off = 0 ∧ id ≠ d ∧ (s.drop d).ev x = .ep id 1 i 0 ∧ look (s.drop d).hp id = some (.listo sz2 xs none) ∧ match xs[i]? with
       | some ys => K (((s.drop d).add id (.listo sz2 xs (some i))).add d (.lent id sz2 ys)) (.sl d sz2 0 ys.length)
       | none => False
     | _ => False
   | .iv (.pt cs) => match cs[0]? with
     | some y => K s (.iv y)
     | none => False
   | _ => False
 | .ld x (some n) => match s.ev x with
   | .ptr id off => match look s.hp id with
     | some (.box cs) => off + n ≤ cs.length ∧ K s (.agg ((cs.drop off).take n))
     | _ => False
   | .ep id _ i off => match look s.hp id with
     | some (.list _ xs) => match xs[i]? with
       | some r => off + n ≤ r.length ∧ K s (.agg (((r.drop off).take n).map .iv))
       | none => False
     | _ => False
   | .iv (.pt cs) => n ≤ cs.length ∧ K s (.agg ((cs.take n).map .iv))
   | _ => False
 | .st x y n => match s.ev x with
   | .ptr id off => match look s.hp id, (s.ev y).cellsOf with
     | some (.box cs), some cy => cy.length = n ∧ off + n ≤ cs.length ∧ cy.all AV.one = true ∧ K (s.add id (.box (b0Q cs off cy))) .un
     | _, _ => False
   | .ep id _ i off => match look (s.frz [s.ev y]).hp id, ((s.frz [s.ev y]).ev y).cellsOf.bind fun cs => cs.mapM AV.iv? with
     | some (.list sz xs), some cy => match xs[i]? with
       | some r => (s.frz [s.ev y]).ev x = .ep id sz i off ∧ cy.length = n ∧ off + n ≤ r.length ∧ K ((s.frz [s.ev y]).add id (.list sz (xs.set i (b0Q r off cy)))) .un
       | none => False
     | some (.listo sz2 xs hole), _ => match s.ev y with
       | .sl d' sz' 0 len => match look s.hp d' with
         | some o => match o.els with
           | some (_, ys) => look s.hp id = some (.listo sz2 xs hole) ∧ (n = 1 ∧ off = 0) ∧ sz' = sz2 ∧ d' < 1000 ∧ d' ≠ id ∧ len = ys.length ∧ (o.org? = none ∨ o.org? = some id) ∧ hole = some i ∧
               K ((s.kill d').add id (.listo sz2 (xs.set i ys) none)) .un
           | none => False
         | none => False
       | _ => False
     | _, _ => False
   | _ => False
 | .chk x => match s.ev x with
   | .ptr id off => K s (.ptr id off)
   | .ep id sz i off => K s (.ep id sz i off)
   | .iv (.pt cs) => K s (.iv (.pt cs))
   | _ => False
 | .bin op x y => match s.ev x, s.ev y with
   | .iv (.v u), .iv (.v v) => match binV op u v with
     | some r => K s (.iv (.v r))
     | none => False
   | _, _ => False
 | .beq neg x y => match s.ev x, s.ev y with
   | .iv (.v (.bool u)), .iv (.v (.bool v)) => K s (.iv (.v (.bool (if neg then u != v else u == v))))
   | _, _ => False
 | .peq neg x y => match s.ev x, s.ev y with
   | .iv (.v (.pointer none)), .iv (.v (.pointer none)) => K s (.iv (.v (.bool (!neg))))
   | .iv (.v (.pointer none)), .ptr .. => K s (.iv (.v (.bool neg)))
   | .iv (.v (.pointer none)), .iv (.pt _) => K s (.iv (.v (.bool neg)))
   | .ptr .., .iv (.v (.pointer none)) => K s (.iv (.v (.bool neg)))
   | .iv (.pt _), .iv (.v (.pointer none)) => K s (.iv (.v (.bool neg)))
   | _, _ => False
 | .eqs neg ks x y => match s.ev x, s.ev y with
   | .agg cs, .agg ds => match b6Q ks cs ds with
     | some b => K s (.iv (.v (.bool (if neg then !b else b))))
     | none => False
   | _, _ => False
 | .un op x => match s.ev x with
   | .iv (.v v) => match unV op v with
     | some r => K s (.iv (.v r))
     | none => False
   | _ => False
 | .cvt k x => match s.ev x with
   | .iv (.v (.int _ m)) => K s (.iv (.v (.int k (k.wrap m))))
   | _ => False
 | .cut sz x lo hi => match s.ev x with
   | .iv (.lst sz' xs) => match s.bound 0 lo, s.bound xs.length hi with
     | some l, some h => sz' = sz ∧ 0 ≤ l ∧ l ≤ h ∧ h ≤ xs.length ∧ K s (.iv (.lst sz ((xs.drop l.toNat).take (h - l).toNat)))
     | _, _ => False
   | .sl id sz' o m => match s.bound 0 lo, s.bound m hi with
     | some l, some h => sz' = sz ∧ 0 ≤ l ∧ l ≤ h ∧ h ≤ m ∧ K s (.sl id sz (o + l.toNat) (h - l).toNat)
     | _, _ => False
   | .nil sz' => match s.bound 0 lo, s.bound 0 hi with
     | some l, some h => l = 0 ∧ h = 0 ∧ K s (.nil sz')
     | _, _ => False
   | _ => False
 | .fa off x => match s.ev x with
   | .ptr id o => K s (.ptr id (o + off))
   | .ep id sz i o => K s (.ep id sz i (o + off))
   | .iv (.pt cs) => K s (.iv (.pt (cs.drop off)))
   | _ => False
 | .fld off none x => match s.ev x with
   | .agg cs => match cs[off]? with
     | some y => K s y
     | none => False
   | _ => False
 | .fld off (some n) x => match s.ev x with
   | .agg cs => off + n ≤ cs.length ∧ K s (.agg ((cs.drop off).take n))
   | _ => False
 | .ia sz x i => match s.ev x, s.ev i with
   | .iv (.lst sz' xs), .iv (.v (.int _ m)) => sz' = sz ∧ 0 ≤ m ∧ match xs[m.toNat]? with
     | some r => K s (.iv (.pt r))
     | none => False
   | .sl id sz' o k, .iv (.v (.int _ m)) => sz' = sz ∧ 0 ≤ m ∧ m < k ∧ K s (.ep id sz (o + m.toNat) 0)
   | _, _ => False
 | .is x i => match s.ev x, s.ev i with
   | .iv (.v (.string t)), .iv (.v (.int _ m)) => 0 ≤ m ∧ match t[m.toNat]? with
     | some b => K s (.iv (.v (.int .u8 b.toNat)))
     | none => False
   | _, _ => False
 | .ix n x i => match s.ev x, s.ev i with
   | .agg cs, .iv (.v (.int _ m)) => 0 ≤ m ∧ m < n ∧ match cs[m.toNat]? with
     | some y => K s y
     | none => False
   | _, _ => False
 | .ext i x => match s.ev x with
   | .tup vs => match vs[i]? with
     | some y => K s y
     | none => False
   | _ => False
 | .len x => match s.ev x with
   | .iv (.lst _ xs) => K s (.iv (.v (.int .i64 xs.length)))
   | .sl _ _ _ m => K s (.iv (.v (.int .i64 m)))
   | .nil _ => K s (.iv (.v (.int .i64 0)))
   | _ => False
 | .lens x => match s.ev x with
   | .iv (.v (.string t)) => K s (.iv (.v (.int .i64 t.size)))
   | _ => False
 | .app sz bytes x y => match s.ev x, s.elems (s.ev y) with
   | .sl id sz' lo m, some (sz2, ys) => match look s.hp id with
     | some o => match o.els with
       | some (_, xs) => sz' = sz ∧ (sz2 = sz ∨ ys = []) ∧ id < 1000 ∧ lo + m = xs.length ∧ (m + ys.length) * bytes ≤ 2 ^ 47 ∧ m + ys.length < 2 ^ 62 ∧
         K ((s.lone id).add id (o.setEls sz (xs.drop lo ++ ys))) (.sl id sz 0 (m + ys.length))
       | none => False
     | none => False
   | .nil _, some (sz2, ys) => (sz2 = sz ∨ ys = []) ∧ ys.length * bytes ≤ 2 ^ 47 ∧ ys.length < 2 ^ 62 ∧ K ((s.drop d).add d (.list sz ys)) (.sl d sz 0 ys.length)
   | _, _ => False
 | .mm mx xs => match b8Q mx (xs.map s.ev) with
   | some (k, m) => K s (.iv (.v (.int k m)))
   | none => False
 | .mkfn f first caps => match (first.map s.ev).mapM AV.cap, (caps.map s.ev).mapM AV.cap with
   | some a, some b => K s (.fn f a b)
   | _, _ => False
 | .call f args => b5K P d f [] args [] none s K
 | .snil neg x => match s.ev x with
   | .nil _ => K s (.iv (.v (.bool (!neg))))
   | .sl _ _ _ m => ∀ b : Bool, (0 < m → b = false) → K s (.iv (.v (.bool (if neg then !b else b))))
   | .iv (.lst _ xs) => ∀ b : Bool, (xs ≠ [] → b = false) → K s (.iv (.v (.bool (if neg then !b else b))))
   | _ => False
 | .mks sz bytes z l c => match b8K z with
   | some sz' => match s.ev l, s.ev c with
     | .iv (.v (.int _ m)), .iv (.v (.int _ q)) => 0 ≤ m ∧ q = m ∧ m < 2 ^ 62 ∧ (bytes : Int) * m ≤ 2 ^ 47 ∧ sz = 1 ∧ K ((s.drop d).add d (.listo sz' (List.replicate m.toNat []) none)) (.sl d 1 0 m.toNat)
     | _, _ => False
   | none => match s.ev l, s.ev c, z.mapM AV.iv? with
     | .iv (.v (.int _ m)), .iv (.v (.int _ q)), some zi => 0 ≤ m ∧ q = m ∧ m < 2 ^ 62 ∧ (bytes : Int) * m ≤ 2 ^ 47 ∧ K ((s.drop d).add d (.list sz (List.replicate m.toNat zi))) (.sl d sz 0 m.toNat)
     | _, _, _ => False
 | .mkmap sk => K ((s.drop d).add d (.map sk fun _ => none)) (.mpr d)
 | .lkp sk z m k ok => match (s.drop d).moOf ((s.drop d).ev m) with
   | some (id, sk1, sz, g, hole) => match b5O ((s.drop d).ev k), z with
     | some (sk2, kk), [.nil sz'] => ok = false ∧ sk1 = sk ∧ sk2 = (sk.1, sk.2.1) ∧ sz' = sz ∧ hole = none ∧ match g kk with
       | none => K (s.drop d) (.nil sz)
       | some xs => K (((s.drop d).add id (.mapo sk sz (gset g kk none) (some kk))).add d (.lent id sz xs)) (.sl d sz 0 xs.length)
     | _, _ => False
   | none => match s.mapOf (s.ev m), b5O (s.ev k) with
     | some (sk1, g), some (sk2, kk) => sk1 = sk ∧ sk2 = (sk.1, sk.2.1) ∧ K s (lkR z sk.2.2 ok (g kk))
     | _, _ => False
 | .mset sk m k x => match s.moOf (s.ev m) with
  | some (id, sk1, sz, g, hole) => match b5O (s.ev k), s.ev x with
   | some (sk2, kk), .sl d' sz' 0 len => match look s.hp d' with
     | some o => match o.els with
       | some (_, xs) => sk1 = sk ∧ sk2 = (sk.1, sk.2.1) ∧ sz' = sz ∧ d' < 1000 ∧ d' ≠ id ∧ len = xs.length ∧ (o.org? = none ∨ o.org? = some id) ∧
           (hole = some kk ∨ (hole = none ∧ g kk = none)) ∧ K ((s.kill d').add id (.mapo sk sz (gset g kk (some xs)) none)) .un
       | none => False
     | none => False
   | _, _ => False
  | none => match (s.frz [s.ev x]).unr ((s.frz [s.ev x]).ev m), b5O ((s.frz [s.ev x]).ev k), ((s.frz [s.ev x]).ev x).cellsOf.bind fun cs => cs.mapM AV.iv? with
   | .mpr id, some (sk2, kk), some c => match look (s.frz [s.ev x]).hp id with
     | some (.map sk1 g) => sk1 = sk ∧ sk2 = (sk.1, sk.2.1) ∧ b6O ((s.frz [s.ev x]).ev x) = sk.2.2 ∧ K ((s.frz [s.ev x]).add id (.map sk (gset g kk (some c)))) .un
     | _ => False
   | _, _, _ => False
 | .ment sk z m k => match s.ev m, b5O (s.ev k), allO AV.iv? z with
   | .mpr id, some (sk2, kk), some zi => match look s.hp id with
     | some (.map sk1 g) => sk1 = sk ∧ sk2 = (sk.1, sk.2.1) ∧ ∀ n : Int, K (s.add id (.mapS sk (gset g kk (some ((g kk).getD zi))) n kk)) (.tup [b7O sk.2.2 (((g kk).getD zi).map .iv), .iv (.v (.int .i64 n))])
     | _ => False
   | _, _, _ => False
 | .est m st x => match (s.frz [s.ev x]).ev m, (s.frz [s.ev x]).ev st, ((s.frz [s.ev x]).ev x).cellsOf.bind fun cs => cs.mapM AV.iv? with
   | .mpr id, .iv (.v (.int _ n')), some c => match look (s.frz [s.ev x]).hp id with
     | some (.mapS sk g n kk) => n' = n ∧ b6O ((s.frz [s.ev x]).ev x) = sk.2.2 ∧ K ((s.frz [s.ev x]).add id (.map sk (gset g kk (some c)))) .un
     | _ => False
   | _, _, _ => False
 | .rng sk x => match ((s.frz [s.ev x]).drop d).ev x with
   | .iv (.mp sk' g) => sk' = sk ∧ ∀ L : List (List Value), L.Nodup → (∀ k, k ∈ L ↔ g k ≠ none) → (∀ k ∈ L, k.mapM kdOf = some sk.2.1) → K (((s.frz [s.ev x]).drop d).add d (.iter sk g L none)) (.ptr d 0)
   | _ => False
 | .nxt x => match s.ev x with
   | .ptr id 0 => match look s.hp id with
     | some (.iter sk g left last) => (left = [] → K s (.tup [.iv (.v (.bool false))])) ∧
         ∀ k c, k ∈ left → g k = some c → k.mapM kdOf = some sk.2.1 → K (s.add id (.iter sk g (rmk k left) (some k))) (.tup [vtrue, b7O sk.1 (k.map fun v => .iv (.v v)), b7O sk.2.2 (c.map .iv)])
     | _ => False
   | _ => False
 | .ent x => match s.ev x with
   | .ptr id 0 => match look s.hp id with
     | some (.iter sk g left (some k)) => ∀ c, g k = some c → K s (.tup [b7O sk.1 (k.map fun v => .iv (.v v)), b7O sk.2.2 (c.map .iv)])
     | _ => False
   | _ => False
 | .mdel sk m k => match s.ev m, b5O (s.ev k) with
   | .mpr id, some (sk2, kk) => match look s.hp id with
     | some (.map sk1 g) => sk1 = sk ∧ sk2 = (sk.1, sk.2.1) ∧ K (s.add id (.map sk (gset g kk none))) (.tup [])
     | _ => False
   | _, _ => False
 | .cpy sz x y => match s.ev x, s.elems (s.ev y) with
   | .sl id sz' lo m, some (sz2, ys) => match look s.hp id with
     | some (.list sz3 xs) => (xs ≠ [] ∧ lo = 0) ∧ (sz' = sz ∧ sz3 = sz ∧ sz2 = sz) ∧ m = xs.length ∧ ys.length = m ∧ K (s.add id (.list sz ys)) (.iv (.v (.int .i64 m)))
     | _ => False
   | _, _ => False
 | .clr sz z x => match s.ev x, z.mapM AV.iv? with
   | .sl id sz' lo m, some zi => match look s.hp id with
     | some (.list sz3 xs) => (sz' = sz ∧ sz3 = sz) ∧ (0 < m ∧ lo + m ≤ xs.length) ∧ K (s.add id (.list sz (xs.take lo ++ List.replicate m zi ++ xs.drop (lo + m)))) (.tup [])
     | _ => False
   | _, _ => False
 | .lenm x => match s.mapOf (s.ev x) with
   | some (_, g) => ∀ n : Nat, (n = 0 ↔ ∀ k, g k = none) → K s (.iv (.v (.int .i64 n)))
   | _ => False
 | .callv x args => match s.ev x with
   | .fn f first caps => okFn P f = true ∧ b5K P d f first args caps (some x) s K
   | .iv (.v (.func (.yield l) vf vc)) => vf = #[] ∧ vc = #[] ∧ b1K P l args s K
   | .iv (.v (.func (.func f) vf vc)) => vf = #[] ∧ vc = #[] ∧ okFn P f = true ∧ b5K P d f [] args [] none s K
   | _ => False
end Go.Vm
end

section
namespace Go.Vm
theorem c1C {v : Value} (h : v.oneCell' = true) : v.cells = #[v] := by cases v <;> simp_all [Value.oneCell', Value.cells]
theorem RIV.one {A : Nat → Prop} {w : World} {x : IV} {v : Value} (h : RIV A w x v) : v.oneCell' = true := by
 cases h with
 | v x h1 => exact h1
 | _ => rfl
theorem RAV.one {A : Nat → Prop} {ψ : Pl} {H : Hp} {w : World} {x : AV} {v : Value} (h : RAV A ψ H w x v) (hx : x.one = true) : v.oneCell' = true := by
 cases h with
 | iv x v h => exact h.one
 | agg cs vs hl h => cases hx
 | tup cs vs hl h => cases hx
 | un => cases hx
 | junk v => cases hx
 | _ => rfl
theorem c2C {A : Nat → Prop} {ψ : Pl} {H : Hp} {w : World} (sz : Nat) (v : Value) : RAV A ψ H w (zav sz v) v := by
 unfold zav
 split
 · exact .nil sz
 · exact .junk _
 · exact .junk _
 · rename_i h1 h2 h3
   refine .iv _ _ (.v v ?_)
   cases v <;> simp_all [Value.oneCell']
theorem c3C {A : Nat → Prop} {ψ : Pl} {H : Hp} {w : World} (v : Value) : RAV A ψ H w (AV.const v) v := by
 unfold AV.const
 split
 · rename_i cs
   refine .agg _ _ (by simp) fun i c hc => ?_
   rw [List.getElem?_map] at hc
   cases hi : cs.toList[i]? with
   | none => rw [hi] at hc; cases hc
   | some x =>
     rw [hi] at hc; cases hc
     have : cs.getD i undef = x := by
       rw [Array.getElem?_toList] at hi
       simp [Array.getD_eq_getD_getElem?, hi]
     rw [this]
     exact c2C 0 x
 · exact c2C 0 v
def upR (P : Program) (o : Oper) (a : Act) (next : Act → World → Prop) : Result Next → Prop
 | .ok (.value v) w' => next (a.put o.dst v) w'
 | .ok .skip w' => next (a.put o.dst undef) w'
 | .ok (.enter f args) w' => Calls P f args w' fun e w'' => ∃ v, e = .returned v ∧ next (a.put o.dst v) w''
 | .ok (.round l f tmps assign body) w' => ∀ m, RoundIn Fence.wide m P l f tmps assign body w' fun e w'' => ∃ v, e = .returned v ∧ next (a.put o.dst v) w''
 | _ => False
def wpR (P : Program) (o : Oper) (a : Act) (w : World) (next : Act → World → Prop) : Prop := upR P o a next ((execOp a.eval o).run P w)
theorem c4C {P : Program} {o : Oper} {a : Act} {K K' : Act → World → Prop} (hK : ∀ a w, K a w → K' a w) : ∀ {r : Result Next}, upR P o a K r → upR P o a K' r := by
 intro r h
 cases r with
 | ok x w' =>
   cases x <;> simp only [upR] at h ⊢
   · exact hK _ _ h
   · exact hK _ _ h
   · exact Calls.mono h fun e w'' ⟨v, h1, h2⟩ => ⟨v, h1, hK _ _ h2⟩
   · exact fun m => RoundIn.mono (h m) fun e w'' ⟨v, h1, h2⟩ => ⟨v, h1, hK _ _ h2⟩
 | halt x w' => exact h.elim
def c5C : Option Nat → Fence
 | none => Fence.wide
 | some l => Fence.wide.inRound l
theorem c6C {ro : Option Nat} {m : Nat} {P : Program} {f : FuncId} {args : Array Value} {w : World} {R : Ending → World → Prop} (h : Calls P f args w R) : CallsIn (c5C ro) m P f args w R := by
 have := (callsIn_wide (n := m)).2 h
 cases ro with
 | none => exact this
 | some l => exact this
theorem c7C {P : Program} {o : Oper} {a : Act} {w : World} {K : Act → World → Prop} (hnd : ∀ c, o.op ≠ .defer c) (h : wpR P o a w K) (ro : Option Nat) (m : Nat) (Q : Exit → Act → World → Prop) : o.wpIn (c5C ro) m P a w K Q := by
 refine ⟨fun _ _ => by cases ro <;> trivial, ?_⟩
 rw [Oper.semAt_eq _ _ _ hnd]
 unfold wpR at h
 generalize (execOp a.eval o).run P w = r at h
 have hd : (c5C ro).depth.isSome = true → 1 ≤ m := by cases ro <;> (intro h; cases h)
 cases r with
 | ok x w' =>
   cases x <;> simp only [upR] at h <;> simp only [Oper.uponIn]
   · exact h
   · exact h
   · exact ⟨hd, c6C (Calls.mono h fun e w'' ⟨v, h1, h2⟩ => by subst h1; exact h2)⟩
   · refine ⟨hd, ?_⟩
     have := RoundIn.mono (R' := fun | .returned v, w'' => K (a.put o.dst v) w'' | .panicked chain, w'' => Q (.panic chain) a w'' | .outgrown, _ => LetsOut Q) (h (m - 1)) fun e w'' ⟨v, h1, h2⟩ => by subst h1; exact h2
     cases ro with
     | none => exact this
     | some l => exact this
 | halt x w' => exact h.elim
section
variable {P : Program} {E : En} {n : Nat} {ψ : Pl} {s : St} {a : Act} {w : World}
theorem SimAt.ev (h : SimAt E n ψ s a w) (x : Operand) : RAV (Im E ψ s.hp) ψ s.hp w (s.ev x) (a.eval x) := by
 cases x with
 | tmp t => exact h.frame t
 | const v => exact c3C v
 | global g => exact .junk _
 | func f => exact .fn f [] [] #[] #[] rfl rfl (by simp) (by simp)
def Does (P : Program) (E : En) (n : Nat) (o : Oper) (a : Act) (w : World) (K : St → AV → Prop) : Prop :=
 ∀ (K' : Act → World → Prop) (Q : Exit → Act → World → Prop),
   (∀ s' av ψ' v w', K s' av → SimAt E n ψ' s' a w' → RAV (Im E ψ' s'.hp) ψ' s'.hp w' av v → K' (a.put o.dst v) w') → wpR P o a w K'
theorem c8C {o : Oper} {K : St → AV → Prop} {v : Value} {w' : World} {s' : St} {av : AV} {ψ' : Pl}
   (hr : (execOp a.eval o).run P w = .ok (.value v) w') (hk : K s' av) (hs : SimAt E n ψ' s' a w') (hv : RAV (Im E ψ' s'.hp) ψ' s'.hp w' av v) :
   Does P E n o a w K := by
 intro K' Q h
 unfold wpR
 rw [hr]
 exact h s' av ψ' v w' hk hs hv
theorem c9C {o : Oper} {K : St → AV → Prop} {w' : World} {s' : St} {ψ' : Pl}
   (hr : (execOp a.eval o).run P w = .ok .skip w') (hk : K s' .un) (hs : SimAt E n ψ' s' a w') : Does P E n o a w K := by
 intro K' Q h
 unfold wpR
 rw [hr]
 exact h s' .un ψ' undef w' hk hs .un
theorem c0D {o : Oper} {K : St → AV → Prop} {v : Value} {av : AV} (h : SimAt E n ψ s a w)
   (hr : (execOp a.eval o).run P w = .ok (.value v) w) (hk : K s av) (hv : RAV (Im E ψ s.hp) ψ s.hp w av v) : Does P E n o a w K :=
 c8C hr hk h hv
structure DoesV (P : Program) (E : En) (n : Nat) (o : Oper) (a : Act) (w : World) (K : St → AV → Prop) : Prop where
 does : Does P E n o a w K
 any : ∃ v, ∀ u, (execOp a.eval o).run P u = .ok (.value v) u
theorem c1D {o : Oper} {K : St → AV → Prop} {v : Value} {av : AV} (h : SimAt E n ψ s a w)
   (hr : ∀ u, (execOp a.eval o).run P u = .ok (.value v) u) (hk : K s av) (hv : RAV (Im E ψ s.hp) ψ s.hp w av v) : DoesV P E n o a w K :=
 ⟨c0D h (hr w) hk hv, v, hr⟩
theorem getD_some {α : Type} {c : Array α} {i : Nat} {d : α} (h : i < c.size) : c[i]? = some (c.getD i d) := by
 simp [Array.getD_eq_getD_getElem?, h]
theorem c2D {A : Nat → Prop} {ψ : Pl} {H : Hp} {w : World} {x : Value} (h : x.oneCell' = true) : RAV A ψ H w (.iv (.v x)) x := .iv _ _ (.v x h)
theorem c3D (w : World) {t : TypeId} {d : TypeDesc} (h : P.underlying t = some d) : (isAgg t).run P w = .ok (b2O P t) w := by
 unfold isAgg b2O
 simp only [underlying, Sem.run_bind, run_program, Result.andThen_ok, h, Sem.run_pure]
 cases d <;> rfl
theorem run_sizeOf (w : World) {t : TypeId} {k : Nat} (h : b8N P t = some k) : (sizeOf t).run P w = .ok k w := by
 unfold b8N at h
 cases hi : P.info? t with
 | none => rw [hi] at h; cases h
 | some i => rw [hi] at h; cases h; simp [sizeOf, typeInfo, hi]
theorem run_underlying (w : World) {t : TypeId} {d : TypeDesc} (h : P.underlying t = some d) : (underlying t).run P w = .ok d w := by
 simp [underlying, h]
theorem c4D (b o k : Nat) : Addr.add ⟨b, o, none⟩ k = ⟨b, o + k, none⟩ := by
 unfold Addr.add; split <;> simp_all
theorem c5D (w : World) (b o : Nat) : ∀ (k i : Nat) (acc : Array Value) (vs : List Value), vs.length = k →
   (∀ j, j < k → w.cell? ⟨b, o + (i + j), none⟩ = vs[j]?) → (loadCellsFrom ⟨b, o, none⟩ i k acc).run P w = .ok (acc ++ vs.toArray) w := by
 intro k
 induction k with
 | zero => intro i acc vs hl _; cases vs with | nil => simp [loadCellsFrom] | cons => simp at hl
 | succ k ih =>
   intro i acc vs hl h
   cases vs with
   | nil => simp at hl
   | cons v vs =>
     have h0 := h 0 (by omega)
     simp only [Nat.add_zero, List.getElem?_cons_zero] at h0
     simp only [loadCellsFrom, Sem.run_bind, run_load, c4D, h0, Result.andThen_ok]
     rw [ih (i + 1) (acc.push v) vs (by simpa using hl) (fun j hj => by
       have := h (j + 1) (by omega)
       simp only [List.getElem?_cons_succ] at this
       rw [← this, show o + (i + 1 + j) = o + (i + (j + 1)) from by omega])]
     simp
theorem c6D (w : World) (b o : Nat) (vs : List Value) (h : ∀ j, j < vs.length → w.cell? ⟨b, o + j, none⟩ = vs[j]?) :
   (loadCells ⟨b, o, none⟩ vs.length).run P w = .ok vs.toArray w := by
 unfold loadCells
 rw [c5D w b o vs.length 0 #[] vs rfl (fun j hj => by rw [Nat.zero_add]; exact h j hj)]
 simp
theorem sure (a : Addr) : (Instr.sureAddr (.pointer (some a)) : Sem Addr) = Sem.pure a := rfl
theorem c7D (w : World) {t : TypeId} {d : TypeDesc} (hd : P.underlying t = some d) (hg : b2O P t = false) {b o : Nat} {v : Value} (hc : w.cell? ⟨b, o, none⟩ = some v) :
   (Instr.loadAt t (.pointer (some ⟨b, o, none⟩))).run P w = .ok v w := by
 simp only [Instr.loadAt, sure, Sem.run_bind, Sem.run_pure', Result.andThen_ok, loadVar, c3D w hd, hg, Bool.false_eq_true, if_false, run_load, hc]
theorem c8D (w : World) {t : TypeId} {d : TypeDesc} (hd : P.underlying t = some d) (hg : b2O P t = true) {b o : Nat} (vs : List Value)
   (hn : b8N P t = some vs.length) (hc : ∀ j, j < vs.length → w.cell? ⟨b, o + j, none⟩ = vs[j]?) :
   (Instr.loadAt t (.pointer (some ⟨b, o, none⟩))).run P w = .ok (.agg vs.toArray) w := by
 simp only [Instr.loadAt, sure, Sem.run_bind, Sem.run_pure', Result.andThen_ok, loadVar, c3D w hd, hg, if_true, run_sizeOf w hn, c6D w b o vs hc, Sem.run_pure]
theorem c9D {A : Nat → Prop} {H : Hp} {cs : List AV} {c : Array Value} {off k : Nat} (h : ∀ i x, cs[i]? = some x → RAV A ψ H w x (c.getD i undef)) (hk : off + k ≤ cs.length) (hc : cs.length ≤ c.size) :
   RAV A ψ H w (.agg ((cs.drop off).take k)) (.agg ((c.toList.drop off).take k).toArray) := by
 refine .agg _ _ (by simp; omega) fun i x hx => ?_
 rw [List.getElem?_take] at hx
 split at hx
 · rename_i hi
   rw [List.getElem?_drop] at hx
   have := h _ _ hx
   rw [b2m]
   have e : ((c.toList.drop off).take k).getD i undef = c.getD (off + i) undef := by
     simp [List.getD, List.getElem?_take, hi, List.getElem?_drop, Array.getD_eq_getD_getElem?]
   rw [e]; exact this
 · cases hx
theorem c0E {dst : Option Nat} {t : TypeId} {x : Operand} {ty : TypeId} {pos : String} {af : Array Edge} {g : Option (Nat × Bool)} {r : Rhs} {d : Nat} {K : St → AV → Prop}
   (hc : comp P ⟨dst, .load t x, ty, pos, af, g⟩ = some r) (h : SimAt E n ψ s a w) (hk : stp P d s K r) (hno : ∀ id sz i off z xs hole, s.ev x = .ep id sz i off → look s.hp id ≠ some (.listo z xs hole)) :
   ∃ v av, (∀ u, Ext w u → (Instr.loadAt t (a.eval x)).run P u = .ok v u) ∧ K s av ∧ RAV (Im E ψ s.hp) ψ s.hp w av v := by
 simp only [comp] at hc
 cases hu : P.underlying t with
 | none => rw [hu] at hc; cases hc
 | some dd =>
   have hx := h.ev x
   simp only [hu, Option.bind_eq_bind, Option.bind_some] at hc
   by_cases hg : b2O P t = true
   · rw [if_pos hg] at hc
     cases hi : b8N P t with
     | none => rw [hi] at hc; cases hc
     | some k =>
       rw [hi] at hc
       simp only [Option.map_some, Option.some.injEq] at hc
       subst hc
       simp only [stp] at hk
       generalize s.ev x = ax at hx hk
       generalize a.eval x = vx at hx
       cases hx with
       | ptr id off b q o ho hb =>
         simp only [ho] at hk
         cases o with
         | box cs =>
           obtain ⟨hl, hk⟩ := hk
           obtain ⟨b', c, e, h1, h2, h3, h4⟩ := h.obs id _ ho
           rw [h1] at hb; cases hb
           have hlen : ((c.toList.drop off).take k).length = k := by simp; omega
           refine ⟨_, _, (fun u hx => c8D u hu hg ((c.toList.drop off).take k) (by rw [hlen]; exact hi) fun j hj => hx.cell' (?_ : w.cell? _ = _) (by simpa using hj)), hk, (c9D h4 hl (by omega))⟩
           rw [hlen] at hj
           rw [c5e h2]
           simp [List.getElem?_take, hj, List.getElem?_drop]
         | _ => exact hk.elim
       | ep id sz i off b q o m ho he hi' hb =>
         simp only [ho] at hk
         cases o with
         | list sz' xs =>
           simp only [Ob.dim, Option.some.injEq, Prod.mk.injEq] at he
           obtain ⟨hz, hm0⟩ := he
           have hz := hz.symm
           subst hz; subst hm0
           simp only at hk
           cases hr : xs[i]? with
           | none => rw [hr] at hk; exact hk.elim
           | some r =>
             rw [hr] at hk
             obtain ⟨hl, hk⟩ := hk
             obtain ⟨h0, h5⟩ := h.obs id _ ho
             rcases h5 with ⟨h1, _⟩ | ⟨b', q', c, e, h1, h2, h3', h3, h4⟩
             · rw [h1] at hb; cases hb
             rw [h1] at hb; cases hb
             have hrl := h0 r (List.mem_of_getElem? hr)
             have hm : (i + 1) * sz ≤ xs.length * sz := Nat.mul_le_mul_right sz (by omega)
             have e2 : (i + 1) * sz = i * sz + sz := by rw [Nat.add_mul]; omega
             have hlen : ((c.toList.drop (q.1 + (i * sz + off))).take k).length = k := by simp; omega
             refine ⟨_, _, (fun u hx => c8D u hu hg ((c.toList.drop (q.1 + (i * sz + off))).take k) (by rw [hlen]; exact hi) fun j hj => hx.cell' (?_ : w.cell? _ = _) (by simpa using hj)), hk, ?_⟩
             · rw [hlen] at hj
               rw [c5e h2]
               simp [List.getElem?_take, hj, List.getElem?_drop]
             · refine .agg _ _ (by simp; omega) fun j y hy => ?_
               rw [List.getElem?_map, List.getElem?_take] at hy
               split at hy
               · rename_i hj
                 rw [List.getElem?_drop] at hy
                 cases hrj : r[off + j]? with
                 | none => rw [hrj] at hy; cases hy
                 | some z =>
                   rw [hrj] at hy; cases hy
                   rw [b2m]
                   have e : ((c.toList.drop (q.1 + (i * sz + off))).take k).getD j undef = c.getD (q.1 + (i * sz + (off + j))) undef := by
                     simp [List.getD, List.getElem?_take, hj, List.getElem?_drop, Array.getD_eq_getD_getElem?, Nat.add_assoc]
                   rw [e]
                   exact .iv _ _ (h4 i (off + j) z (c4e hr hrj))
               · cases hy
         | _ => exact hk.elim
       | iv y v hy =>
         cases hy with
         | pt cs b off vs hcc hrr =>
           obtain ⟨hl, hk⟩ := hk
           have hlen : ((List.range k).map vs).length = k := by simp
           refine ⟨_, _, (fun u hx => c8D u hu hg ((List.range k).map vs) (by rw [hlen]; exact hi) fun j hj => hx.cell' (?_ : w.cell? _ = _) (by simpa using hj)), hk, ?_⟩
           · rw [hlen] at hj
             rw [(hcc j cs[j] (List.getElem?_eq_getElem (by omega))).2]
             simp [hj]
           · refine .agg _ _ (by simp; omega) fun j y hy => ?_
             rw [List.getElem?_map, List.getElem?_take] at hy
             split at hy
             · rename_i hj
               cases hrj : cs[j]? with
               | none => rw [hrj] at hy; cases hy
               | some z =>
                 rw [hrj] at hy; cases hy
                 have e : ((List.range k).map vs).toArray.getD j undef = vs j := by
                   rw [b2m]; simp [List.getD, hj]
                 rw [e]
                 exact .iv _ _ (hrr j z hrj)
             · cases hy
         | _ => exact hk.elim
       | _ => exact hk.elim
   · have hg : b2O P t = false := by simpa using hg
     simp only [hg, Bool.false_eq_true, if_false] at hc
     have hc : Rhs.ld x none = r := by simpa using hc
     subst hc
     simp only [stp] at hk
     generalize hax : s.ev x = ax at hx hk
     generalize a.eval x = vx at hx
     cases hx with
     | ptr id off b q o ho hb =>
       simp only [ho] at hk
       cases o with
       | box cs =>
         simp only at hk
         cases hr : cs[off]? with
         | none => rw [hr] at hk; exact hk.elim
         | some y =>
           rw [hr] at hk
           obtain ⟨b', c, e, h1, h2, h3, h4⟩ := h.obs id _ ho
           rw [h1] at hb; cases hb
           have hlt : off < c.size := by rw [h3]; exact (List.getElem?_eq_some_iff.1 hr).1
           exact ⟨_, _, (fun u hx => c7D u hu hg (hx.cell (c6e h2 hlt))), hk, (h4 off y hr)⟩
       | _ => exact hk.elim
     | ep id sz i off b q o m ho he hi' hb =>
       simp only [ho] at hk
       cases o with
       | list sz' xs =>
         simp only [Ob.dim, Option.some.injEq, Prod.mk.injEq] at he
         obtain ⟨hz, hm0⟩ := he
         have hz := hz.symm
         subst hz; subst hm0
         simp only at hk
         cases hr : at2 xs i off with
         | none => rw [hr] at hk; exact hk.elim
         | some y =>
           rw [hr] at hk
           obtain ⟨h0, h5⟩ := h.obs id _ ho
           rcases h5 with ⟨h1, _⟩ | ⟨b', q', c, e, h1, h2, h3', h3, h4⟩
           · rw [h1] at hb; cases hb
           rw [h1] at hb; cases hb
           obtain ⟨r, hr1, hr2⟩ := c3e hr
           have hrl := h0 r (List.mem_of_getElem? hr1)
           have hol := (List.getElem?_eq_some_iff.1 hr2).1
           have hm : (i + 1) * sz ≤ xs.length * sz := Nat.mul_le_mul_right sz (by omega)
           have e2 : (i + 1) * sz = i * sz + sz := by rw [Nat.add_mul]; omega
           exact ⟨_, _, (fun u hx => c7D u hu hg (hx.cell (c6e h2 (by omega)))), hk, (.iv _ _ (h4 i off y hr))⟩
       | listo z xs hole => exact absurd ho (hno _ _ _ _ _ _ _ hax)
       | _ => exact hk.elim
     | iv y v hy =>
       cases hy with
       | pt cs b off vs hcc hrr =>
         simp only at hk
         cases hr : cs[0]? with
         | none => rw [hr] at hk; exact hk.elim
         | some y =>
           rw [hr] at hk
           have := (hcc 0 y hr).2
           exact ⟨_, _, (fun u hx => c7D u hu hg (hx.cell this)), hk, (.iv _ _ (hrr 0 y hr))⟩
       | _ => exact hk.elim
     | _ => exact hk.elim
end
end Go.Vm
end

section
namespace Go.Vm
section
variable {A : Nat → Prop} {ψ : Pl} {H : Hp} {w : World} {v : Value}
theorem b2o {x : Value} (h : RAV A ψ H w (.iv (.v x)) v) : v = x := by cases h with | iv _ _ h => cases h; rfl
theorem b3o {id off : Nat} (h : RAV A ψ H w (.ptr id off) v) : ∃ b k o, look H id = some o ∧ ψ id = some (b, k) ∧ v = .pointer (some ⟨b, off, none⟩) := by
 cases h with | ptr _ _ b k o ho hb => exact ⟨b, k, o, ho, hb, rfl⟩
theorem b4o {id sz i off : Nat} (h : RAV A ψ H w (.ep id sz i off) v) :
   ∃ b k o m, look H id = some o ∧ o.dim = some (sz, m) ∧ i < m ∧ ψ id = some (b, k) ∧ v = .pointer (some ⟨b, k.1 + (i * sz + off), none⟩) := by
 cases h with | ep _ _ _ _ b k o m ho he hi hb => exact ⟨b, k, o, m, ho, he, hi, hb, rfl⟩
theorem b5o {cs : List IV} (h : RAV A ψ H w (.iv (.pt cs)) v) : ∃ (b off : Nat) (vs : Nat → Value), (∀ i c, cs[i]? = some c → A b ∧ w.cell? ⟨b, off + i, none⟩ = some (vs i)) ∧
   (∀ i c, cs[i]? = some c → RIV A w c (vs i)) ∧ v = .pointer (some ⟨b, off, none⟩) := by
 cases h with | iv _ _ h => cases h with | pt _ b off vs h1 h2 => exact ⟨b, off, vs, h1, h2, rfl⟩
theorem b6o {cs : List AV} (h : RAV A ψ H w (.agg cs) v) : ∃ vs : Array Value, vs.size = cs.length ∧ (∀ i c, cs[i]? = some c → RAV A ψ H w c (vs.getD i undef)) ∧ v = .agg vs := by
 cases h with | agg _ vs h1 h2 => exact ⟨vs, h1, h2, rfl⟩
theorem b7o {cs : List AV} (h : RAV A ψ H w (.tup cs) v) : ∃ vs : Array Value, vs.size = cs.length ∧ (∀ i c, cs[i]? = some c → RAV A ψ H w c (vs.getD i undef)) ∧ v = .tuple vs := by
 cases h with | tup _ vs h1 h2 => exact ⟨vs, h1, h2, rfl⟩
theorem b8o {sz : Nat} (h : RAV A ψ H w (.nil sz) v) : v = .slice none 0 0 := by cases h; rfl
theorem b9o {sz : Nat} {xs : List (List IV)} (h : RAV A ψ H w (.iv (.lst sz xs)) v) :
   (xs = [] ∧ v = .slice none 0 0) ∨ ∃ (b off cap : Nat) (ad : Addr) (vs : Nat → Nat → Value), (xs ≠ [] → ad = ⟨b, off, none⟩) ∧ (∀ x ∈ xs, x.length = sz) ∧ xs.length ≤ cap ∧
     (∀ i j c, at2 xs i j = some c → A b ∧ w.cell? ⟨b, off + (i * sz + j), none⟩ = some (vs i j)) ∧
     (∀ i j c, at2 xs i j = some c → RIV A w c (vs i j)) ∧ v = .slice (some ad) xs.length cap := by
 cases h with
 | iv _ _ h =>
   cases h with
   | lnil => exact .inl ⟨rfl, rfl⟩
   | lst _ _ b off cap ad vs h1 h2 h3 h4 h5 => exact .inr ⟨b, off, cap, ad, vs, h1, h2, h3, h4, h5, rfl⟩
theorem b0p {id sz lo len : Nat} (h : RAV A ψ H w (.sl id sz lo len) v) : ∃ o m, look H id = some o ∧ o.dim = some (sz, m) ∧ lo + len ≤ m ∧
   ((ψ id = none ∧ lo = 0 ∧ len = 0 ∧ v = .slice none 0 0) ∨
     ∃ b k cap ad, ψ id = some (b, k) ∧ (0 < cap → ad = ⟨b, k.1 + lo * sz, none⟩) ∧ len ≤ cap ∧ (lo + cap) * sz ≤ k.2 ∧ v = .slice (some ad) len cap) := by
 cases h with
 | sl0 _ _ o m ho he hb => exact ⟨o, m, ho, he, by omega, .inl ⟨hb, rfl, rfl, rfl⟩⟩
 | sl _ _ _ _ b k cap ad o m ho he hx hb ha hlc hk hm => exact ⟨o, m, ho, he, hx, .inr ⟨b, k, cap, ad, hb, ha, hlc, hk, rfl⟩⟩
theorem b1p {x : AV} {m : Nat} (h : RAV A ψ H w x v) (hx : (∃ sz, x = .nil sz ∧ m = 0) ∨ (∃ sz xs, x = .iv (.lst sz xs) ∧ m = xs.length) ∨ ∃ id sz lo, x = .sl id sz lo m) :
   ∃ ad cap, v = .slice ad m cap := by
 rcases hx with ⟨sz, rfl, rfl⟩ | ⟨sz, xs, rfl, rfl⟩ | ⟨id, sz, lo, rfl⟩
 · exact ⟨none, 0, b8o h⟩
 · rcases b9o h with ⟨rfl, rfl⟩ | ⟨b, off, cap, ad, vs, _, _, _, _, _, rfl⟩
   · exact ⟨none, 0, rfl⟩
   · exact ⟨some ad, cap, rfl⟩
 · obtain ⟨_, _, _, _, _, ⟨_, _, rfl, rfl⟩ | ⟨b, k, cap, ad, _, _, _, _, rfl⟩⟩ := b0p h
   · exact ⟨none, 0, rfl⟩
   · exact ⟨some ad, cap, rfl⟩
theorem b2p {id sz lo len : Nat} {ad : Option Addr} {m cap : Nat} (h : RAV A ψ H w (.sl id sz lo len) (.slice ad m cap)) : cap < 2 ^ 63 := by
 cases h with
 | sl0 => decide
 | sl _ _ _ _ b k cap ad o m ho he hx hb ha hlc hk hm => exact hm
end
section
variable {P : Program} {E : En} {n : Nat} {ψ : Pl} {s : St} {a : Act} {w : World}
variable {dst : Option Nat} {ty : TypeId} {pos : String} {af : Array Edge} {g : Option (Nat × Bool)} {r : Rhs} {d : Nat} {K : St → AV → Prop}
theorem b3p {c x y : Operand} (hc : comp P ⟨dst, .pick c x y, ty, pos, af, g⟩ = some r) (h : SimAt E n ψ s a w) (hk : stp P d s K r) :
   DoesV P E n ⟨dst, .pick c x y, ty, pos, af, g⟩ a w K := by
 simp only [comp, Option.some.injEq] at hc; subst hc
 simp only [stp] at hk
 have hx := h.ev c
 generalize s.ev c = ac at hx hk
 split at hk
 · rename_i t
   have hv := b2o hx
   refine c1D h (v := if t then a.eval x else a.eval y) (fun u => by simp [execOp, hv, asBool]) hk ?_
   cases t
   · exact h.ev y
   · exact h.ev x
 · exact hk.elim
theorem b4p {x : Operand} (hc : comp P ⟨dst, .nilCheck x, ty, pos, af, g⟩ = some r) (h : SimAt E n ψ s a w) (hk : stp P d s K r) :
   DoesV P E n ⟨dst, .nilCheck x, ty, pos, af, g⟩ a w K := by
 simp only [comp, Option.some.injEq] at hc; subst hc
 simp only [stp] at hk
 have hx := h.ev x
 have run : ∀ p, a.eval x = .pointer (some p) → ∀ w : World, (execOp a.eval ⟨dst, .nilCheck x, ty, pos, af, g⟩).run P w = .ok (.value (a.eval x)) w := by
   intro p hp w; simp [execOp, hp]
 generalize s.ev x = ax at hx hk
 split at hk
 · obtain ⟨b, k, o, _, _, e⟩ := b3o hx; exact c1D h (run _ e) hk hx
 · obtain ⟨b, k, o, m, _, _, _, _, e⟩ := b4o hx; exact c1D h (run _ e) hk hx
 · obtain ⟨b, off, vs, _, _, e⟩ := b5o hx; exact c1D h (run _ e) hk hx
 · exact hk.elim
theorem b5p {op : BinOp} {t : TypeId} {x y : Operand} {u v : Value} (w : World) (h1 : u ≠ .nilIface) (h2 : ∀ cs, u ≠ .agg cs) : (eqGuard op t x y u v).run P w = .ok () w := by
 unfold eqGuard
 cases u with
 | nilIface => exact absurd rfl h1
 | agg cs => exact absurd rfl (h2 cs)
 | _ => cases op <;> rfl
theorem b6p {op : BinOp} {u v z : Value} (h : binV op u v = some z) (t : TypeId) :
   z.oneCell' = true ∧ u ≠ .nilIface ∧ (∀ cs, u ≠ .agg cs) ∧ ∀ w : World, (Go.binOp op t u v).run P w = .ok z w := by
 unfold binV at h
 split at h
 · rename_i j x k y
   refine ⟨?_, by simp, by simp, ?_⟩
   · cases op <;> simp only [binI] at h <;> (repeat' split at h) <;> (first | (cases h; rfl) | cases h)
   · intro w
     cases op <;> simp only [binI] at h <;> (repeat' split at h) <;> (first | (cases h; done) | skip) <;> (try subst_vars) <;> cases h <;>
       first
         | (simp_all [Go.binOp, Op.intArith, Op.intDiv, Op.intBits, Op.intCmp, b1Q]; done)
         | (rename_i hy; simp only [Go.binOp, Op.shift, if_neg hy, Sem.run_pure, b2Q])
 · rename_i x y
   refine ⟨?_, by simp, by simp, ?_⟩
   · cases op <;> simp only [binS] at h <;> (first | (cases h; rfl) | cases h)
   · intro w
     cases op <;> simp only [binS] at h <;> (first | (cases h; done) | skip) <;> cases h <;> simp [Go.binOp, Op.stringOp, b3Q, b4Q]
 · cases h
theorem b7p {op : BinOp} {xt yt : TypeId} {x y : Operand} (h : SimAt E n ψ s a w) (hk : stp P d s K (.bin op x y)) :
   DoesV P E n ⟨dst, .binOp op xt x y yt, ty, pos, af, g⟩ a w K := by
 have hx := h.ev x
 have hy := h.ev y
 simp only [stp] at hk
 generalize s.ev x = ax at hx hk
 generalize s.ev y = ay at hy hk
 split at hk
 · rename_i u v
   have e1 := b2o hx
   have e2 := b2o hy
   split at hk
   · rename_i z hz
     obtain ⟨h1, h2, h3, h4⟩ := b6p (P := P) hz xt
     refine c1D h (v := z) ?_ hk (c2D h1)
     exact fun w => by simp [execOp, e1, e2, b5p w h2 h3, h4 w]
   · exact hk.elim
 · exact hk.elim
theorem b8p (k : Nat) {t : TypeId} (hu : P.underlying t = some .bool) (u v : Bool) (w : World) : (Op.equalIn (k + 1) t (.bool u) (.bool v)).run P w = .ok (u == v) w := by
 simp [Op.equalIn, run_underlying w hu]
theorem b9p {t : TypeId} (hu : P.underlying t = some .bool) (u v : Bool) (w : World) : (Op.equal t (.bool u) (.bool v)).run P w = .ok (u == v) w :=
 b8p 9999 hu u v w
theorem b0q {op : BinOp} {xt yt : TypeId} {x y : Operand} {neg : Bool} (hu : P.underlying xt = some .bool) (hop : op = if neg then .neq else .eql)
   (h : SimAt E n ψ s a w) (hk : stp P d s K (.beq neg x y)) : DoesV P E n ⟨dst, .binOp op xt x y yt, ty, pos, af, g⟩ a w K := by
 have hx := h.ev x
 have hy := h.ev y
 simp only [stp] at hk
 generalize s.ev x = ax at hx hk
 generalize s.ev y = ay at hy hk
 split at hk
 · rename_i u v
   have e1 := b2o hx
   have e2 := b2o hy
   refine c1D h (v := .bool (if neg then u != v else u == v)) ?_ hk (c2D rfl)
   subst hop
   intro w
   cases neg <;> simp [execOp, e1, e2, b5p, Go.binOp, b9p hu, bne]
 · exact hk.elim
theorem b1q (k : Nat) {t e : TypeId} (hu : P.underlying t = some (.pointer e)) (u v : Option Addr) (w : World) (h : u = none ∨ v = none) :
   (Op.equalIn (k + 1) t (.pointer u) (.pointer v)).run P w = .ok (u.isNone && v.isNone) w := by
 cases u with
 | none => simp [Op.equalIn, run_underlying w hu]
 | some u =>
   rcases h with h | h
   · cases h
   · subst h; simp [Op.equalIn, run_underlying w hu]
theorem b2q {t e : TypeId} (hu : P.underlying t = some (.pointer e)) (u v : Option Addr) (w : World) (h : u = none ∨ v = none) :
   (Op.equal t (.pointer u) (.pointer v)).run P w = .ok (u.isNone && v.isNone) w := b1q 9999 hu u v w h
theorem b3q {op : BinOp} {xt yt e : TypeId} {x y : Operand} {neg : Bool} (hu : P.underlying xt = some (.pointer e)) (hop : op = if neg then .neq else .eql)
   (h : SimAt E n ψ s a w) (hk : stp P d s K (.peq neg x y)) : DoesV P E n ⟨dst, .binOp op xt x y yt, ty, pos, af, g⟩ a w K := by
 have hx := h.ev x
 have hy := h.ev y
 simp only [stp] at hk
 have run : ∀ u v : Option Addr, a.eval x = .pointer u → a.eval y = .pointer v → (u = none ∨ v = none) → ∀ w : World,
     (execOp a.eval ⟨dst, .binOp op xt x y yt, ty, pos, af, g⟩).run P w = .ok (.value (.bool (if neg then !(u.isNone && v.isNone) else u.isNone && v.isNone))) w := by
   intro u v e1 e2 hn w
   subst hop
   cases neg <;> simp [execOp, e1, e2, b5p, Go.binOp, b2q hu u v w hn]
 generalize s.ev x = ax at hx hk
 generalize s.ev y = ay at hy hk
 split at hk
 · exact c1D h (run _ _ (b2o hx) (b2o hy) (.inl rfl)) (by cases neg <;> exact hk) (c2D rfl)
 · obtain ⟨b, k, o, _, _, e2⟩ := b3o hy
   exact c1D h (run _ _ (b2o hx) e2 (.inl rfl)) (by cases neg <;> exact hk) (c2D rfl)
 · obtain ⟨b, off, vs, _, _, e2⟩ := b5o hy
   exact c1D h (run _ _ (b2o hx) e2 (.inl rfl)) (by cases neg <;> exact hk) (c2D rfl)
 · obtain ⟨b, k, o, _, _, e1⟩ := b3o hx
   exact c1D h (run _ _ e1 (b2o hy) (.inr rfl)) (by cases neg <;> exact hk) (c2D rfl)
 · obtain ⟨b, off, vs, _, _, e1⟩ := b5o hx
   exact c1D h (run _ _ e1 (b2o hy) (.inr rfl)) (by cases neg <;> exact hk) (c2D rfl)
 · exact hk.elim
theorem b4q (k : Nat) {t e : TypeId} (hu : P.underlying t = some (.slice e)) (ad : Option Addr) (m c : Nat) (w : World) :
   (Op.equalIn (k + 1) t (.slice ad m c) (.slice none 0 0)).run P w = .ok ad.isNone w := by
 cases ad <;> simp [Op.equalIn, run_underlying w hu]
theorem b5q {t e : TypeId} (hu : P.underlying t = some (.slice e)) (ad : Option Addr) (m c : Nat) (w : World) :
   (Op.equal t (.slice ad m c) (.slice none 0 0)).run P w = .ok ad.isNone w := b4q 9999 hu ad m c w
theorem b6q {op : BinOp} {xt yt e : TypeId} {x : Operand} {neg : Bool} (hu : P.underlying xt = some (.slice e)) (hop : op = if neg then .neq else .eql)
   (h : SimAt E n ψ s a w) (hk : stp P d s K (.snil neg x)) : DoesV P E n ⟨dst, .binOp op xt x (.const (.slice none 0 0)) yt, ty, pos, af, g⟩ a w K := by
 have hx := h.ev x
 simp only [stp] at hk
 have run : ∀ ad m c, a.eval x = .slice ad m c → ∀ w : World,
     (execOp a.eval ⟨dst, .binOp op xt x (.const (.slice none 0 0)) yt, ty, pos, af, g⟩).run P w = .ok (.value (.bool (if neg then !ad.isNone else ad.isNone))) w := by
   intro ad m c e1 w
   subst hop
   have e2 : a.eval (.const (.slice none 0 0)) = .slice none 0 0 := rfl
   cases neg <;> simp [execOp, e1, e2, b5p, Go.binOp, b5q hu ad m c w]
 generalize s.ev x = ax at hx hk
 split at hk
 · exact c1D h (run _ _ _ (b8o hx)) (by cases neg <;> exact hk) (c2D rfl)
 · rename_i id sz lo m
   obtain ⟨xs, xm, q1, he, q2, ⟨p1, rfl, rfl, e1⟩ | ⟨b, k, cap, ad, p1, p2, p3, p4, e1⟩⟩ := b0p hx
   · exact c1D h (run _ _ _ e1) (hk true (by omega)) (c2D rfl)
   · exact c1D h (run _ _ _ e1) (hk false (fun _ => rfl)) (c2D rfl)
 · rename_i sz xs
   rcases b9o hx with ⟨rfl, e1⟩ | ⟨b, off, cap, ad, vs, q1, q2, q3, q4, q5, e1⟩
   · exact c1D h (run _ _ _ e1) (hk true (fun h => absurd rfl h)) (c2D rfl)
   · exact c1D h (run _ _ _ e1) (hk false (fun _ => rfl)) (c2D rfl)
 · exact hk.elim
theorem b7q {op : UnOp} {xt : TypeId} {x : Operand} (h : SimAt E n ψ s a w) (hk : stp P d s K (.un op x)) :
   DoesV P E n ⟨dst, .unOp op xt x, ty, pos, af, g⟩ a w K := by
 have hx := h.ev x
 simp only [stp] at hk
 generalize s.ev x = ax at hx hk
 split at hk
 · rename_i v
   have e1 := b2o hx
   split at hk
   · rename_i z hz
     have : z.oneCell' = true ∧ ∀ w : World, (Op.unary op v).run P w = .ok z w := by
       unfold unV at hz
       (repeat' split at hz) <;> cases hz <;> exact ⟨rfl, fun _ => rfl⟩
     refine c1D h (v := z) ?_ hk (c2D this.1)
     exact fun w => by simp [execOp, e1, this.2 w]
   · exact hk.elim
 · exact hk.elim
theorem b8q {sr ds : TypeId} {x : Operand} {k j : IntKind} (h1 : P.underlying sr = some (.int j)) (h2 : P.underlying ds = some (.int k)) (h : SimAt E n ψ s a w)
   (hk : stp P d s K (.cvt k x)) : DoesV P E n ⟨dst, .convert sr ds x, ty, pos, af, g⟩ a w K := by
 have hx := h.ev x
 simp only [stp] at hk
 generalize s.ev x = ax at hx hk
 split at hk
 · rename_i q m
   have e1 := b2o hx
   refine c1D h (v := .int k (k.wrap m)) ?_ hk (c2D rfl)
   exact fun w => by simp [execOp, e1, convert, run_underlying w h1, run_underlying w h2, Conv.intToInt]
 · exact hk.elim
theorem b9q {x : Operand} {i : Nat} (h : SimAt E n ψ s a w) (hk : stp P d s K (.ext i x)) : DoesV P E n ⟨dst, .extract x i, ty, pos, af, g⟩ a w K := by
 have hx := h.ev x
 simp only [stp] at hk
 generalize s.ev x = ax at hx hk
 split at hk
 · rename_i vs
   obtain ⟨us, h1, h2, e⟩ := b7o hx
   split at hk
   · rename_i y hy
     have hi := (List.getElem?_eq_some_iff.1 hy).1
     refine c1D h (v := us.getD i undef) ?_ hk (h2 i y hy)
     have : us[i]? = some (us.getD i undef) := getD_some (by omega)
     exact fun w => by simp only [execOp, e, Instr.extract, this, Sem.run_bind, Sem.run_pure, Result.andThen_ok]
   · exact hk.elim
 · exact hk.elim
theorem b0r {t : TypeId} {e : TypeId} (hu : P.underlying t = some (.slice e)) (ad : Option Addr) (m cap : Nat) (w : World) (ts : Array TypeId) (h0 : ts[0]? = some t) (ty : TypeId) :
   (Builtin.len_ ts ty #[.slice ad m cap]).run P w = .ok (.int .i64 m) w := by
 simp [Builtin.len_, h0, run_underlying w hu, goInt]
theorem b1r {t : TypeId} (hu : P.underlying t = some .string) (x : ByteArray) (w : World) (ts : Array TypeId) (h0 : ts[0]? = some t) (ty : TypeId) :
   (Builtin.len_ ts ty #[.string x]).run P w = .ok (.int .i64 x.size) w := by
 simp [Builtin.len_, h0, run_underlying w hu, goInt]
end
end Go.Vm
end

section
namespace Go.Vm
section
variable {P : Program} {E : En} {n : Nat} {ψ : Pl} {s : St} {a : Act} {w : World}
variable {dst : Option Nat} {ty : TypeId} {pos : String} {af : Array Edge} {g : Option (Nat × Bool)} {r : Rhs} {d : Nat} {K : St → AV → Prop}
theorem b9x {x : Operand} {ts : Array TypeId} {v : Value} {w : World} (hv : (Builtin.len_ ts ty #[a.eval x]).run P w = .ok v w) :
   (execOp a.eval ⟨dst, .call ⟨.builtin .len, #[x], ts⟩, ty, pos, af, g⟩).run P w = .ok (.value v) w := by
 simp only [execOp, resolve, Sem.run_bind, Sem.run_pure, Result.andThen_ok, invoke, builtin]
 simp [hv]
theorem b0y {x : Operand} {t e : TypeId} {ts : Array TypeId} (h0 : ts[0]? = some t) (hu : P.underlying t = some (.slice e))
   (h : SimAt E n ψ s a w) (hk : stp P d s K (.len x)) : DoesV P E n ⟨dst, .call ⟨.builtin .len, #[x], ts⟩, ty, pos, af, g⟩ a w K := by
 have hx := h.ev x
 simp only [stp] at hk
 have run : ∀ ad m cap, a.eval x = .slice ad m cap → ∀ w : World, (execOp a.eval ⟨dst, .call ⟨.builtin .len, #[x], ts⟩, ty, pos, af, g⟩).run P w = .ok (.value (.int .i64 m)) w := by
   intro ad m cap e1 w
   exact b9x (by rw [e1]; exact b0r hu _ _ _ _ _ h0 _)
 generalize s.ev x = ax at hx hk
 split at hk
 · rename_i sz xs
   obtain ⟨ad, cap, e1⟩ := b1p hx (.inr (.inl ⟨sz, xs, rfl, rfl⟩))
   exact c1D h (run _ _ _ e1) hk (c2D rfl)
 · rename_i id sz lo m
   obtain ⟨ad, cap, e1⟩ := b1p hx (.inr (.inr ⟨id, sz, lo, rfl⟩))
   exact c1D h (run _ _ _ e1) hk (c2D rfl)
 · rename_i sz
   obtain ⟨ad, cap, e1⟩ := b1p hx (.inl ⟨sz, rfl, rfl⟩)
   exact c1D h (run _ _ _ e1) hk (c2D rfl)
 · exact hk.elim
theorem b1y {x : Operand} {t : TypeId} {ts : Array TypeId} (h0 : ts[0]? = some t) (hu : P.underlying t = some .string)
   (h : SimAt E n ψ s a w) (hk : stp P d s K (.lens x)) : DoesV P E n ⟨dst, .call ⟨.builtin .len, #[x], ts⟩, ty, pos, af, g⟩ a w K := by
 have hx := h.ev x
 simp only [stp] at hk
 generalize s.ev x = ax at hx hk
 split at hk
 · have e1 := b2o hx
   exact c1D h (fun w => b9x (by rw [e1]; exact b1r hu _ _ _ h0 _)) hk (c2D rfl)
 · exact hk.elim
theorem b2y {sT : TypeId} {x : Operand} {i : Nat} {fs : Array Field} {f : Field} {q : Nat} (hu : P.underlying sT = some (.struct fs)) (hf : fs[i]? = some f)
   (hq : b8N P f.type = some q) (hq0 : q ≠ 0) (h : SimAt E n ψ s a w) (hk : stp P d s K (.fa f.offset x)) : DoesV P E n ⟨dst, .fieldAddr sT x i, ty, pos, af, g⟩ a w K := by
 have hx := h.ev x
 simp only [stp] at hk
 have run : ∀ b o, a.eval x = .pointer (some ⟨b, o, none⟩) → ∀ w : World, (execOp a.eval ⟨dst, .fieldAddr sT x i, ty, pos, af, g⟩).run P w = .ok (.value (.pointer (some ⟨b, o + f.offset, none⟩))) w := by
   intro b o e w
   simp only [execOp, Instr.fieldAt, e, sure, Sem.run_bind, run_underlying w hu, Result.andThen_ok, hf, Sem.run_pure', fieldPlace, run_sizeOf w hq, if_neg hq0, Sem.run_pure, c4D]
 generalize s.ev x = ax at hx hk
 split at hk
 · obtain ⟨b, k, o, h1, h2, e⟩ := b3o hx
   exact c1D h (run _ _ e) hk (.ptr _ _ b k o h1 h2)
 · rename_i id sz' i' off
   obtain ⟨b, k, o2, m2, h1, he, h2, h3, e⟩ := b4o hx
   refine c1D h (run _ _ e) hk ?_
   rw [show k.1 + (i' * sz' + off) + f.offset = k.1 + (i' * sz' + (off + f.offset)) from by omega]
   exact .ep _ _ _ _ b k o2 m2 h1 he h2 h3
 · obtain ⟨b, o, vs, h1, h2, e⟩ := b5o hx
   refine c1D h (run _ _ e) hk (.iv _ _ (.pt _ b _ (fun j => vs (f.offset + j)) (fun j c hj => ?_) (fun j c hj => ?_)))
   · rw [List.getElem?_drop] at hj
     obtain ⟨g1, g2⟩ := h1 _ _ hj
     exact ⟨g1, by rw [Nat.add_assoc]; exact g2⟩
   · rw [List.getElem?_drop] at hj
     exact h2 _ _ hj
 · exact hk.elim
theorem b3y {t : TypeId} {dd : TypeDesc} (hu : P.underlying t = some dd) (hg : b2O P t = false) {vs : Array Value} {off : Nat} (ho : off < vs.size) (w : World) :
   (part t vs off).run P w = .ok (vs.getD off undef) w := by
 simp only [part, Sem.run_bind, c3D w hu, Result.andThen_ok, hg, Bool.false_eq_true, if_false, getD_some ho (d := undef), Sem.run_pure]
theorem b4y {t : TypeId} {dd : TypeDesc} (hu : P.underlying t = some dd) (hg : b2O P t = true) {q : Nat} (hq : b8N P t = some q) (vs : Array Value) (off : Nat) (w : World) :
   (part t vs off).run P w = .ok (.agg (vs.extract off (off + q))) w := by
 simp only [part, Sem.run_bind, c3D w hu, Result.andThen_ok, hg, if_true, run_sizeOf w hq, Sem.run_pure]
theorem b5y (vs : Array Value) (off q : Nat) : vs.extract off (off + q) = ((vs.toList.drop off).take q).toArray := by
 apply Array.ext'
 simp [Array.toList_extract, List.take_drop, List.extract_eq_take_drop, Nat.add_comm]
theorem b6y {sT : TypeId} {x : Operand} {i : Nat} {fs : Array Field} {f : Field} {q : Nat} {dd : TypeDesc} (hu : P.underlying sT = some (.struct fs)) (hf : fs[i]? = some f)
   (hq : b8N P f.type = some q) (hd : P.underlying f.type = some dd) (h : SimAt E n ψ s a w) (hk : stp P d s K (.fld f.offset (if b2O P f.type then some q else none) x)) :
   DoesV P E n ⟨dst, .field sT x i, ty, pos, af, g⟩ a w K := by
 have hx := h.ev x
 have run : ∀ vs v, a.eval x = .agg vs → (∀ w : World, (part f.type vs f.offset).run P w = .ok v w) → ∀ w : World, (execOp a.eval ⟨dst, .field sT x i, ty, pos, af, g⟩).run P w = .ok (.value v) w := by
   intro vs v e hv w
   simp only [execOp, Instr.field, e, Sem.run_bind, run_underlying w hu, Result.andThen_ok, hf, asAgg, Sem.run_pure, hv w]
 by_cases hg : b2O P f.type = true
 · rw [if_pos hg] at hk
   simp only [stp] at hk
   generalize s.ev x = ax at hx hk
   split at hk
   · rename_i cs
     obtain ⟨hl, hk⟩ := hk
     obtain ⟨vs, h1, h2, e⟩ := b6o hx
     refine c1D h (run _ _ e (b4y hd hg hq vs f.offset)) hk ?_
     rw [b5y]
     exact c9D h2 hl (by omega)
   · exact hk.elim
 · have hg : b2O P f.type = false := by simpa using hg
   rw [hg] at hk
   simp only [Bool.false_eq_true, if_false, stp] at hk
   generalize s.ev x = ax at hx hk
   split at hk
   · rename_i cs
     obtain ⟨vs, h1, h2, e⟩ := b6o hx
     split at hk
     · rename_i y hy
       have := (List.getElem?_eq_some_iff.1 hy).1
       exact c1D h (run _ _ e (b3y hd hg (by omega))) hk (h2 _ y hy)
     · exact hk.elim
   · exact hk.elim
theorem b7y {t e : TypeId} {x i : Operand} {sz : Nat} (hu : P.underlying t = some (.slice e)) (hsz : b8N P e = some sz) (h : SimAt E n ψ s a w)
   (hk : stp P d s K (.ia sz x i)) : DoesV P E n ⟨dst, .indexAddr t x i, ty, pos, af, g⟩ a w K := by
 have hx := h.ev x
 have hi := h.ev i
 simp only [stp] at hk
 have run : ∀ ad m cap k j, a.eval x = .slice (some ad) m cap → a.eval i = .int k j → 0 ≤ j → j < m → ∀ w : World,
     (execOp a.eval ⟨dst, .indexAddr t x i, ty, pos, af, g⟩).run P w = .ok (.value (.pointer (some (ad.add (j.toNat * sz))))) w := by
   intro ad m cap k j e1 e2 h1 h2 w
   simp [execOp, Instr.indexAt, e1, e2, asIntOf, run_underlying w hu, run_sizeOf w hsz, h1, h2]
 generalize s.ev x = ax at hx hk
 generalize s.ev i = ai at hi hk
 split at hk
 · rename_i sz' xs k m
   obtain ⟨rfl, hm, hk⟩ := hk
   have e2 := b2o hi
   split at hk
   · rename_i r hr
     have hlt := (List.getElem?_eq_some_iff.1 hr).1
     rcases b9o hx with ⟨rfl, _⟩ | ⟨b, off, cap, ad, vs, g1, g2, g3, g4, g5, e1⟩
     · simp at hlt
     · have hne : xs ≠ [] := by rintro rfl; simp at hlt
       have g1 := g1 hne
       subst g1
       refine c1D h (run _ _ _ _ _ e1 e2 hm (by omega)) hk ?_
       rw [c4D]
       refine .iv _ _ (.pt r b _ (fun j => vs m.toNat j) (fun j c hj => ?_) (fun j c hj => g5 _ _ _ (c4e hr hj)))
       obtain ⟨q1, q2⟩ := g4 _ _ _ (c4e hr hj)
       exact ⟨q1, by rw [Nat.add_assoc]; exact q2⟩
   · exact hk.elim
 · rename_i id sz' o kk k m
   obtain ⟨rfl, hm, hm2, hk⟩ := hk
   have e2 := b2o hi
   obtain ⟨xs, xm, q1, he, q2, ⟨_, _, rfl, _⟩ | ⟨b, c, cap, ad, p1, p2, p3, p4, e1⟩⟩ := b0p hx
   · omega
   · refine c1D h (run _ _ _ _ _ e1 e2 hm (by omega)) hk ?_
     rw [p2 (by omega), c4D, show c.1 + o * sz' + m.toNat * sz' = c.1 + ((o + m.toNat) * sz' + 0) from by rw [Nat.add_mul]; omega]
     exact .ep id sz' (o + m.toNat) 0 b c xs xm q1 he (by omega) p1
 · exact hk.elim
theorem b8y {t : TypeId} {x i : Operand} (hu : P.underlying t = some .string) (h : SimAt E n ψ s a w)
   (hk : stp P d s K (.is x i)) : DoesV P E n ⟨dst, .index t x i, ty, pos, af, g⟩ a w K := by
 have hx := h.ev x
 have hi := h.ev i
 simp only [stp] at hk
 generalize s.ev x = ax at hx hk
 generalize s.ev i = ai at hi hk
 split at hk
 · rename_i t' k m
   obtain ⟨hm, hk⟩ := hk
   have e1 := b2o hx
   have e2 := b2o hi
   split at hk
   · rename_i b hb
     refine c1D h (v := .int .u8 b.toNat) ?_ hk (c2D rfl)
     exact fun w => by simp [execOp, Instr.index, e1, e2, asIntOf, run_underlying w hu, hm, hb]
   · exact hk.elim
 · exact hk.elim
theorem b9y {t e : TypeId} {x i : Operand} {q : Nat} {dd : TypeDesc} (hu : P.underlying t = some (.array q e)) (hsz : b8N P e = some 1) (hg : b2O P e = false) (hd : P.underlying e = some dd) (h : SimAt E n ψ s a w)
   (hk : stp P d s K (.ix q x i)) : DoesV P E n ⟨dst, .index t x i, ty, pos, af, g⟩ a w K := by
 have hx := h.ev x
 have hi := h.ev i
 simp only [stp] at hk
 generalize s.ev x = ax at hx hk
 generalize s.ev i = ai at hi hk
 split at hk
 · rename_i cs k m
   obtain ⟨hm, hlt, hk⟩ := hk
   obtain ⟨vs, h1, h2, e1⟩ := b6o hx
   have e2 := b2o hi
   split at hk
   · rename_i y hy
     have := (List.getElem?_eq_some_iff.1 hy).1
     refine c1D h ?_ hk (h2 _ y hy)
     intro w
     have hp := b3y (P := P) hd hg (vs := vs) (off := m.toNat) (by omega) w
     simp [execOp, Instr.index, e1, e2, asIntOf, run_underlying w hu, run_sizeOf w hsz, hm, hlt, hp]
   · exact hk.elim
 · exact hk.elim
theorem b0z {x : Operand} {k : IntKind} {m : Int} (hx : a.eval x = .int k m) {y : Nat} (h0 : 0 ≤ m) (h1 : m ≤ y) (code : BoundsCode) (w : World) :
   (Instr.sliceBound (a.eval x) y code).run P w = .ok m.toNat w := by
 simp [Instr.sliceBound, hx, asIntOf, h0, h1]
theorem b1z {x : Operand} {dflt : Nat} {m : Int} (h : SimAt E n ψ s a w) (hb : s.bound dflt (some x) = some m) : ∃ k, a.eval x = .int k m := by
 have hx := h.ev x
 simp only [St.bound] at hb
 generalize s.ev x = ax at hx hb
 split at hb
 · rename_i k q
   cases hb
   exact ⟨k, b2o hx⟩
 · cases hb
theorem b2z {lo hi : Option Operand} {len cap : Nat} {l m : Int} (h : SimAt E n ψ s a w) (hl : s.bound 0 lo = some l) (hh : s.bound len hi = some m) (h0 : 0 ≤ l) (h1 : l ≤ m)
   (h2 : m ≤ len) (h3 : len ≤ cap) (w' : World) : (Instr.sliceBounds true len cap (lo.map a.eval) (hi.map a.eval) none).run P w' = .ok (l.toNat, m.toNat, cap) w' := by
 have hlo : lo = none → l = 0 := by rintro rfl; simpa [St.bound, eq_comm] using hl
 have hhi : hi = none → m = len := by rintro rfl; simpa [St.bound, eq_comm] using hh
 have rl : ∀ x, lo = some x → ∀ y : Nat, l ≤ y → ∀ c, (Instr.sliceBound (a.eval x) y c).run P w' = .ok l.toNat w' := by
   rintro x rfl y hy c
   obtain ⟨k, e⟩ := b1z h hl
   exact b0z e h0 hy c w'
 have rh : ∀ x, hi = some x → ∀ y : Nat, m ≤ y → ∀ c, (Instr.sliceBound (a.eval x) y c).run P w' = .ok m.toNat w' := by
   rintro x rfl y hy c
   obtain ⟨k, e⟩ := b1z h hh
   exact b0z e (by omega) hy c w'
 unfold Instr.sliceBounds
 cases hi with
 | none =>
   have hm := hhi rfl
   have hm' : m.toNat = len := by omega
   cases lo with
   | none => have hl0 := hlo rfl; subst hl0; simp [hm']
   | some x => simp [rl x rfl len (by omega), hm']
 | some y =>
   cases lo with
   | none => have hl0 := hlo rfl; subst hl0; simp [rh y rfl cap (by omega)]
   | some x => simp [rh y rfl cap (by omega), rl x rfl m.toNat (by omega)]
theorem b3z {t e : TypeId} {x : Operand} {lo hi : Option Operand} {sz : Nat} (hu : P.underlying t = some (.slice e)) (hsz : b8N P e = some sz) (h : SimAt E n ψ s a w)
   (hk : stp P d s K (.cut sz x lo hi)) : DoesV P E n ⟨dst, .slice t x lo hi none, ty, pos, af, g⟩ a w K := by
 have hx := h.ev x
 simp only [stp] at hk
 have run : ∀ ad len cap l m, a.eval x = .slice ad len cap → s.bound 0 lo = some l → s.bound len hi = some m → 0 ≤ l → l ≤ m → m ≤ len → len ≤ cap → ∀ w : World,
     (execOp a.eval ⟨dst, .slice t x lo hi none, ty, pos, af, g⟩).run P w =
       .ok (.value (.slice (if cap = l.toNat then ad else ad.map (·.add (l.toNat * sz))) (m.toNat - l.toNat) (cap - l.toNat))) w := by
   intro ad len cap l m e1 hl hm g0 g1 g2 g3 w
   simp only [execOp, Option.map_none, Instr.sliceAt, Instr.slice, e1, Sem.run_bind, run_underlying w hu, Result.andThen_ok, b2z h hl hm g0 g1 g2 g3 w, run_sizeOf w hsz, Sem.run_pure]
 generalize s.ev x = ax at hx hk
 split at hk
 · rename_i sz' xs
   split at hk
   · rename_i l m hl hm
     obtain ⟨rfl, g0, g1, g2, hk⟩ := hk
     rcases b9o hx with ⟨rfl, e1⟩ | ⟨b, off, cap, ad, vs, q1, q2, q3, q4, q5, e1⟩
     · simp only [List.length_nil] at hm g2
       refine c1D h (run _ _ _ _ _ e1 hl hm g0 g1 (by simpa using g2) (Nat.le_refl _)) hk ?_
       have hl0 : l = 0 := by simp at g2; omega
       have hm0 : m = 0 := by simp at g2; omega
       subst hl0; subst hm0
       simp
       exact .iv _ _ (.lnil _)
     · refine c1D h (run _ _ _ _ _ e1 hl hm g0 g1 g2 q3) hk ?_
       have hlen : ((xs.drop l.toNat).take (m - l).toNat).length = m.toNat - l.toNat := by simp; omega
       have key := RIV.lst (A := Im E ψ s.hp) (w := w) sz' ((xs.drop l.toNat).take (m - l).toNat) b (off + l.toNat * sz') (cap - l.toNat)
         (if cap = l.toNat then ad else ad.add (l.toNat * sz')) (fun i j => vs (l.toNat + i) j)
         (fun hne => by
           have h1 : 0 < m.toNat - l.toNat := by
             rcases Nat.eq_zero_or_pos (m.toNat - l.toNat) with h0 | h0
             · exact absurd (List.eq_nil_of_length_eq_zero (by omega)) hne
             · exact h0
           have hne' : xs ≠ [] := by rintro rfl; simp at g2; omega
           rw [if_neg (by omega), q1 hne', c4D])
         (fun y hy => q2 y (List.mem_of_mem_drop (List.mem_of_mem_take hy))) (by omega)
         (fun i j c hij => by
           obtain ⟨p1, p2⟩ := q4 _ _ _ (c2e _ _ _ _ _ _ hij)
           refine ⟨p1, ?_⟩
           rw [← p2, Nat.add_mul]
           congr 2
           omega)
         (fun i j c hij => q5 _ _ _ (c2e _ _ _ _ _ _ hij))
       rw [hlen] at key
       refine .iv _ _ ?_
       have e3 : (if cap = l.toNat then some ad else Option.map (fun x => x.add (l.toNat * sz')) (some ad)) = some (if cap = l.toNat then ad else ad.add (l.toNat * sz')) := by
         split <;> rfl
       rw [e3]
       exact key
   · exact hk.elim
 · rename_i id sz' o len
   split at hk
   · rename_i l m hl hm
     obtain ⟨rfl, g0, g1, g2, hk⟩ := hk
     obtain ⟨xs, xm, q1, he, q2, ⟨p1, rfl, rfl, e1⟩ | ⟨b, c, cap, ad, p1, p2, p3, p4, e1⟩⟩ := b0p hx
     · refine c1D h (run _ _ _ _ _ e1 hl hm g0 g1 (by omega) (Nat.le_refl _)) hk ?_
       have hl0 : l = 0 := by omega
       have hm0 : m = 0 := by omega
       subst hl0; subst hm0
       simp
       exact .sl0 id sz' xs xm q1 he p1
     · refine c1D h (run _ _ _ _ _ e1 hl hm g0 g1 (by omega) p3) hk ?_
       have e3 : (if cap = l.toNat then some ad else Option.map (fun x => x.add (l.toNat * sz')) (some ad)) = some (if cap = l.toNat then ad else ad.add (l.toNat * sz')) := by
         split <;> rfl
       rw [e3, show m.toNat - l.toNat = (m - l).toNat from by omega]
       refine .sl id sz' (o + l.toNat) (m - l).toNat b c (cap - l.toNat) _ xs xm q1 he (by omega) p1 (fun hc => ?_) (by omega) ?_ (by rw [e1] at hx; have := b2p hx; omega)
       · rw [if_neg (by omega), p2 (by omega), c4D, Nat.add_mul, Nat.add_assoc]
       · refine Nat.le_trans ?_ p4
         exact Nat.mul_le_mul_right sz' (by omega)
   · exact hk.elim
 · rename_i sz'
   split at hk
   · rename_i l m hl hm
     obtain ⟨rfl, rfl, hk⟩ := hk
     have e1 := b8o hx
     refine c1D h (run _ _ _ _ _ e1 hl hm (by omega) (by omega) (by omega) (Nat.le_refl _)) hk ?_
     simp
     exact .nil _
   · exact hk.elim
 · exact hk.elim
end
end Go.Vm
end

section
namespace Go.Vm
theorem a5w : ∀ (vs : List Value) (q : List Nat), (b0O vs q).length = vs.length := by
 intro vs
 induction vs with
 | nil => intro q; cases q <;> rfl
 | cons v vs ih => intro q; cases q <;> simp [b0O, ih]
theorem a6w : ∀ (vs : List Value) (q : List Nat) (i : Nat) (x : AV), (b0O vs q)[i]? = some x → ∃ sz, x = zav sz (vs.getD i undef) := by
 intro vs
 induction vs with
 | nil => intro q i x h; cases q <;> simp [b0O] at h
 | cons v vs ih =>
   intro q i x h
   cases q with
   | nil =>
     cases i with
     | zero => simp only [b0O, List.getElem?_cons_zero, Option.some.injEq] at h; exact ⟨0, h.symm⟩
     | succ i => simp only [b0O, List.getElem?_cons_succ] at h; obtain ⟨sz, e⟩ := ih _ _ _ h; exact ⟨sz, by simpa using e⟩
   | cons k q =>
     cases i with
     | zero => simp only [b0O, List.getElem?_cons_zero, Option.some.injEq] at h; exact ⟨k, h.symm⟩
     | succ i => simp only [b0O, List.getElem?_cons_succ] at h; obtain ⟨sz, e⟩ := ih _ _ _ h; exact ⟨sz, by simpa using e⟩
theorem a7w (c : Array Value) (i : Nat) : c.toList.getD i undef = c.getD i undef := by
 simp [List.getD, Array.getD_eq_getD_getElem?]
theorem a8w {A : Nat → Prop} {ψ : Pl} {H : Hp} {w : World} {x : AV} {v : Value} (h : RAV A ψ H w x v) {cs : List AV} (hc : x.cellsOf = some cs) :
   v.cells.size = cs.length ∧ ∀ i c, cs[i]? = some c → RAV A ψ H w c (v.cells.getD i undef) := by
 have one : v.oneCell' = true → cs = [x] → v.cells.size = cs.length ∧ ∀ i c, cs[i]? = some c → RAV A ψ H w c (v.cells.getD i undef) := by
   rintro h1 rfl
   rw [c1C h1]
   refine ⟨rfl, fun i c hi => ?_⟩
   cases i with
   | zero => simp at hi; subst hi; exact h
   | succ i => simp at hi
 cases h with
 | agg cs' vs hl hh => simp only [AV.cellsOf, Option.some.injEq] at hc; subst hc; exact ⟨hl, hh⟩
 | tup => simp [AV.cellsOf] at hc
 | un => simp [AV.cellsOf] at hc
 | junk => simp [AV.cellsOf] at hc
 | iv x v h' => exact one h'.one (by simpa [AV.cellsOf, eq_comm] using hc)
 | nil => exact one rfl (by simpa [AV.cellsOf, eq_comm] using hc)
 | sl0 => exact one rfl (by simpa [AV.cellsOf, eq_comm] using hc)
 | sl => exact one rfl (by simpa [AV.cellsOf, eq_comm] using hc)
 | ptr => exact one rfl (by simpa [AV.cellsOf, eq_comm] using hc)
 | ep => exact one rfl (by simpa [AV.cellsOf, eq_comm] using hc)
 | mpr => exact one rfl (by simpa [AV.cellsOf, eq_comm] using hc)
 | fn => exact one rfl (by simpa [AV.cellsOf, eq_comm] using hc)
theorem a9w (s : St) (id : Nat) : look (s.drop id).hp id = none := by
 unfold St.drop
 split
 · assumption
 · simp only [b7H, if_true]
section
variable {P : Program} {E : En} {n : Nat} {ψ : Pl} {s : St} {a : Act} {w : World}
variable {dst : Option Nat} {ty : TypeId} {pos : String} {af : Array Edge} {g : Option (Nat × Bool)} {r : Rhs} {d : Nat} {K : St → AV → Prop}
theorem a0x (w : World) (o : Obj) : (w.alloc o).heap[w.heap.size]? = some o := by
 show (w.heap.push o)[w.heap.size]? = _
 simp
theorem a1x {o : Op} {x : Operand} (ho : o = .move x ∨ o = .assign x) (h : SimAt E n ψ s a w) (hk : stp P d s K (.mov x)) :
   DoesV P E n ⟨dst, o, ty, pos, af, g⟩ a w K := by
 simp only [stp] at hk
 refine c1D h (v := a.eval x) ?_ hk (h.ev x)
 exact fun w => by rcases ho with rfl | rfl <;> rfl
theorem a2x {o : Op} {sz : Nat} (ho : o = .move (.const (.slice none 0 0)) ∨ o = .assign (.const (.slice none 0 0))) (hd : d < 1000) (h : SimAt E n ψ s a w)
   (hk : stp P d s K (.nils sz)) : Does P E n ⟨dst, o, ty, pos, af, g⟩ a w K := by
 simp only [stp] at hk
 have h1 := h.drop (id := d) hd
 have h2 := h1.new (o := .list sz []) (p := none) hd (a9w s d) (Ext.refl w) (fun _ _ e => by cases e)
   ⟨(fun x hx => by cases hx), .inl ⟨by simp [upd], rfl⟩⟩
 refine c8C (v := .slice none 0 0) ?_ hk h2 ?_
 · rcases ho with rfl | rfl <;> rfl
 · exact .sl0 d sz (.list sz []) 0 (by simp [c4G]) rfl (by simp [upd])
theorem a3x {o : Oper} {cs : List AV} {c : Array Value} {t : TypeId} (hd : d < 1000) (h : SimAt E n ψ s a w) (hlen : c.size = cs.length)
   (hc : ∀ i x, cs[i]? = some x → RAV (Im E ψ (s.drop d).hp) ψ (s.drop d).hp w x (c.getD i undef))
   (hr : (execOp a.eval o).run P w = .ok (.value (.pointer (some ⟨w.heap.size, 0, none⟩))) (w.alloc (.cells c t)))
   (hk : K ((s.drop d).add d (.box cs)) (.ptr d 0)) : Does P E n o a w K := by
 have h1 := h.drop (id := d) hd
 have hno := a9w s d
 have hkeep : ∀ q, c9v ψ (upd ψ d q) (s.drop d).hp ((s.drop d).add d (.box cs)).hp := by
   intro q k ob hk
   have hne : k ≠ d := by rintro rfl; rw [hno] at hk; cases hk
   exact ⟨⟨ob, by rw [c4G, if_neg (Ne.symm hne)]; exact hk, ob.le_refl⟩, by simp [upd, hne]⟩
 have h2 := h1.new (o := .box cs) (p := some (w.heap.size, (0, c.size))) hd hno (Ext.alloc w (.cells c t)) (fun b k e => by cases e; exact Nat.le_refl _)
   ⟨w.heap.size, c, t, by simp [upd], a0x _ _, hlen, fun i x hx =>
     (hc i x hx).mono (fun b hb hi => ⟨hb, hi⟩) (fun b hb _ => (Ext.alloc w (.cells c t)).block b hb) (hkeep _)⟩
 exact c8C hr hk h2 (.ptr d 0 w.heap.size (0, c.size) (.box cs) (by simp [c4G]) (by simp [upd]))
theorem a4x {t : TypeId} {z : List AV} (hz : b1O P t = some z) : ∃ i zv, P.info? t = some i ∧ i.zero = some zv ∧ z = b0O zv.cells.toList (b9N P 20 t) := by
 unfold b1O at hz
 cases hi : P.info? t with
 | none => rw [hi] at hz; cases hz
 | some i =>
   rw [hi] at hz
   cases hv : i.zero with
   | none => simp [hv] at hz
   | some zv => simp [hv] at hz; exact ⟨i, zv, rfl, hv, hz.symm⟩
theorem a5x {t : TypeId} {i : TypeInfo} {zv : Value} (h1 : P.info? t = some i) (h2 : i.zero = some zv) (w : World) : (zeroValue t).run P w = .ok zv w := by
 simp [zeroValue, typeInfo, h1, h2]
theorem a6x {t : TypeId} {z : List AV} (hz : b1O P t = some z) (hd : d < 1000) (h : SimAt E n ψ s a w) (hk : stp P d s K (.alloc z)) :
   Does P E n ⟨dst, .alloc t, ty, pos, af, g⟩ a w K := by
 simp only [stp] at hk
 obtain ⟨i, zv, h1, h2, rfl⟩ := a4x hz
 refine a3x (c := zv.cells) (t := t) hd h (by rw [a5w]; simp) (fun j x hx => ?_) ?_ hk
 · obtain ⟨sz, e⟩ := a6w _ _ _ _ hx
   rw [e, a7w]
   exact c2C _ _
 · simp [execOp, Instr.alloc, a5x h1 h2, newVar, newRow]
theorem a7x {t : TypeId} {x : Operand} (hd : d < 1000) (h : SimAt E n ψ s a w) (hk : stp P d s K (.box x)) :
   Does P E n ⟨dst, .box t x, ty, pos, af, g⟩ a w K := by
 simp only [stp] at hk
 have hx := (h.drop (id := d) hd).ev x
 split at hk
 · rename_i cs hcs
   obtain ⟨g1, g2⟩ := a8w hx hcs
   refine a3x (c := (a.eval x).cells) (t := t) hd h g1 g2 ?_ hk
   simp [execOp, Instr.box, newVar, newRow]
 · exact hk.elim
theorem a8x {mx : Bool} : ∀ (l : List AV) (vs : List Value) (k : IntKind) (m : Int) {k' : IntKind} {m' : Int} {A : Nat → Prop} {H : Hp},
   vs.length = l.length → (∀ i x, l[i]? = some x → RAV A ψ H w x (vs.getD i undef)) → b7Q mx k m l = some (k', m') →
   (vs.foldlM (if mx then Builtin.max2 else Builtin.min2) (.int k m) : Sem Value).run P w = .ok (.int k' m') w := by
 intro l
 induction l with
 | nil =>
   intro vs k m k' m' A H hl _ he
   cases vs with
   | nil => simp only [b7Q, Option.some.injEq, Prod.mk.injEq] at he; obtain ⟨rfl, rfl⟩ := he; rfl
   | cons => simp at hl
 | cons x l ih =>
   intro vs k m k' m' A H hl hv he
   cases vs with
   | nil => simp at hl
   | cons v vs =>
     unfold b7Q at he
     split at he
     · cases he_1 : (v :: vs)[0]? <;> simp_all
     · rename_i k2 m2 r heq
       cases heq
       have h0 := hv 0 _ rfl
       have hv0 : v = .int k2 m2 := by simpa using b2o h0
       subst hv0
       rw [List.foldlM_cons]
       have e : ((if mx then Builtin.max2 else Builtin.min2) (.int k m) (.int k2 m2) : Sem Value).run P w = .ok (.int k (if mx then max m m2 else min m m2)) w := by
         cases mx
         · simp only [Bool.false_eq_true, if_false, Builtin.min2, Sem.run_pure]
           congr 2; rw [Int.min_def]; split <;> split <;> omega
         · simp only [if_true, Builtin.max2, Sem.run_pure]
           congr 2; rw [Int.max_def]; split <;> split <;> omega
       rw [Sem.run_bind, e]
       simp only [Result.andThen_ok]
       exact ih vs k _ (by simpa using hl) (fun i y hy => by simpa using hv (i + 1) y (by simpa using hy)) he
     · cases he
theorem a9x {w : World} {xs : Array Operand} {ts : Array TypeId} {v : Value} {mx : Bool}
   (hv : (if mx then Builtin.max_ ts ty (xs.map a.eval) else Builtin.min_ ts ty (xs.map a.eval)).run P w = .ok v w) :
   (execOp a.eval ⟨dst, .call ⟨.builtin (if mx then .max else .min), xs, ts⟩, ty, pos, af, g⟩).run P w = .ok (.value v) w := by
 cases mx <;> simp only [execOp, resolve, Sem.run_bind, Sem.run_pure, Result.andThen_ok, invoke, builtin, Bool.false_eq_true, if_false, if_true] at hv ⊢ <;> rw [hv] <;> rfl
theorem a0y {xs : Array Operand} {ts : Array TypeId} {mx : Bool} (h : SimAt E n ψ s a w) (hk : stp P d s K (.mm mx xs.toList)) :
   Does P E n ⟨dst, .call ⟨.builtin (if mx then .max else .min), xs, ts⟩, ty, pos, af, g⟩ a w K := by
 simp only [stp] at hk
 split at hk
 · rename_i k m he
   refine c0D h (v := .int k m) (a9x ?_) hk (c2D rfl)
   cases hxs : xs.toList with
   | nil => rw [hxs] at he; simp [b8Q] at he
   | cons x r =>
     rw [hxs, List.map_cons] at he
     unfold b8Q at he
     split at he
     · rename_i k0 n0 r0 heq
       simp only [List.cons.injEq] at heq
       obtain ⟨h0, hr⟩ := heq
       have hx := h.ev x
       rw [h0] at hx
       have e0 := b2o hx
       have e1 : (xs.map a.eval).toList = .int k0 n0 :: r.map a.eval := by rw [Array.toList_map, hxs, List.map_cons, e0]
       subst hr
       have key := a8x (P := P) (r.map s.ev) (r.map a.eval) k0 n0 (by simp) (fun i y hy => by
         rw [List.getElem?_map] at hy
         cases hri : r[i]? with
         | none => rw [hri] at hy; cases hy
         | some z => rw [hri] at hy; cases hy; simp only [List.getD, List.getElem?_map, hri, Option.map_some, Option.getD_some]; exact h.ev z) he
       cases mx
       · simp only [Bool.false_eq_true, if_false] at key ⊢
         unfold Builtin.min_
         rw [e1]
         exact key
       · simp only [if_true] at key ⊢
         unfold Builtin.max_
         rw [e1]
         exact key
     · cases he
 · exact hk.elim
theorem a1y {xs : List Operand} {l : List CapV} (h : SimAt E n ψ s a w) (hm : (xs.map s.ev).mapM AV.cap = some l) :
   l.length = xs.length ∧ ∀ i c, l[i]? = some c → RCap (Im E ψ s.hp) ψ s.hp w c ((xs.map a.eval).getD i undef) := by
 induction xs generalizing l with
 | nil => simp at hm; subst hm; exact ⟨rfl, by simp⟩
 | cons x xs ih =>
   simp only [List.map_cons, List.mapM_cons, Option.bind_eq_bind] at hm
   cases hc : (s.ev x).cap with
   | none => rw [hc] at hm; cases hm
   | some c0 =>
     rw [hc] at hm
     cases hr : (xs.map s.ev).mapM AV.cap with
     | none => rw [hr] at hm; cases hm
     | some l0 =>
       rw [hr] at hm
       simp at hm
       subst hm
       obtain ⟨g1, g2⟩ := ih hr
       refine ⟨by simp [g1], fun i c hi => ?_⟩
       cases i with
       | zero =>
         simp at hi; subst hi
         simp only [List.map_cons, List.getD_cons_zero]
         have hx := h.ev x
         generalize s.ev x = ax at hx hc
         generalize a.eval x = vx at hx
         cases hx with
         | ptr id off b k o ho hb => simp [AV.cap] at hc; subst hc; exact .ptr id off b k o ho hb
         | iv y v hy => simp [AV.cap] at hc; subst hc; exact .val _ _ hy
         | nil sz => simp [AV.cap] at hc; subst hc; exact .val _ _ (.lnil _)
         | _ => simp [AV.cap] at hc
       | succ i => simp only [List.getElem?_cons_succ] at hi; simpa using g2 i c hi
theorem a2y {f : FuncId} {first caps : Array Operand} (h : SimAt E n ψ s a w) (hk : stp P d s K (.mkfn f first.toList caps.toList)) :
   DoesV P E n ⟨dst, .makeFunc (.func f) first caps, ty, pos, af, g⟩ a w K := by
 simp only [stp] at hk
 split at hk
 · rename_i l1 l2 e1 e2
   obtain ⟨a1, a2⟩ := a1y h e1
   obtain ⟨b1, b2⟩ := a1y h e2
   refine c1D h (v := .func (.func f) (first.map a.eval) (caps.map a.eval)) (fun w => by simp [execOp, Instr.makeFunc]) hk ?_
   refine .fn f l1 l2 _ _ (by simp [a1]) (by simp [b1]) (fun i c hi => ?_) (fun i c hi => ?_)
   · rw [← a7w, Array.toList_map]; exact a2 i c hi
   · rw [← a7w, Array.toList_map]; exact b2 i c hi
 · exact hk.elim
end
end Go.Vm
end

section
namespace Go.Vm
def putA (c : Array Value) (off : Nat) (vs : List Value) : Array Value := (vs.zipIdx.foldl (fun cs (x, j) => cs.setIfInBounds (off + j) x) c)
theorem a7r (off : Nat) : ∀ (vs : List Value) (k : Nat) (c : Array Value),
   ((vs.zipIdx k).foldl (fun cs (x, j) => cs.setIfInBounds (off + j) x) c).size = c.size ∧
   ∀ q, q < c.size → ((vs.zipIdx k).foldl (fun cs (x, j) => cs.setIfInBounds (off + j) x) c).getD q undef = if off + k ≤ q ∧ q < off + k + vs.length then vs.getD (q - (off + k)) undef else c.getD q undef := by
 intro vs
 induction vs with
 | nil => intro k c; refine ⟨rfl, fun q hq => ?_⟩; simp; intro h1 h2; omega
 | cons v vs ih =>
   intro k c
   simp only [List.zipIdx_cons, List.foldl_cons]
   obtain ⟨h1, h2⟩ := ih (k + 1) (c.setIfInBounds (off + k) v)
   refine ⟨by rw [h1]; simp, fun q hq => ?_⟩
   rw [h2 q (by simpa using hq)]
   by_cases e : q = off + k
   · subst e
     rw [if_neg (by omega), if_pos (by simp)]
     simp [Array.getD_eq_getD_getElem?, hq]
   · by_cases hin : off + k ≤ q ∧ q < off + k + (v :: vs).length
     · rw [if_pos (by simp at hin ⊢; omega), if_pos hin]
       rw [show q - (off + k) = (q - (off + (k + 1))) + 1 from by omega, List.getD_cons_succ]
     · rw [if_neg (by simp at hin ⊢; omega), if_neg hin]
       simp only [Array.getD_eq_getD_getElem?]
       rw [Array.getElem?_setIfInBounds_ne (Ne.symm e)]
theorem a8r (c : Array Value) (off : Nat) (vs : List Value) : (putA c off vs).size = c.size := (a7r off vs 0 c).1
theorem a9r (c : Array Value) (off : Nat) (vs : List Value) (q : Nat) (hq : q < c.size) :
   (putA c off vs).getD q undef = if off ≤ q ∧ q < off + vs.length then vs.getD (q - off) undef else c.getD q undef := by
 have := (a7r off vs 0 c).2 q hq
 simpa [putA] using this
theorem a0s {α : Type} (z : List α) (off : Nat) (cs : List α) (h : off + cs.length ≤ z.length) : (b0Q z off cs).length = z.length := by
 simp [b0Q]; omega
theorem a1s {α : Type} (z : List α) (off : Nat) (cs : List α) (h : off + cs.length ≤ z.length) (i : Nat) :
   (b0Q z off cs)[i]? = if off ≤ i ∧ i < off + cs.length then cs[i - off]? else z[i]? := by
 unfold b0Q
 rw [List.append_assoc]
 by_cases h1 : i < off
 · rw [List.getElem?_append_left (by simp; omega), if_neg (by omega), List.getElem?_take, if_pos h1]
 · rw [List.getElem?_append_right (by simp; omega)]
   have e : (z.take off).length = off := by simp; omega
   rw [e]
   by_cases h2 : i < off + cs.length
   · rw [List.getElem?_append_left (by omega), if_pos (by omega)]
   · rw [List.getElem?_append_right (by omega), if_neg (by omega), List.getElem?_drop]
     congr 1; omega
section
variable {A : Nat → Prop} {ψ : Pl} {H : Hp} {w : World}
theorem a2s {z : List AV} {c : Array Value} {off : Nat} {cs : List AV} {vs : List Value} (hz : c.size = z.length) (h1 : ∀ i x, z[i]? = some x → RAV A ψ H w x (c.getD i undef))
   (hl : vs.length = cs.length) (h2 : ∀ i x, cs[i]? = some x → RAV A ψ H w x (vs.getD i undef)) (hin : off + cs.length ≤ z.length) :
   ∀ i x, (b0Q z off cs)[i]? = some x → RAV A ψ H w x ((putA c off vs).getD i undef) := by
 intro i x hx
 have hi : i < z.length := by rw [← a0s z off cs hin]; exact (List.getElem?_eq_some_iff.1 hx).1
 rw [a1s z off cs hin] at hx
 rw [a9r c off vs i (by omega), hl]
 split at hx
 · rename_i h; rw [if_pos h]; exact h2 _ _ hx
 · rename_i h; rw [if_neg h]; exact h1 _ _ hx
end
section
variable {P : Program} {E : En} {n : Nat} {ψ : Pl} {s : St} {a : Act} {w : World}
variable {dst : Option Nat} {ty : TypeId} {pos : String} {af : Array Edge} {g : Option (Nat × Bool)} {r : Rhs} {d : Nat} {K : St → AV → Prop}
theorem a3s (h : SimAt E n ψ s a w) (b5A : Nat → Option (Nat × Nat)) : ∀ (l : List (Nat × Operand)) (l' : List (Nat × Nat × Operand)) (z z' : List AV) (c : Array Value),
   (l'.map (·.2.2) = l.map (·.2)) → (∀ k : Nat, (l'[k]?).map (fun (p : Nat × Nat × Operand) => (p.1, p.2.1)) = (l[k]?).bind fun (p : Nat × Operand) => b5A p.1) → c.size = z.length → (∀ i x, z[i]? = some x → RAV (Im E ψ s.hp) ψ s.hp w x (c.getD i undef)) →
   b7K s z l' = some z' → ∃ c', Instr.fill b5A c (l.map fun p => (p.1, a.eval p.2)) = some c' ∧ c'.size = z'.length ∧ ∀ i x, z'[i]? = some x → RAV (Im E ψ s.hp) ψ s.hp w x (c'.getD i undef) := by
 intro l
 induction l with
 | nil =>
   intro l' z z' c hm hp hz hr hf
   cases l' with
   | nil => simp only [b7K, Option.some.injEq] at hf; subst hf; exact ⟨c, rfl, hz, hr⟩
   | cons => simp at hm
 | cons p l ih =>
   intro l' z z' c hm hp hz hr hf
   cases l' with
   | nil => simp at hm
   | cons p' l' =>
     obtain ⟨i, x⟩ := p
     obtain ⟨off, q, x'⟩ := p'
     simp only [List.map_cons, List.cons.injEq] at hm
     obtain ⟨rfl, hm⟩ := hm
     have h0 := hp 0
     simp only [List.getElem?_cons_zero, Option.map_some, Option.bind_some] at h0
     simp only [b7K] at hf
     split at hf
     · rename_i cs hcs
       split at hf
       · rename_i hc
         obtain ⟨g1, g2⟩ := a8w (h.ev x') hcs
         have hlen : (a.eval x').cells.toList.length = cs.length := by simpa using g1
         obtain ⟨c', e1, e2, e3⟩ := ih l' (b0Q z off cs) z' (putA c off (a.eval x').cells.toList) hm (fun k => by simpa using hp (k + 1))
           (by rw [a8r, a0s _ _ _ (by omega)]; exact hz)
           (a2s hz hr hlen (fun i y hy => by rw [a7w]; exact g2 i y hy) (by omega)) hf
         refine ⟨c', ?_, e2, e3⟩
         simp only [List.map_cons, Instr.fill, ← h0]
         rw [if_neg (by simp; omega)]
         rw [← e1]
         congr 1
         unfold putA
         rw [← Array.foldl_toList]
         simp [Array.toList_zipIdx]
       · cases hf
     · cases hf
theorem a4s (fs : Array Field) {β : Type} (f : Field → Sem β) (q : Field → β) (w : World) (h : ∀ x ∈ fs, (f x).run P w = .ok (q x) w) : (fs.mapM f).run P w = .ok (fs.map q) w := by
 rw [Array.mapM_eq_mapM_toList]
 rw [Sem.run_map]
 have key : ∀ l : List Field, (∀ x ∈ l, (f x).run P w = .ok (q x) w) → (l.mapM f).run P w = .ok (l.map q) w := by
   intro l
   induction l with
   | nil => intro _; rfl
   | cons x l ih =>
     intro hl
     rw [List.mapM_cons, Sem.run_bind, hl x (by simp)]
     simp only [Result.andThen_ok, Sem.run_bind]
     rw [ih fun y hy => hl y (by simp [hy])]
     rfl
 rw [key fs.toList fun x hx => h x (by simpa using hx)]
 simp only [Result.andThen_ok]
 congr 1
 apply Array.ext'
 simp
theorem a5s {t : TypeId} {parts : Array (Nat × Operand)} {fs : Array Field} {z : List AV} {l : List (Nat × Nat × Operand)} (hu : P.underlying t = some (.struct fs))
   (hz : b1O P t = some z) (hall : ∀ f ∈ fs, (b8N P f.type).isSome = true)
   (hl : (parts.toList.mapM fun (p : Nat × Operand) => do let f ← fs[p.1]?; let q ← b8N P f.type; pure (f.offset, q, p.2)) = some l)
   (h : SimAt E n ψ s a w) (hk : stp P d s K (.build z l)) : DoesV P E n ⟨dst, .build t parts, ty, pos, af, g⟩ a w K := by
 simp only [stp] at hk
 obtain ⟨i, zv, h1, h2, rfl⟩ := a4x hz
 split at hk
 · rename_i cs hcs
   let b5A : Nat → Option (Nat × Nat) := ((fs.map fun f => (f.offset, (b8N P f.type).getD 0))[·]?)
   have hpl : ∀ (L : List (Nat × Operand)) (l : List (Nat × Nat × Operand)), (L.mapM fun (p : Nat × Operand) => do let f ← fs[p.1]?; let q ← b8N P f.type; pure (f.offset, q, p.2)) = some l →
       (l.map (·.2.2) = L.map (·.2)) ∧ ∀ k : Nat, (l[k]?).map (fun (p : Nat × Nat × Operand) => (p.1, p.2.1)) = (L[k]?).bind fun (p : Nat × Operand) => b5A p.1 := by
     intro L
     induction L with
     | nil => intro l hl; simp at hl; subst hl; exact ⟨rfl, by simp⟩
     | cons p L ih =>
       intro l hl
       rw [List.mapM_cons] at hl
       cases hf : fs[p.1]? with
       | none => simp [hf] at hl
       | some f =>
         cases hq : b8N P f.type with
         | none => simp [hf, hq] at hl
         | some q =>
           cases hr : (L.mapM fun (p : Nat × Operand) => do let f ← fs[p.1]?; let q ← b8N P f.type; pure (f.offset, q, p.2)) with
           | none => simp only [hf, hq, Option.bind_eq_bind, Option.bind_some] at hl hr; rw [hr] at hl; simp at hl
           | some l0 =>
             simp only [hf, hq, Option.bind_eq_bind, Option.bind_some] at hl hr
             rw [hr] at hl
             simp at hl
             subst hl
             obtain ⟨g1, g2⟩ := ih l0 (by simpa using hr)
             refine ⟨by simp [g1], fun k => ?_⟩
             cases k with
             | zero => simp [b5A, hf, hq]
             | succ k => simpa using g2 k
   obtain ⟨p1, p2⟩ := hpl _ _ hl
   obtain ⟨c', e1, e2, e3⟩ := a3s h b5A parts.toList l _ cs zv.cells p1 p2 (by rw [a5w]; simp) (fun j x hx => by
     obtain ⟨sz, e⟩ := a6w _ _ _ _ hx
     rw [e, a7w]
     exact c2C _ _) hcs
   refine c1D h (v := .agg c') (fun w => ?_) hk (.agg _ _ e2 e3)
   have hm := a4s (P := P) fs (fun f => do pure (f.offset, ← sizeOf f.type)) (fun f => (f.offset, (b8N P f.type).getD 0)) w (fun f hf => by
     have := hall f hf
     cases hq : b8N P f.type with
     | none => rw [hq] at this; cases this
     | some q => simp [run_sizeOf w hq])
   have hp2 : (parts.map fun (i, x) => (i, a.eval x)).toList = parts.toList.map fun p => (p.1, a.eval p.2) := by simp
   simp only [execOp, Instr.build, Sem.run_bind, a5x h1 h2, Result.andThen_ok, run_underlying w hu, hm, hp2]
   have e1' : Instr.fill (fun x => (Array.map (fun f => (f.offset, (b8N P f.type).getD 0)) fs)[x]?) zv.cells (parts.toList.map fun p => (p.1, a.eval p.2)) = some c' := e1
   simp only [e1', Sem.run_pure, Result.andThen_ok]
 · exact hk.elim
theorem a6s {t e : TypeId} {len q : Nat} {parts : Array (Nat × Operand)} {z : List AV} (hu : P.underlying t = some (.array len e))
   (hq : b8N P e = some q) (hz : b1O P t = some z)
   (h : SimAt E n ψ s a w) (hk : stp P d s K (.build z (parts.toList.map fun p => (p.1 * q, q, p.2)))) : DoesV P E n ⟨dst, .build t parts, ty, pos, af, g⟩ a w K := by
 simp only [stp] at hk
 obtain ⟨i, zv, h1, h2, rfl⟩ := a4x hz
 split at hk
 · rename_i cs hcs
   obtain ⟨c', e1, e2, e3⟩ := a3s h (fun i => some (i * q, q)) parts.toList _ _ cs zv.cells (by simp [Function.comp_def]) (fun k => by simp [Function.comp_def]; cases parts[k]? <;> rfl) (by rw [a5w]; simp) (fun j x hx => by
     obtain ⟨sz, e⟩ := a6w _ _ _ _ hx
     rw [e, a7w]
     exact c2C _ _) hcs
   refine c1D h (v := .agg c') (fun w => ?_) hk (.agg _ _ e2 e3)
   have hp2 : (parts.map fun (i, x) => (i, a.eval x)).toList = parts.toList.map fun p => (p.1, a.eval p.2) := by simp
   simp only [execOp, Instr.build, Sem.run_bind, a5x h1 h2, Result.andThen_ok, run_underlying w hu, run_sizeOf w hq, hp2]
   simp only [e1, Sem.run_pure, Result.andThen_ok]
 · exact hk.elim
theorem a7s (b o : Nat) : ∀ (vs : List Value) (i : Nat) (w : World) (c : Array Value) (e : TypeId), w.heap[b]? = some (.cells c e (0, 0)) → (∀ v ∈ vs, v.oneCell' = true) → o + i + vs.length ≤ c.size →
   ∃ w', (storeCells ⟨b, o, none⟩ vs i).run P w = .ok () w' ∧ (∀ j, j ≠ b → w'.heap[j]? = w.heap[j]?) ∧ w'.heap.size = w.heap.size ∧ (w'.os = w.os ∧ w'.tape = w.tape ∧ w'.output = w.output ∧ w.drawn ≤ w'.drawn) ∧
     w'.heap[b]? = some (.cells (((vs.zipIdx i).foldl (fun cs (x, j) => cs.setIfInBounds (o + j) x) c)) e (0, 0)) := by
 intro vs
 induction vs with
 | nil => intro i w c e hb _ _; exact ⟨w, rfl, fun _ _ => rfl, rfl, ⟨rfl, rfl, rfl, Nat.le_refl _⟩, hb⟩
 | cons v vs ih =>
   intro i w c e hb hv hl
   have hv1 := hv v (by simp)
   have hlt : o + i < c.size := by simp at hl; omega
   have hcell : w.cell? ⟨b, o + i, none⟩ = some (c.getD (o + i) undef) := c6e hb hlt
   have hfz : w.frozen? ⟨b, o + i, none⟩ = false := by simp [World.frozen?, hb]
   obtain ⟨w', r1, r2, r3, r4, r5⟩ := ih (i + 1) (w.setCell ⟨b, o + i, none⟩ v) (c.setIfInBounds (o + i) v) e (c8G w b (o + i) v hb) (fun x hx => hv x (by simp [hx])) (by simp at hl ⊢; omega)
   refine ⟨w', ?_, fun j hj => (r2 j hj).trans (c7G w _ v j hj), by rw [r3]; simp [World.setCell], r4, ?_⟩
   · simp only [storeCells, Sem.run_bind, c4D, run_store P w _ _ _ hv1, hcell, hfz]
     exact r1
   · simpa [List.zipIdx_cons] using r5
theorem a8s {z : List AV} {vs : List Value} {A : Nat → Prop} {H : Hp} (hl : vs.length = z.length) (h : ∀ i x, z[i]? = some x → RAV A ψ H w x (vs.getD i undef)) (ho : z.all AV.one = true) :
   ∀ v ∈ vs, v.oneCell' = true := by
 intro v hv
 obtain ⟨i, hi, rfl⟩ := List.getElem_of_mem hv
 have hz : z[i]? = some z[i] := List.getElem?_eq_getElem (by omega)
 have := h i _ hz
 rw [show vs.getD i undef = vs[i] from by simp [List.getD, hi]] at this
 exact this.one (List.all_eq_true.1 ho _ (List.mem_of_getElem? hz))
theorem a9s (h : SimAt E n ψ s a w) {cs : List AV} {vs : List Value} (hl : vs.length = cs.length) (hc : ∀ i x, cs[i]? = some x → RAV (Im E ψ s.hp) ψ s.hp w x (vs.getD i undef))
   {l : List IV} (hm : cs.mapM AV.iv? = some l) : l.length = cs.length ∧ ∀ i x, l[i]? = some x → RIV (Im E ψ s.hp) w x (vs.getD i undef) := by
 induction cs generalizing vs l with
 | nil => simp at hm; subst hm; exact ⟨rfl, by simp⟩
 | cons x cs ih =>
   cases vs with
   | nil => simp at hl
   | cons v vs =>
     simp only [List.mapM_cons, Option.bind_eq_bind] at hm
     cases hx : x.iv? with
     | none => rw [hx] at hm; cases hm
     | some y =>
       rw [hx] at hm
       cases hr : cs.mapM AV.iv? with
       | none => rw [hr] at hm; cases hm
       | some l0 =>
         rw [hr] at hm
         simp at hm
         subst hm
         obtain ⟨g1, g2⟩ := ih (by simpa using hl) (fun i z hz => by simpa using hc (i + 1) z (by simpa using hz)) hr
         refine ⟨by simp [g1], fun i z hz => ?_⟩
         cases i with
         | zero =>
           simp at hz; subst hz
           have h0 := hc 0 x rfl
           simp only [List.getD_cons_zero] at h0 ⊢
           cases x with
           | iv q => simp [AV.iv?] at hx; subst hx; cases h0 with | iv _ _ h => exact h
           | nil sz => simp [AV.iv?] at hx; subst hx; rw [b8o h0]; exact .lnil _
           | _ => simp [AV.iv?] at hx
         | succ i => simp only [List.getElem?_cons_succ] at hz; simpa using g2 i z hz
end
end Go.Vm
end

section
namespace Go.Vm
section
variable {P : Program} {E : En} {n : Nat} {ψ : Pl} {s : St} {a : Act} {w : World}
variable {dst : Option Nat} {ty : TypeId} {pos : String} {af : Array Edge} {g : Option (Nat × Bool)} {r : Rhs} {d : Nat} {K : St → AV → Prop}
theorem SimAt.frz (h : SimAt E n ψ s a w) (xs : List AV) : SimAt E n ψ (s.frz xs) a w := by
 unfold St.frz
 generalize xs.flatMap AV.ids = l
 induction l generalizing s with
 | nil => exact h
 | cons i l ih =>
   simp only [List.foldl_cons]
   split
   · rename_i hi; exact ih (h.drop hi)
   · exact ih h
theorem c1E (h : SimAt E n ψ s a w) (sz : Nat) : ∀ (L : List (Nat × Operand)) (i N : Nat) (c : Array Value) (xs : List (List IV)),
   L.map (·.1) = List.range' i L.length → c.size = N * sz → i + L.length ≤ N → litA s sz L = some xs →
   ∃ c', Instr.fill (fun k => some (k * sz, sz)) c (L.map fun p => (p.1, a.eval p.2)) = some c' ∧ c'.size = c.size ∧ (∀ q, q < i * sz → c'.getD q undef = c.getD q undef) ∧
     xs.length = L.length ∧ (∀ x ∈ xs, x.length = sz) ∧ ∀ k j x, at2 xs k j = some x → RIV (Im E ψ s.hp) w x (c'.getD ((i + k) * sz + j) undef) := by
 intro L
 induction L with
 | nil =>
   intro i N c xs _ hc _ hl
   simp only [litA, Option.some.injEq] at hl; subst hl
   exact ⟨c, rfl, rfl, fun _ _ => rfl, rfl, by simp, by simp [at2]⟩
 | cons p L ih =>
   intro i N c xs hi hc hN hl
   obtain ⟨k, x⟩ := p
   simp only [List.map_cons, List.length_cons, List.range'_succ, List.cons.injEq] at hi
   obtain ⟨rfl, hi⟩ := hi
   simp only [litA] at hl
   split at hl
   · rename_i q hq
     split at hl
     · rename_i hqs
       cases hcs : (s.ev x).cellsOf with
       | none => rw [hcs] at hq; cases hq
       | some cs =>
         rw [hcs] at hq
         simp only [Option.bind_some] at hq
         cases hr : litA s sz L with
         | none => rw [hr] at hl; cases hl
         | some xs0 =>
           rw [hr] at hl
           simp only [Option.map_some, Option.some.injEq] at hl
           subst hl
           obtain ⟨g1, g2⟩ := a8w (h.ev x) hcs
           have hlen : (a.eval x).cells.toList.length = cs.length := by simpa using g1
           obtain ⟨v1, v2⟩ := a9s h hlen (fun j y hy => by rw [a7w]; exact g2 j y hy) hq
           simp only [List.length_cons] at hN
           have hm : (k + 1) * sz ≤ N * sz := Nat.mul_le_mul_right sz (by omega)
           have e2 : (k + 1) * sz = k * sz + sz := by rw [Nat.add_mul]; omega
           have hsz : (a.eval x).cells.size = sz := by omega
           obtain ⟨c', f1, f2, f3, f4, f5, f6⟩ := ih (k + 1) N (putA c (k * sz) (a.eval x).cells.toList) xs0 hi (by rw [a8r]; exact hc) (by omega) hr
           refine ⟨c', ?_, by rw [f2, a8r], fun j hj => ?_, by simp [f4], ?_, ?_⟩
           · simp only [List.map_cons, Instr.fill]
             rw [if_neg (by simp; omega)]
             rw [← f1]
             congr 1
             unfold putA
             rw [← Array.foldl_toList]
             simp [Array.toList_zipIdx]
           · rw [f3 j (by omega), a9r _ _ _ _ (by omega), if_neg (by omega)]
           · intro y hy
             rcases List.mem_cons.1 hy with rfl | hy
             · exact hqs
             · exact f5 y hy
           · intro i' j y hy
             cases i' with
             | zero =>
               simp only [at2, List.getElem?_cons_zero, Option.bind_some] at hy
               have hj : j < sz := by rw [← hqs]; exact (List.getElem?_eq_some_iff.1 hy).1
               rw [Nat.add_zero, f3 _ (by omega), a9r _ _ _ _ (by omega), if_pos ⟨by omega, by simp; omega⟩]
               rw [show k * sz + j - k * sz = j from by omega]
               exact v2 j y hy
             | succ i' =>
               have := f6 i' j y (by simpa [at2] using hy)
               rw [show k + (i' + 1) = k + 1 + i' from by omega]
               exact this
     · cases hl
   · cases hl
theorem c2E {o : Oper} {sz : Nat} {xs : List (List IV)} {c : Array Value} {t : TypeId} {cap : Nat} (hd : d < 1000) (h : SimAt E n ψ s a w) (hno : look s.hp d = none)
   (hs : ∀ x ∈ xs, x.length = sz) (hlen : xs.length * sz ≤ c.size) (hcap : xs.length ≤ cap) (hcap2 : cap * sz ≤ c.size) (hcm : cap < 2 ^ 63)
   (hc : ∀ i j x, at2 xs i j = some x → RIV (Im E ψ s.hp) w x (c.getD (i * sz + j) undef)) {w1 : World} (hx : Ext w w1)
   (hr : (execOp a.eval o).run P w = .ok (.value (.slice (some ⟨w1.heap.size, 0, none⟩) xs.length cap)) (w1.alloc (.cells c t)))
   (hk : K (s.add d (.list sz xs)) (.sl d sz 0 xs.length)) : Does P E n o a w K := by
 have hx2 : Ext w (w1.alloc (.cells c t)) := hx.trans (Ext.alloc _ _)
 have h2 := h.new (o := .list sz xs) (p := some (w1.heap.size, (0, c.size))) hd hno hx2 (fun b k e => by cases e; exact hx.size)
   ⟨hs, .inr ⟨w1.heap.size, (0, c.size), c, t, by simp [upd], a0x _ _, by simp, hlen, fun i j x hx' => by rw [Nat.zero_add]; exact (hc i j x hx').mono (fun b hb hi => ⟨hb, hi⟩) (fun b hb _ => hx2.block b hb)⟩⟩
 refine c8C hr hk h2 (.sl d sz 0 xs.length w1.heap.size (0, c.size) cap _ (.list sz xs) xs.length (by simp [c4G]) rfl (by omega) (by simp [upd]) (fun _ => by simp) hcap (by simpa using hcap2) hcm)
theorem c3E {t e : TypeId} {len sz : Nat} {parts : Array (Nat × Operand)} (hu : P.underlying t = some (.slice e)) (hsz : b8N P e = some sz) (hp1 : parts.size = len)
   (hp2 : parts.toList.map (·.1) = List.range len) (hp3 : 0 < sz) (hp4 : len * sz ≤ 2 ^ 24) {z : List AV} (hz : b1O P e = some z) (hd : d < 1000) (h : SimAt E n ψ s a w)
   (hk : stp P d s K (.lit sz len parts.toList)) : Does P E n ⟨dst, .buildSlice t len parts, ty, pos, af, g⟩ a w K := by
 simp only [stp] at hk
 split at hk
 · rename_i xs hxs
   have h1 := (h.frz (parts.toList.map fun p => s.ev p.2)).drop (id := d) hd
   obtain ⟨i, zv, z1, z2, _⟩ := a4x hz
   have hL : parts.toList.length = len := by simpa using hp1
   let zero : Array Value := if len * sz = 0 then #[] else zv.cells
   let c0 : Array Value := (Array.range (len * sz)).map (zero[· % zero.size]!)
   obtain ⟨c', f1, f2, f3, f4, f5, f6⟩ := c1E h1 sz parts.toList 0 len c0 xs (by rw [hp2, hL, List.range_eq_range']) (by simp [c0]) (by omega) hxs
   have hx : xs.length = len := by omega
   have hcs : c'.size = len * sz := by rw [f2]; simp [c0]
   have hp : (parts.map fun (i, x) => (i, a.eval x)).toList = parts.toList.map fun p => (p.1, a.eval p.2) := by simp
   have hz0 : (if len * sz = 0 then (pure #[] : Sem (Array Value)) else do pure (← zeroValue e).cells).run P w = .ok zero w := by
     by_cases h0 : len * sz = 0
     · simp [zero, h0]
     · simp only [zero, if_neg h0, Sem.run_bind, a5x z1 z2, Result.andThen_ok, Sem.run_pure]
   refine c2E (c := c') (t := e) (cap := len) hd h1 (a9w _ _) f5 (by rw [hx, hcs]; exact Nat.le_refl _) (by omega) (by omega) (by have h9 : len * 1 ≤ len * sz := Nat.mul_le_mul_left _ hp3; omega) (fun i j x hij => by simpa using f6 i j x hij) (Ext.refl w) ?_ (by rw [hx]; exact hk)
   rw [hx]
   have f1' : Instr.fill (fun i => some (i * sz, sz)) ((Array.range (len * sz)).map (zero[· % zero.size]!)) (parts.toList.map fun p => (p.1, a.eval p.2)) = some c' := f1
   simp only [execOp, Instr.buildSlice, Sem.run_bind, run_underlying w hu, Result.andThen_ok, run_sizeOf w hsz, if_neg (show ¬ len * sz > 2 ^ 24 by omega), hp]
   by_cases h0 : len * sz = 0
   · have e0 : zero = #[] := if_pos h0
     rw [e0] at f1'
     simp only [if_pos h0, Sem.run_bind, Sem.run_pure, Result.andThen_ok, f1', newRow, run_newObj]
     rfl
   · have e0 : zero = zv.cells := if_neg h0
     rw [e0] at f1'
     simp only [if_neg h0, Sem.run_bind, a5x z1 z2, Sem.run_pure, Result.andThen_ok, f1', newRow, run_newObj]
     rfl
 · exact hk.elim
end
end Go.Vm
end

section
namespace Go.Vm
section
variable {P : Program} {E : En} {n : Nat} {ψ : Pl} {s : St} {a : Act} {w : World}
variable {dst : Option Nat} {ty : TypeId} {pos : String} {af : Array Edge} {g : Option (Nat × Bool)} {r : Rhs} {d : Nat} {K : St → AV → Prop}
theorem SimAt.renew (h : SimAt E n ψ s a w) {id : Nat} (hid : id < 1000) {o o' : Ob} (hold : look s.hp id = some o) (horg : o'.org id = o.org id) {p : Option (Nat × (Nat × Nat))} {w' : World}
   (hw : ∀ b, b < w.heap.size → (∀ k, ψ id ≠ some (b, k)) → w'.heap[b]? = w.heap[b]?) (hsz : w.heap.size ≤ w'.heap.size) (hs : w'.os = w.os ∧ w'.tape = w.tape ∧ w'.output = w.output ∧ w.drawn ≤ w'.drawn)
   (hp : ∀ b k, p = some (b, k) → w.heap.size ≤ b ∨ ∃ k0, ψ id = some (b, k0))
   (ho : ROb (fun b => b < w.heap.size ∧ Im E ψ s.hp b) (upd ψ id p) ((s.lone id).add id o').hp w' id o') :
   SimAt E n (upd ψ id p) ((s.lone id).add id o') a w' := by
 have hlt : ∀ {k o b}, look s.hp k = some o → Owns ψ k b → b < w.heap.size := fun hk hb => h.lt hk hb
 have hlk : ∀ k, look ((s.lone id).add id o').hp k = if id = k then some o' else (look s.hp k).map (Ob.mapc (AV.kc (· == id))) := by
   intro k; rw [c4G, c3G]
 have back : ∀ {k ob}, look ((s.lone id).add id o').hp k = some ob → (id = k ∧ ob = o') ∨ (id ≠ k ∧ ∃ o1, look s.hp k = some o1 ∧ ob = o1.mapc (AV.kc (· == id))) := by
   intro k ob hk
   rw [hlk] at hk
   by_cases e : id = k
   · rw [if_pos e] at hk; exact .inl ⟨e, by simpa using hk.symm⟩
   · rw [if_neg e] at hk
     cases ho : look s.hp k with
     | none => rw [ho] at hk; cases hk
     | some o1 => rw [ho] at hk; exact .inr ⟨e, o1, rfl, by simpa using hk.symm⟩
 have hpo : ∀ {b}, Owns (upd ψ id p) id b → w.heap.size ≤ b ∨ Owns ψ id b := by
   intro b hb
   obtain ⟨q, hb⟩ := c5G _ _ hb
   rcases hp b q hb with h4 | ⟨k0, h4⟩
   · exact .inl h4
   · exact .inr (.inl ⟨k0, h4⟩)
 have hI : ∀ b, b < w.heap.size → Im E ψ s.hp b → Im E (upd ψ id p) ((s.lone id).add id o').hp b := by
   rintro b hb ⟨h1, h2⟩
   refine ⟨h1, ?_⟩
   rintro ⟨k, ob, hk, hq⟩
   rcases back hk with ⟨rfl, _⟩ | ⟨hne, o1, h3, _⟩
   · rcases hpo hq with h4 | h4
     · omega
     · exact h2 ⟨id, o, hold, h4⟩
   · exact h2 ⟨k, o1, h3, (c6G p (Ne.symm hne)).1 hq⟩
 have hw' : ∀ b, b < w.heap.size → Im E ψ s.hp b → w'.heap[b]? = w.heap[b]? := fun b hb hi => hw b hb fun k e => hi.2 ⟨id, o, hold, .inl ⟨k, e⟩⟩
 have hk : b9H (· == id) ψ (upd ψ id p) s.hp ((s.lone id).add id o').hp := by
   intro k ob hk hko
   have hne : id ≠ k := by intro e; simp [e] at hk
   refine ⟨⟨_, by rw [hlk, if_neg hne, hko]; rfl, Ob.le_mapc _ ob⟩, by simp [upd, Ne.symm hne]⟩
 have hf := b0I (p := (· == id)) hI hw' hk
 refine { size := h.size, defers := h.defers.mono hI hw', frame := fun x => ?_, obs := ?_, inj := ?_, own := ?_, subs := ?_, par := ?_, old := ?_, grow := ?_, same := ?_ }
 · have e : ((s.lone id).add id o').get x = (s.get x).mapc (AV.kc (· == id)) := St.get_mapc _ rfl x
   rw [e]
   exact (h.frame x).mapc hf (fun _ => rfl) (fun _ => rfl)
 · intro k ob hko
   rcases back hko with ⟨rfl, rfl⟩ | ⟨hne, o1, h3, rfl⟩
   · exact ho.mono (fun b _ hb => hI b hb.1 hb.2) (fun _ _ _ => rfl) (c9v.refl _ _) ⟨rfl, fun _ h => h⟩ (fun _ _ => rfl)
   · have hψ : upd ψ id p k = ψ k := by simp [upd, Ne.symm hne]
     have hblk : ∀ b, Owns ψ k b → w'.heap[b]? = w.heap[b]? := fun b hb => hw b (hlt h3 hb) fun q' e => hne (h.inj id k o o1 b hold h3 (.inl ⟨q', e⟩) hb)
     cases o1 with
     | box cs =>
       obtain ⟨b, c, e, g1, g2, g3, g4⟩ := h.obs k _ h3
       refine ⟨b, c, e, by rw [hψ]; exact g1, by rw [hblk b (.inl ⟨_, g1⟩)]; exact g2, by simpa using g3, fun i x hx => ?_⟩
       rw [List.getElem?_map] at hx
       cases hci : cs[i]? with
       | none => rw [hci] at hx; cases hx
       | some c0 =>
         rw [hci] at hx; cases hx
         have h6 := g4 i c0 hci
         cases c0 with
         | agg l => exact .junk _
         | tup l => exact .junk _
         | _ => exact hf _ _ h6 (by simp) (by simp)
     | gh Z vs cs =>
       obtain ⟨g1, g2, g3, g4⟩ := h.obs k _ h3
       refine ⟨by rw [hψ]; exact g1, g2.mono hI (fun b hb => ⟨Ne.symm hne, hb⟩) hw' (fun b hb => hblk b (.inr hb)), by simpa using g3, fun i x hx => ?_⟩
       rw [List.getElem?_map] at hx
       cases hci : cs[i]? with
       | none => rw [hci] at hx; cases hx
       | some c0 => rw [hci] at hx; cases hx; exact (g4 i c0 hci).mapc hf (fun _ => rfl) (fun _ => rfl)
     | _ => exact (h.obs k _ h3).move (by constructor <;> (intros; intro e; cases e)) hI hw' ⟨hψ, fun b hb => ⟨Ne.symm hne, hb⟩⟩ hblk
 · intro i i' o1 o2 b hi hi' hb hb'
   rcases back hi with ⟨rfl, _⟩ | ⟨e1, r1, g1, _⟩ <;> rcases back hi' with ⟨e2, _⟩ | ⟨e2, r2, g2, _⟩
   · exact e2
   · have hb' := (c6G p (Ne.symm e2)).1 hb'
     rcases hpo hb with h4 | h4
     · have := hlt g2 hb'; omega
     · exact h.inj id i' o r2 b hold g2 h4 hb'
   · subst e2
     have hb := (c6G p (Ne.symm e1)).1 hb
     rcases hpo hb' with h4 | h4
     · have := hlt g1 hb; omega
     · exact h.inj i id r1 o b g1 hold hb h4
   · exact h.inj i i' r1 r2 b g1 g2 ((c6G p (Ne.symm e1)).1 hb) ((c6G p (Ne.symm e2)).1 hb')
 · intro i o1 b hi hb
   rcases back hi with ⟨rfl, rfl⟩ | ⟨e1, r1, g1, rfl⟩
   · rcases hpo hb with h4 | h4
     · exact .inr (.inr (Nat.le_trans h.grow h4))
     · rw [horg]; exact h.own id o b hold h4
   · rw [Ob.org_mapc]
     exact h.own i r1 b g1 ((c6G p (Ne.symm e1)).1 hb)
 · intro i o1 b hi hb
   rcases back hi with ⟨rfl, _⟩ | ⟨e1, r1, g1, rfl⟩
   · exact absurd rfl hb.1
   · obtain ⟨q1, q2, q3⟩ := h.subs i r1 b g1 hb.2
     rw [Ob.multi_mapc]
     exact ⟨q1, Nat.lt_of_lt_of_le q2 hsz, fun k => by simp only [upd, if_neg hb.1]; exact q3 k⟩
 · intro i hi
   have : i ≠ id := by have := E.big i hi; omega
   simp only [upd, if_neg this]
   exact h.par i hi
 · intro b hb hm
   rw [hw b (Nat.lt_of_lt_of_le hb h.grow) ?_]
   · exact h.old b hb hm
   · intro k e
     rcases h.own id o b hold (.inl ⟨k, e⟩) with ⟨h1, h2⟩ | h1
     · exact hm (.inl ⟨_, h1, h2⟩)
     · exact E.no hb hm h1
 · exact Nat.le_trans h.grow hsz
 · exact ⟨hs.1.trans h.same.1, hs.2.1.trans h.same.2.1, hs.2.2.1.trans h.same.2.2.1, Nat.le_trans h.same.2.2.2 hs.2.2.2⟩
theorem b7g {w2 : World} (sz k : Nat) (b o cap : Nat) (vs : List Value) (hl : vs.length = k * sz) (h : ∀ q, q < k * sz → w2.cell? ⟨b, o + q, none⟩ = vs[q]?) (m : Nat) :
   (Builtin.firstCells sz k (.slice (some ⟨b, o, none⟩) m cap)).run P w2 = .ok vs.toArray w2 := by
 simp only [Builtin.firstCells, ← hl]
 exact c6D w2 b o vs (fun j hj => h j (by omega))
theorem b8g {xs : List (List IV)} {sz : Nat} (hs : ∀ x ∈ xs, x.length = sz) {q : Nat} (hq : q < xs.length * sz) : ∃ x, at2 xs (q / sz) (q % sz) = some x := by
 have hpos : 0 < sz := by rcases Nat.eq_zero_or_pos sz with h | h; · rw [h] at hq; omega
                          · exact h
 have h1 : q / sz < xs.length := Nat.div_lt_of_lt_mul (by rw [Nat.mul_comm]; exact hq)
 have hr : xs[q / sz]? = some xs[q / sz] := List.getElem?_eq_getElem h1
 have h2 : q % sz < xs[q / sz].length := by rw [hs _ (List.getElem_mem h1)]; exact Nat.mod_lt _ hpos
 exact ⟨_, c4e hr (List.getElem?_eq_getElem h2)⟩
theorem b9g (h : SimAt E n ψ s a w) {x : AV} {v : Value} (hx : RAV (Im E ψ s.hp) ψ s.hp w x v) {sz sz2 : Nat} {ys : List (List IV)} (he : s.elems x = some (sz2, ys)) (hz : sz2 = sz ∨ ys = []) :
   ∃ vs : List Value, vs.length = ys.length * sz ∧ (∀ w2 : World, w2.heap = w.heap → (Builtin.firstCells sz ys.length v).run P w2 = .ok vs.toArray w2) ∧ (∀ y ∈ ys, y.length = sz) ∧
     (∀ i j y, at2 ys i j = some y → RIV (Im E ψ s.hp) w y (vs.getD (i * sz + j) undef)) ∧ (∀ u ∈ vs, u.oneCell' = true) ∧ ∃ ad cap, v = .slice ad ys.length cap := by
 have build : ∀ (b o cap m : Nat) (f : Nat → Value), v = .slice (some ⟨b, o, none⟩) m cap → m = ys.length → (∀ y ∈ ys, y.length = sz) → (∀ q, q < ys.length * sz → w.cell? ⟨b, o + q, none⟩ = some (f q)) →
     (∀ i j y, at2 ys i j = some y → RIV (Im E ψ s.hp) w y (f (i * sz + j))) →
     ∃ vs : List Value, vs.length = ys.length * sz ∧ (∀ w2 : World, w2.heap = w.heap → (Builtin.firstCells sz ys.length v).run P w2 = .ok vs.toArray w2) ∧ (∀ y ∈ ys, y.length = sz) ∧
     (∀ i j y, at2 ys i j = some y → RIV (Im E ψ s.hp) w y (vs.getD (i * sz + j) undef)) ∧ (∀ u ∈ vs, u.oneCell' = true) ∧ ∃ ad cap, v = .slice ad ys.length cap := by
   intro b o cap m f hv hm hs hc hr
   subst hm
   have hlt : ∀ {i j y}, at2 ys i j = some y → i * sz + j < ys.length * sz := by
     intro i j y hy
     obtain ⟨r, h1, h2⟩ := c3e hy
     have h3 := (List.getElem?_eq_some_iff.1 h1).1
     have h4 : j < sz := by rw [← hs r (List.mem_of_getElem? h1)]; exact (List.getElem?_eq_some_iff.1 h2).1
     have h5 : (i + 1) * sz ≤ ys.length * sz := Nat.mul_le_mul_right sz (by omega)
     have h6 : (i + 1) * sz = i * sz + sz := by rw [Nat.add_mul]; omega
     omega
   refine ⟨(List.range (ys.length * sz)).map f, by simp, fun w2 hw2 => ?_, hs, fun i j y hy => ?_, fun u hu => ?_, _, _, hv⟩
   · rw [hv]
     refine b7g sz ys.length b o cap _ (by simp) (fun q hq => ?_) _
     have : w2.cell? ⟨b, o + q, none⟩ = w.cell? ⟨b, o + q, none⟩ := by simp only [World.cell?, hw2]
     rw [this, hc q hq]
     simp [hq]
   · rw [show ((List.range (ys.length * sz)).map f).getD (i * sz + j) undef = f (i * sz + j) from by simp [List.getD, hlt hy]]
     exact hr i j y hy
   · obtain ⟨q, hq, rfl⟩ := List.mem_map.1 hu
     have hq : q < ys.length * sz := by simpa using hq
     obtain ⟨y, hy⟩ := b8g hs hq
     have := hr _ _ _ hy
     rw [Nat.mul_comm, Nat.div_add_mod] at this
     exact this.one
 have empty : ys = [] → (∃ ad cap, v = .slice ad 0 cap) → ∃ vs : List Value, vs.length = ys.length * sz ∧ (∀ w2 : World, w2.heap = w.heap → (Builtin.firstCells sz ys.length v).run P w2 = .ok vs.toArray w2) ∧ (∀ y ∈ ys, y.length = sz) ∧
     (∀ i j y, at2 ys i j = some y → RIV (Im E ψ s.hp) w y (vs.getD (i * sz + j) undef)) ∧ (∀ u ∈ vs, u.oneCell' = true) ∧ ∃ ad cap, v = .slice ad ys.length cap := by
   rintro rfl ⟨ad, cap, rfl⟩
   refine ⟨[], by simp, fun w2 _ => ?_, by simp, by simp [at2], by simp, ad, cap, rfl⟩
   cases ad <;> simp [Builtin.firstCells, loadCells, loadCellsFrom]
 unfold St.elems at he
 split at he
 · rename_i sz' xs
   cases he
   rcases b9o hx with ⟨rfl, hv⟩ | ⟨b, off, cap, ad, vs, g1, g2, g3, g4, g5, hv⟩
   · exact empty rfl ⟨none, 0, hv⟩
   · by_cases hne : ys = []
     · exact empty hne ⟨some ad, cap, by rw [hv, hne]; rfl⟩
     · have hz' : sz2 = sz := hz.resolve_right hne
       subst hz'
       have g1 := g1 hne
       subst g1
       refine build b off cap ys.length (fun q => vs (q / sz2) (q % sz2)) hv rfl g2 (fun q hq => ?_) (fun i j y hy => ?_)
       · obtain ⟨y, hy⟩ := b8g g2 hq
         have := (g4 _ _ _ hy).2
         rw [Nat.mul_comm, Nat.div_add_mod] at this
         exact this
       · have hj : j < sz2 := by
           obtain ⟨r, h1, h2⟩ := c3e hy
           rw [← g2 r (List.mem_of_getElem? h1)]; exact (List.getElem?_eq_some_iff.1 h2).1
         have e1 : (i * sz2 + j) / sz2 = i := by rw [Nat.mul_comm, Nat.mul_add_div (by omega), Nat.div_eq_of_lt hj, Nat.add_zero]
         have e2 : (i * sz2 + j) % sz2 = j := by rw [Nat.mul_comm, Nat.mul_add_mod, Nat.mod_eq_of_lt hj]
         simp only [e1, e2]
         exact g5 i j y hy
 · rename_i sz'
   cases he
   exact empty rfl ⟨none, 0, b8o hx⟩
 · rename_i id sz' lo m
   split at he
   · rename_i o ho
     split at he
     · rename_i z0 xs hels
       cases he
       obtain ⟨o', xm, q1, q1', q2, hcase⟩ := b0p hx
       rw [ho] at q1; cases q1
       have hd := b5P hels
       rw [q1'] at hd
       simp only [Option.some.injEq, Prod.mk.injEq] at hd
       obtain ⟨hd1, hd2⟩ := hd
       subst hd1; subst hd2
       rcases hcase with ⟨p1, rfl, rfl, hv⟩ | ⟨b, k, cap, ad, p1, p2, p3, p4, hv⟩
       · exact empty (by simp) ⟨none, 0, hv⟩
       · have hlen : ((xs.drop lo).take m).length = m := by simp; omega
         by_cases hm : m = 0
         · subst hm; exact empty (by simp) ⟨some ad, cap, hv⟩
         · have hz' := hz.resolve_right (by intro e; rw [e] at hlen; simp at hlen; omega)
           subst hz'
           have p2 := p2 (by omega)
           subst p2
           obtain ⟨h0, h5⟩ := b3P hels (h.obs id _ ho)
           rcases h5 with ⟨h1, _⟩ | ⟨b', k', c, e, h1, h2, h3', h3, h4⟩
           · rw [h1] at p1; cases p1
           rw [h1] at p1; cases p1
           refine build b (k.1 + lo * sz2) cap m (fun q => c.getD (k.1 + (lo * sz2 + q)) undef) hv hlen.symm (fun y hy => h0 y (List.mem_of_mem_drop (List.mem_of_mem_take hy))) (fun q hq => ?_) (fun i j y hy => ?_)
           · rw [hlen] at hq
             have hm2 : (lo + m) * sz2 ≤ xs.length * sz2 := Nat.mul_le_mul_right sz2 q2
             have : (lo + m) * sz2 = lo * sz2 + m * sz2 := Nat.add_mul _ _ _
             rw [Nat.add_assoc]
             exact c6e h2 (by omega)
           · have := h4 _ _ _ (c2e _ _ _ _ _ _ hy)
             rw [Nat.add_mul, Nat.add_assoc] at this
             exact this
     · cases he
   · cases he
 · cases he
end
end Go.Vm
end
