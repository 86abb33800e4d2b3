/- An abstract machine beside the model (first part): values, states, operations, what a call does. Conditions: those of each theorem. -/
import Derived.Calls
import Derived.Laws.World
import Derived.Laws.Sem
import Derived.RangeFuncLeaves
import Derived.RangeFuncRecord
import Derived.OrdersIn
import Derived.TacticsIn
import Derived.LoopIn

set_option linter.unusedVariables false
set_option linter.unusedSimpArgs false

/- Values of an abstract machine beside the model's, and when a model's value stands for one. No program in sight. -/
section
namespace Go.Vm
inductive Kd where
  | b
  | i (k : IntKind)
  | s
  deriving DecidableEq, Inhabited
def kdOf : Value → Option Kd
  | .bool _ => some .b
  | .int k _ => some (.i k)
  | .string _ => some .s
  | _ => none
abbrev Sk := Bool × List Kd × Bool
def skOf : Value → Option (Bool × List Kd)
  | .agg cs => (cs.toList.mapM kdOf).map fun l => (true, l)
  | v => (kdOf v).map fun k => (false, [k])
inductive IV where
  | v (x : Value)
  | lst (sz : Nat) (xs : List (List IV))
  | pt (cs : List IV)
  | mp (sk : Sk) (g : List Value → Option (List IV))
  deriving Inhabited
def at2 {α : Type} (xs : List (List α)) (i j : Nat) : Option α := xs[i]?.bind (·[j]?)
def keyOf (v : Value) : List Value := v.cells.toList
def isAggV : Value → Bool
  | .agg _ => true
  | _ => false
def Fits (sk : Sk) (e : MapEntry) : Prop := skOf e.key = some (sk.1, sk.2.1) ∧ isAggV e.val = sk.2.2
def Born (es : Array MapEntry) (clock : Nat) : Prop := (∀ e ∈ es.toList, e.born < clock) ∧ (es.toList.map (·.born)).Nodup
inductive RIV (A : Nat → Prop) (w : World) : IV → Value → Prop
  | v (x : Value) (h1 : x.oneCell' = true) : RIV A w (.v x) x
  | lnil (sz : Nat) : RIV A w (.lst sz []) (.slice none 0 0)
  | lst (sz : Nat) (xs : List (List IV)) (b off cap : Nat) (a : Addr) (vs : Nat → Nat → Value)
      (ha : xs ≠ [] → a = ⟨b, off, none⟩) (hs : ∀ x ∈ xs, x.length = sz) (hcap : xs.length ≤ cap)
      (hc : ∀ i j c, at2 xs i j = some c → A b ∧ w.cell? ⟨b, off + (i * sz + j), none⟩ = some (vs i j))
      (hr : ∀ i j c, at2 xs i j = some c → RIV A w c (vs i j)) : RIV A w (.lst sz xs) (.slice (some a) xs.length cap)
  | pt (cs : List IV) (b off : Nat) (vs : Nat → Value)
      (hc : ∀ i c, cs[i]? = some c → A b ∧ w.cell? ⟨b, off + i, none⟩ = some (vs i))
      (hr : ∀ i c, cs[i]? = some c → RIV A w c (vs i)) : RIV A w (.pt cs) (.pointer (some ⟨b, off, none⟩))
  | mp (sk : Sk) (g : List Value → Option (List IV)) (b clock : Nat) (es : Array MapEntry) (vs : List Value → Nat → Value)
      (hA : A b) (hh : w.heap[b]? = some (.map es clock))
      (hsk : ∀ e ∈ es.toList, Fits sk e)
      (hin : ∀ e ∈ es.toList, ∃ c, g (keyOf e.key) = some c)
      (hno : (es.toList.map fun e => keyOf e.key).Nodup) (hst : Born es clock)
      (hg : ∀ k c, g k = some c → ∃ e ∈ es.toList, keyOf e.key = k ∧ e.val.cells.size = c.length ∧ ∀ i x, c[i]? = some x → e.val.cells[i]? = some (vs k i))
      (hr : ∀ k c, g k = some c → ∀ i x, c[i]? = some x → RIV A w x (vs k i)) : RIV A w (.mp sk g) (.map (some b))
  | mnil (sk : Sk) (g : List Value → Option (List IV)) (h : ∀ k, g k = none) : RIV A w (.mp sk g) (.map none)
theorem heap_lt {w : World} {b : Nat} {o : Obj} (h : w.heap[b]? = some o) : b < w.heap.size := by
  rcases Nat.lt_or_ge b w.heap.size with h' | h'
  · exact h'
  · rw [Array.getElem?_eq_none h'] at h; cases h
theorem cell_congr {w w' : World} {b : Nat} (h : w'.heap[b]? = w.heap[b]?) (o : Nat) : w'.cell? ⟨b, o, none⟩ = w.cell? ⟨b, o, none⟩ := by
  simp only [World.cell?, h]
theorem RIV.mono {A A' : Nat → Prop} {w w' : World} {x : IV} {v : Value} (h : RIV A w x v)
    (hA : ∀ b, b < w.heap.size → A b → A' b) (hw : ∀ b, b < w.heap.size → A b → w'.heap[b]? = w.heap[b]?) : RIV A' w' x v := by
  induction h with
  | v x h1 => exact .v x h1
  | lnil sz => exact .lnil sz
  | lst sz xs b off cap a vs ha hs hcap hc hr ih =>
    refine .lst sz xs b off cap a vs ha hs hcap (fun i j c h => ?_) ih
    obtain ⟨h1, h2⟩ := hc i j c h
    have hb := World.block_lt_of_cell? w _ h2
    exact ⟨hA b hb h1, by rw [cell_congr (hw b hb h1)]; exact h2⟩
  | pt cs b off vs hc hr ih =>
    refine .pt cs b off vs (fun i c h => ?_) ih
    obtain ⟨h1, h2⟩ := hc i c h
    have hb := World.block_lt_of_cell? w _ h2
    exact ⟨hA b hb h1, by rw [cell_congr (hw b hb h1)]; exact h2⟩
  | mp sk g b clock es vs hA' hh hsk hin hno hst hg hr ih =>
    have hb := heap_lt hh
    exact .mp sk g b clock es vs (hA b hb hA') (by rw [hw b hb hA']; exact hh) hsk hin hno hst hg ih
  | mnil sk g h => exact .mnil sk g h
inductive CapV where
  | ptr (id off : Nat)
  | val (x : IV)
  deriving Inhabited
inductive AV where
  | iv (x : IV)
  | nil (sz : Nat)
  | sl (id sz lo len : Nat)
  | ptr (id off : Nat)
  | ep (id sz i off : Nat)
  | mpr (id : Nat)
  | fn (f : FuncId) (first caps : List CapV)
  | agg (cs : List AV)
  | tup (vs : List AV)
  | un
  | junk
  deriving Inhabited
abbrev GZ := (Nat → Prop) → (Nat → Prop) → World → Prop
inductive Ob where
  | box (cs : List AV)
  | list (sz : Nat) (xs : List (List IV))
  | map (sk : Sk) (g : List Value → Option (List IV))
  | mapS (sk : Sk) (g : List Value → Option (List IV)) (n : Int) (k : List Value)
  | lent (org sz : Nat) (xs : List (List IV))
  | mapo (sk : Sk) (sz : Nat) (g : List Value → Option (List (List IV))) (hole : Option (List Value))
  | listo (sz : Nat) (xs : List (List (List IV))) (hole : Option Nat)
  | iter (sk : Sk) (g : List Value → Option (List IV)) (left : List (List Value)) (last : Option (List Value))
  | gh (Z : GZ) (vs : List Value) (cs : List AV)
def Ob.dim : Ob → Option (Nat × Nat)
  | .list sz xs => some (sz, xs.length)
  | .lent _ sz xs => some (sz, xs.length)
  | .listo _ xs _ => some (1, xs.length)
  | _ => none
def Ob.org : Ob → Nat → Nat
  | .lent org _ _, _ => org
  | _, id => id
def Ob.isLent : Ob → Bool
  | .lent .. => true
  | _ => false
def Ob.multi : Ob → Bool
  | .mapo .. => true
  | .listo .. => true
  | .gh .. => true
  | _ => false
abbrev Hp := List (Nat × Ob)
def look {α : Type} : List (Nat × α) → Nat → Option α
  | [], _ => none
  | (j, x) :: r, k => if j = k then some x else look r k
structure Pl where
  main : Nat → Option (Nat × (Nat × Nat))
  sub : Nat → Nat → Prop
instance : CoeFun Pl (fun _ => Nat → Option (Nat × (Nat × Nat))) := ⟨Pl.main⟩
inductive RCap (A : Nat → Prop) (ψ : Pl) (H : Hp) (w : World) : CapV → Value → Prop
  | ptr (id off b : Nat) (k : Nat × Nat) (o : Ob) (ho : look H id = some o) (hb : ψ id = some (b, k)) : RCap A ψ H w (.ptr id off) (.pointer (some ⟨b, off, none⟩))
  | val (x : IV) (v : Value) (h1 : RIV A w x v) : RCap A ψ H w (.val x) v
inductive RAV (A : Nat → Prop) (ψ : Pl) (H : Hp) (w : World) : AV → Value → Prop
  | iv (x : IV) (v : Value) (h : RIV A w x v) : RAV A ψ H w (.iv x) v
  | nil (sz : Nat) : RAV A ψ H w (.nil sz) (.slice none 0 0)
  | sl0 (id sz : Nat) (o : Ob) (n : Nat) (ho : look H id = some o) (he : o.dim = some (sz, n)) (hb : ψ id = none) : RAV A ψ H w (.sl id sz 0 0) (.slice none 0 0)
  | sl (id sz lo len b : Nat) (k : Nat × Nat) (cap : Nat) (a : Addr) (o : Ob) (n : Nat) (ho : look H id = some o) (he : o.dim = some (sz, n)) (hx : lo + len ≤ n)
      (hb : ψ id = some (b, k)) (ha : 0 < cap → a = ⟨b, k.1 + lo * sz, none⟩) (hlc : len ≤ cap) (hk : (lo + cap) * sz ≤ k.2) (hm : cap < 2 ^ 63) :
      RAV A ψ H w (.sl id sz lo len) (.slice (some a) len cap)
  | ptr (id off b : Nat) (k : Nat × Nat) (o : Ob) (ho : look H id = some o) (hb : ψ id = some (b, k)) : RAV A ψ H w (.ptr id off) (.pointer (some ⟨b, off, none⟩))
  | ep (id sz i off b : Nat) (k : Nat × Nat) (o : Ob) (n : Nat) (ho : look H id = some o) (he : o.dim = some (sz, n)) (hi : i < n) (hb : ψ id = some (b, k)) :
      RAV A ψ H w (.ep id sz i off) (.pointer (some ⟨b, k.1 + (i * sz + off), none⟩))
  | mpr (id b : Nat) (k : Nat × Nat) (o : Ob) (ho : look H id = some o) (hb : ψ id = some (b, k)) : RAV A ψ H w (.mpr id) (.map (some b))
  | fn (f : FuncId) (first caps : List CapV) (vf vc : Array Value) (hf : vf.size = first.length) (hc : vc.size = caps.length)
      (h1 : ∀ i c, first[i]? = some c → RCap A ψ H w c (vf.getD i undef)) (h2 : ∀ i c, caps[i]? = some c → RCap A ψ H w c (vc.getD i undef)) :
      RAV A ψ H w (.fn f first caps) (.func (.func f) vf vc)
  | agg (cs : List AV) (vs : Array Value) (hl : vs.size = cs.length) (h : ∀ i c, cs[i]? = some c → RAV A ψ H w c (vs.getD i undef)) : RAV A ψ H w (.agg cs) (.agg vs)
  | tup (cs : List AV) (vs : Array Value) (hl : vs.size = cs.length) (h : ∀ i c, cs[i]? = some c → RAV A ψ H w c (vs.getD i undef)) : RAV A ψ H w (.tup cs) (.tuple vs)
  | un : RAV A ψ H w .un undef
  | junk (v : Value) : RAV A ψ H w .junk v
def Ob.le (o o' : Ob) : Prop := ∀ sz n, o.dim = some (sz, n) → ∃ n', o'.dim = some (sz, n') ∧ n ≤ n'
theorem Ob.le_refl (o : Ob) : o.le o := fun _ n h => ⟨n, h, Nat.le_refl _⟩
theorem Ob.le_none {o o' : Ob} (h : o.dim = none) : o.le o' := fun _ _ h' => by rw [h] at h'; cases h'
theorem Ob.le_of {o o' : Ob} {sz n n' : Nat} (h : o.dim = some (sz, n)) (h' : o'.dim = some (sz, n')) (hn : n ≤ n') : o.le o' := fun _ _ e => by
  rw [h] at e; cases e; exact ⟨n', h', hn⟩
def Keeps (ψ ψ' : Pl) (H H' : Hp) : Prop := ∀ id o, look H id = some o → (∃ o', look H' id = some o' ∧ o.le o') ∧ ψ' id = ψ id
theorem Keeps.refl (ψ : Pl) (H : Hp) : Keeps ψ ψ H H := fun _ o h => ⟨⟨o, h, o.le_refl⟩, rfl⟩
theorem Keeps.dim {ψ ψ' : Pl} {H H' : Hp} (h : Keeps ψ ψ' H H') {id sz n : Nat} {o : Ob} (ho : look H id = some o) (he : o.dim = some (sz, n)) :
    ∃ o' n', look H' id = some o' ∧ o'.dim = some (sz, n') ∧ n ≤ n' := by
  obtain ⟨⟨o', h1, h2⟩, _⟩ := h id _ ho
  obtain ⟨n', h3, h4⟩ := h2 sz n he
  exact ⟨o', n', h1, h3, h4⟩
theorem RCap.mono {A A' : Nat → Prop} {ψ ψ' : Pl} {H H' : Hp} {w w' : World} {c : CapV} {v : Value} (h : RCap A ψ H w c v)
    (hA : ∀ b, b < w.heap.size → A b → A' b) (hw : ∀ b, b < w.heap.size → A b → w'.heap[b]? = w.heap[b]?) (hk : Keeps ψ ψ' H H') : RCap A' ψ' H' w' c v := by
  cases h with
  | ptr id off b k o ho hb =>
    obtain ⟨⟨o', h1, _⟩, h2⟩ := hk id o ho
    exact .ptr id off b k o' h1 (by rw [h2]; exact hb)
  | val x v h1 => exact .val x v (h1.mono hA hw)
theorem RAV.mono {A A' : Nat → Prop} {ψ ψ' : Pl} {H H' : Hp} {w w' : World} {x : AV} {v : Value} (h : RAV A ψ H w x v)
    (hA : ∀ b, b < w.heap.size → A b → A' b) (hw : ∀ b, b < w.heap.size → A b → w'.heap[b]? = w.heap[b]?) (hk : Keeps ψ ψ' H H') : RAV A' ψ' H' w' x v := by
  induction h with
  | iv x v h => exact .iv x v (h.mono hA hw)
  | nil sz => exact .nil sz
  | sl0 id sz o n ho he hb =>
    obtain ⟨o', n', h1, h2, h3⟩ := hk.dim ho he
    exact .sl0 id sz o' n' h1 h2 (by rw [(hk id _ ho).2]; exact hb)
  | sl id sz lo len b k cap a o n ho he hx hb ha hlc hk' hm =>
    obtain ⟨o', n', h1, h2, h3⟩ := hk.dim ho he
    exact .sl id sz lo len b k cap a o' n' h1 h2 (Nat.le_trans hx h3) (by rw [(hk id _ ho).2]; exact hb) ha hlc hk' hm
  | ptr id off b k o ho hb =>
    obtain ⟨⟨o', h1, _⟩, h2⟩ := hk id o ho
    exact .ptr id off b k o' h1 (by rw [h2]; exact hb)
  | ep id sz i off b k o n ho he hi hb =>
    obtain ⟨o', n', h1, h2, h3⟩ := hk.dim ho he
    exact .ep id sz i off b k o' n' h1 h2 (Nat.lt_of_lt_of_le hi h3) (by rw [(hk id _ ho).2]; exact hb)
  | mpr id b k o ho hb =>
    obtain ⟨⟨o', h1, _⟩, h2⟩ := hk id o ho
    exact .mpr id b k o' h1 (by rw [h2]; exact hb)
  | fn f first caps vf vc hf hc h1 h2 =>
    exact .fn f first caps vf vc hf hc (fun i c h => (h1 i c h).mono hA hw hk) (fun i c h => (h2 i c h).mono hA hw hk)
  | agg cs vs hl _ ih => exact .agg cs vs hl ih
  | tup cs vs hl _ ih => exact .tup cs vs hl ih
  | un => exact .un
  | junk v => exact .junk v
end Go.Vm
end

/- The state of the abstract machine, when a frame and a world stand for one, and what keeps that. No program in sight. -/
section
namespace Go.Vm
structure St where
  fr : List (Nat × AV)
  hp : Hp
def St.get (s : St) (t : Nat) : AV := (look s.fr t).getD .junk
def St.set (s : St) (d : Nat) (x : AV) : St := { s with fr := (d, x) :: s.fr }
def St.put (s : St) (d : Option Nat) (x : AV) : St := match d with | some d => s.set d x | none => s
theorem St.get_set (s : St) (d t : Nat) (x : AV) : (s.set d x).get t = if d = t then x else s.get t := by
  simp only [St.get, St.set, look]; split <;> rfl
def Owns (ψ : Pl) (id b : Nat) : Prop := (∃ k, ψ id = some (b, k)) ∨ ψ.sub id b
structure En where
  A : Nat → Prop
  w : World
  ids : List Nat
  ψ : Pl
  big : ∀ id ∈ ids, 1000 ≤ id
  disj : ∀ b id, id ∈ ids → Owns ψ id b → ¬ A b
  there : ∀ id b, id ∈ ids → Owns ψ id b → b < w.heap.size
  inA : ∀ b, A b → b < w.heap.size
  pool : Nat → Prop
  poolW : ∀ b, pool b → b < w.heap.size
  poolA : ∀ b, pool b → ¬ A b
  poolI : ∀ b id, id ∈ ids → Owns ψ id b → ¬ pool b
def En.mp (E : En) (b : Nat) : Prop := (∃ id ∈ E.ids, Owns E.ψ id b) ∨ E.pool b
def En.fresh (E : En) (b : Nat) : Prop := E.pool b ∨ E.w.heap.size ≤ b
theorem En.new {E : En} {b : Nat} (h : E.w.heap.size ≤ b) : E.fresh b := .inr h
theorem En.no {E : En} {b : Nat} {α : Prop} (hb : b < E.w.heap.size) (hm : ¬ E.mp b) (h : E.fresh b) : α := by
  rcases h with h | h
  · exact absurd (.inr h) hm
  · omega
def Held (ψ : Pl) (H : Hp) (b : Nat) : Prop := ∃ id o, look H id = some o ∧ Owns ψ id b
def Subs (ψ : Pl) (H : Hp) (w : World) : Prop := ∀ id o b, look H id = some o → ψ.sub id b → o.multi = true ∧ b < w.heap.size ∧ ∀ k, ψ id ≠ some (b, k)
def Im (E : En) (ψ : Pl) (H : Hp) (b : Nat) : Prop := (E.A b ∨ E.fresh b) ∧ ¬ Held ψ H b
def ctl : Obj → Bool
  | .deferred _ => true
  | .loop _ => true
  | _ => false
def isDef (w : World) (b : Nat) : Prop := ∃ o, w.heap[b]? = some o ∧ ctl o = true
def GOk (Z : GZ) (A B : Nat → Prop) (w : World) : Prop := ∀ (A' B' : Nat → Prop) (w' : World), (∀ b, b < w.heap.size → A b → ¬ isDef w b → A' b) → (∀ b, B b → B' b) →
  (∀ b, b < w.heap.size → A b → ¬ isDef w b → w'.heap[b]? = w.heap[b]?) → (∀ b, B b → w'.heap[b]? = w.heap[b]?) → Z A' B' w'
theorem GOk.dat {Z : GZ} {A B A' B' : Nat → Prop} {w w' : World} (h : GOk Z A B w) (hA : ∀ b, b < w.heap.size → A b → ¬ isDef w b → A' b) (hB : ∀ b, B b → B' b)
    (hw : ∀ b, b < w.heap.size → A b → ¬ isDef w b → w'.heap[b]? = w.heap[b]?) (hb : ∀ b, B b → w'.heap[b]? = w.heap[b]?) : GOk Z A' B' w' := fun A2 B2 w2 k1 k2 k3 k4 => by
  have lt : ∀ b, b < w.heap.size → A b → ¬ isDef w b → b < w'.heap.size ∧ ¬ isDef w' b := fun b hb ha hd => by
    have e := hw b hb ha hd
    refine ⟨?_, fun ⟨q, hq, hc⟩ => hd ⟨q, by rw [← e]; exact hq, hc⟩⟩
    rw [Array.getElem?_eq_getElem hb] at e
    exact heap_lt e
  exact h A2 B2 w2 (fun b hb ha hd => k1 b (lt b hb ha hd).1 (hA b hb ha hd) (lt b hb ha hd).2) (fun b hb => k2 b (hB b hb))
    (fun b hb ha hd => (k3 b (lt b hb ha hd).1 (hA b hb ha hd) (lt b hb ha hd).2).trans (hw b hb ha hd)) (fun b h => (k4 b (hB b h)).trans (hb b h))
theorem GOk.mono {Z : GZ} {A B A' B' : Nat → Prop} {w w' : World} (h : GOk Z A B w) (hA : ∀ b, b < w.heap.size → A b → A' b) (hB : ∀ b, B b → B' b)
    (hw : ∀ b, b < w.heap.size → A b → w'.heap[b]? = w.heap[b]?) (hb : ∀ b, B b → w'.heap[b]? = w.heap[b]?) : GOk Z A' B' w' :=
  h.dat (fun b hb ha _ => hA b hb ha) hB (fun b hb ha _ => hw b hb ha) hb
theorem GOk.now {Z : GZ} {A B : Nat → Prop} {w : World} (h : GOk Z A B w) : Z A B w := h A B w (fun _ _ h _ => h) (fun _ h => h) (fun _ _ _ _ => rfl) (fun _ _ => rfl)
def RRows (A : Nat → Prop) (w : World) (sz : Nat) (xs : List (List IV)) (b : Nat) (k : Nat × Nat) : Prop :=
  ∃ c e, w.heap[b]? = some (.cells c e (0, 0)) ∧ k.1 + k.2 = c.size ∧ xs.length * sz ≤ k.2 ∧
    ∀ i j x, at2 xs i j = some x → RIV A w x (c.getD (k.1 + (i * sz + j)) undef)
def RSub (A : Nat → Prop) (w : World) (sz : Nat) (xs : List (List IV)) (p : Option (Nat × (Nat × Nat))) (v : Value) : Prop :=
  (∀ x ∈ xs, x.length = sz) ∧ ((p = none ∧ xs = [] ∧ v = .slice none 0 0) ∨
    ∃ b k cap a, p = some (b, k) ∧ v = .slice (some a) xs.length cap ∧ (0 < cap → a = ⟨b, k.1, none⟩) ∧ xs.length ≤ cap ∧ cap * sz ≤ k.2 ∧ cap < 2 ^ 63 ∧ RRows A w sz xs b k)
def RMap (A : Nat → Prop) (w : World) (sk : Sk) (g : List Value → Option (List IV)) (es : Array MapEntry) : Prop :=
  (∀ e ∈ es.toList, Fits sk e) ∧ (∀ e ∈ es.toList, ∃ c, g (keyOf e.key) = some c) ∧ (es.toList.map fun e => keyOf e.key).Nodup ∧
  ∀ k c, g k = some c → ∃ e ∈ es.toList, keyOf e.key = k ∧ e.val.cells.size = c.length ∧ ∀ i x, c[i]? = some x → RIV A w x (e.val.cells.getD i undef)
def ROb (A : Nat → Prop) (ψ : Pl) (H : Hp) (w : World) (id : Nat) : Ob → Prop
  | .box cs => ∃ b c e, ψ id = some (b, (0, c.size)) ∧ w.heap[b]? = some (.cells c e (0, 0)) ∧ c.size = cs.length ∧
      ∀ i x, cs[i]? = some x → RAV A ψ H w x (c.getD i undef)
  | .list sz xs => (∀ x ∈ xs, x.length = sz) ∧ ((ψ id = none ∧ xs = []) ∨
      ∃ b k c e, ψ id = some (b, k) ∧ w.heap[b]? = some (.cells c e (0, 0)) ∧ k.1 + k.2 = c.size ∧ xs.length * sz ≤ k.2 ∧
        ∀ i j x, at2 xs i j = some x → RIV A w x (c.getD (k.1 + (i * sz + j)) undef))
  | .map sk g => ∃ b es clock, ψ id = some (b, (0, 0)) ∧ w.heap[b]? = some (.map es clock) ∧ Born es clock ∧ RMap A w sk g es
  | .mapS sk g n kk => ∃ b es clock, ψ id = some (b, (0, 0)) ∧ w.heap[b]? = some (.map es clock) ∧ Born es clock ∧ RMap A w sk g es ∧ ∃ e ∈ es.toList, (e.born : Int) = n ∧ keyOf e.key = kk
  | .lent _ sz xs => (∀ x ∈ xs, x.length = sz) ∧ ((ψ id = none ∧ xs = []) ∨
      ∃ b k c e, ψ id = some (b, k) ∧ w.heap[b]? = some (.cells c e (0, 0)) ∧ k.1 + k.2 = c.size ∧ xs.length * sz ≤ k.2 ∧
        ∀ i j x, at2 xs i j = some x → RIV A w x (c.getD (k.1 + (i * sz + j)) undef))
  | .mapo sk sz g hole => ∃ b es clock, ∃ pl : List Value → Option (Nat × (Nat × Nat)), ψ id = some (b, (0, 0)) ∧ w.heap[b]? = some (.map es clock) ∧ Born es clock ∧
      (∀ e ∈ es.toList, Fits sk e) ∧ sk.2.2 = false ∧ (es.toList.map fun e => keyOf e.key).Nodup ∧ (∀ e ∈ es.toList, hole = some (keyOf e.key) ∨ ∃ xs, g (keyOf e.key) = some xs) ∧
      (∀ k, hole = some k → g k = none ∧ ∃ e ∈ es.toList, keyOf e.key = k) ∧
      (∀ k xs, g k = some xs → ∃ e ∈ es.toList, keyOf e.key = k ∧ RSub A w sz xs (pl k) e.val) ∧
      (∀ k xs b' q, g k = some xs → pl k = some (b', q) → ψ.sub id b') ∧
      (∀ k xs k' xs' b' q q', g k = some xs → g k' = some xs' → pl k = some (b', q) → pl k' = some (b', q') → k = k')
  | .listo sz xs hole => (∀ j, hole = some j → j < xs.length) ∧ ∃ b k c e, ∃ pl : Nat → Option (Nat × (Nat × Nat)), ψ id = some (b, k) ∧ w.heap[b]? = some (.cells c e (0, 0)) ∧ k.1 + k.2 = c.size ∧ xs.length ≤ k.2 ∧
      (∀ i x, xs[i]? = some x → hole ≠ some i → RSub A w sz x (pl i) (c.getD (k.1 + i) undef)) ∧
      (∀ i x b' q, xs[i]? = some x → hole ≠ some i → pl i = some (b', q) → ψ.sub id b') ∧
      (∀ i x i' x' b' q q', xs[i]? = some x → hole ≠ some i → xs[i']? = some x' → hole ≠ some i' → pl i = some (b', q) → pl i' = some (b', q') → i = i')
  | .iter sk g left last => ∃ b m since stamps lastc, ψ id = some (b, (0, 0)) ∧ w.heap[b]? = some (.mapIter m since stamps lastc) ∧
      ((m = none ∧ left = [] ∧ last = none ∧ ∀ k, g k = none) ∨
       ∃ bm es, m = some bm ∧ A bm ∧ w.heap[bm]? = some (.map es since) ∧ lastc = since ∧ Born es since ∧ RMap A w sk g es ∧ left.Nodup ∧
        (∀ e ∈ es.toList, keyOf e.key ∈ left ↔ e.born ∉ stamps.toList) ∧ (∀ k ∈ left, ∃ e ∈ es.toList, keyOf e.key = k) ∧
        (last = none ∨ ∃ e ∈ es.toList, ∃ seen : Array Nat, stamps = seen.push e.born ∧ last = some (keyOf e.key)))
  | .gh Z vs cs => ψ id = none ∧ GOk Z A (ψ.sub id) w ∧ vs.length = cs.length ∧ ∀ i x, cs[i]? = some x → RAV A ψ H w x (vs.getD i undef)
def DefOk (k : Nat) (A : Nat → Prop) (w : World) (ds : List Deferred) : Prop := ds.Nodup ∧ ∀ d ∈ ds, ∃ D, d = { target := .collected D, args := #[] } ∧ k ≤ D ∧ A D ∧ w.heap[D]? = some (.deferred (some []))
theorem DefOk.mono {k : Nat} {A A' : Nat → Prop} {w w' : World} {ds : List Deferred} (h : DefOk k A w ds) (hA : ∀ b, b < w.heap.size → A b → A' b) (hw : ∀ b, b < w.heap.size → A b → w'.heap[b]? = w.heap[b]?) : DefOk k A' w' ds := ⟨h.1, fun d hd => by
  obtain ⟨D, h1, h0, h2, h3⟩ := h.2 d hd
  have hl := heap_lt h3
  exact ⟨D, h1, h0, hA D hl h2, by rw [hw D hl h2]; exact h3⟩⟩
structure SimAt (E : En) (n : Nat) (ψ : Pl) (s : St) (a : Act) (w : World) : Prop where
  size : a.tmps.size = n
  defers : DefOk E.w.heap.size (Im E ψ s.hp) w a.defers
  frame : ∀ t, RAV (Im E ψ s.hp) ψ s.hp w (s.get t) (a.tmps.getD t undef)
  obs : ∀ id o, look s.hp id = some o → ROb (Im E ψ s.hp) ψ s.hp w id o
  inj : ∀ id id' o o' b, look s.hp id = some o → look s.hp id' = some o' → Owns ψ id b → Owns ψ id' b → id = id'
  own : ∀ id o b, look s.hp id = some o → Owns ψ id b → (o.org id ∈ E.ids ∧ Owns E.ψ (o.org id) b) ∨ E.fresh b
  subs : Subs ψ s.hp w
  par : ∀ id, id ∈ E.ids → ψ id = E.ψ id
  old : ∀ b, b < E.w.heap.size → ¬ E.mp b → w.heap[b]? = E.w.heap[b]?
  grow : E.w.heap.size ≤ w.heap.size
  same : w.os = E.w.os ∧ w.tape = E.w.tape ∧ w.output = E.w.output
def Sim (E : En) (n : Nat) (s : St) (a : Act) (w : World) : Prop := ∃ ψ, SimAt E n ψ s a w
structure Ext (w w' : World) : Prop where
  block : ∀ b, b < w.heap.size → w'.heap[b]? = w.heap[b]?
  size : w.heap.size ≤ w'.heap.size
  same : w'.os = w.os ∧ w'.tape = w.tape ∧ w'.output = w.output
theorem Ext.refl (w : World) : Ext w w := ⟨fun _ _ => rfl, Nat.le_refl _, rfl, rfl, rfl⟩
theorem Ext.trans {a b c : World} (h : Ext a b) (k : Ext b c) : Ext a c :=
  ⟨fun i hi => (k.block i (Nat.lt_of_lt_of_le hi h.size)).trans (h.block i hi), Nat.le_trans h.size k.size,
    k.same.1.trans h.same.1, k.same.2.1.trans h.same.2.1, k.same.2.2.trans h.same.2.2⟩
theorem Ext.cell {w u : World} (h : Ext w u) {a : Addr} {v : Value} (hc : w.cell? a = some v) : u.cell? a = some v := by
  have hb := World.block_lt_of_cell? w _ hc
  have e : u.cell? a = w.cell? a := by simp only [World.cell?, h.block _ hb]
  rw [e]; exact hc
theorem Ext.cell' {w u : World} (h : Ext w u) {a : Addr} {o : Option Value} (hc : w.cell? a = o) (hs : o.isSome = true) : u.cell? a = o := by
  obtain ⟨v, rfl⟩ := Option.isSome_iff_exists.1 hs
  exact h.cell hc
theorem Ext.heap {w u : World} (h : Ext w u) {b : Nat} {o : Obj} (hb : w.heap[b]? = some o) : u.heap[b]? = some o := by
  rw [h.block b (heap_lt hb)]; exact hb
theorem Ext.alloc (w : World) (o : Obj) : Ext w (w.alloc o) := by
  refine ⟨fun b hb => ?_, by simp, rfl, rfl, rfl⟩
  show (w.heap.push o)[b]? = _
  rw [Array.getElem?_push, if_neg (by omega)]
theorem Ext.drew (w : World) : Ext w w.drew := ⟨fun _ _ => rfl, Nat.le_refl _, rfl, rfl, rfl⟩
theorem put_getD (a : Act) (d : Nat) (v : Value) (t : Nat) (hd : d < a.tmps.size) :
    (a.put (some d) v).tmps.getD t undef = if d = t then v else a.tmps.getD t undef := by
  simp only [Act.put, Array.getD_eq_getD_getElem?, Array.getElem?_setIfInBounds]
  split
  · subst_vars; simp
  · rfl
theorem SimAt.set {E : En} {n : Nat} {ψ : Pl} {s : St} {a : Act} {w : World} (h : SimAt E n ψ s a w) {d : Nat} (hd : d < n) {x : AV} {v : Value}
    (hx : RAV (Im E ψ s.hp) ψ s.hp w x v) : SimAt E n ψ (s.set d x) (a.put (some d) v) w := by
  refine { h with size := by simp [Act.put, h.size], defers := h.defers, frame := fun t => ?_ }
  rw [St.get_set, put_getD a d v t (by rw [h.size]; exact hd)]
  split
  · exact hx
  · exact h.frame t
theorem SimAt.put {E : En} {n : Nat} {ψ : Pl} {s : St} {a : Act} {w : World} (h : SimAt E n ψ s a w) {d : Option Nat} (hd : ∀ i, d = some i → i < n) {x : AV} {v : Value}
    (hx : RAV (Im E ψ s.hp) ψ s.hp w x v) : SimAt E n ψ (s.put d x) (a.put d v) w := by
  cases d with
  | none => exact h
  | some d => exact h.set (hd d rfl) hx
theorem RRows.mono {A A' : Nat → Prop} {w w' : World} {sz : Nat} {xs : List (List IV)} {b : Nat} {k : Nat × Nat} (h : RRows A w sz xs b k)
    (hA : ∀ b, b < w.heap.size → A b → A' b) (hw : ∀ b, b < w.heap.size → A b → w'.heap[b]? = w.heap[b]?) (hb : w'.heap[b]? = w.heap[b]?) : RRows A' w' sz xs b k := by
  obtain ⟨c, e, h1, h2, h3, h4⟩ := h
  exact ⟨c, e, by rw [hb]; exact h1, h2, h3, fun i j x hx => (h4 i j x hx).mono hA hw⟩
theorem RSub.mono {A A' : Nat → Prop} {w w' : World} {sz : Nat} {xs : List (List IV)} {p : Option (Nat × (Nat × Nat))} {v : Value} (h : RSub A w sz xs p v)
    (hA : ∀ b, b < w.heap.size → A b → A' b) (hw : ∀ b, b < w.heap.size → A b → w'.heap[b]? = w.heap[b]?) (hb : ∀ b q, p = some (b, q) → w'.heap[b]? = w.heap[b]?) : RSub A' w' sz xs p v := by
  obtain ⟨h0, h⟩ := h
  refine ⟨h0, ?_⟩
  rcases h with h | ⟨b, k, cap, a, h1, h2, h3, h4, h5, h6, h7⟩
  · exact .inl h
  · exact .inr ⟨b, k, cap, a, h1, h2, h3, h4, h5, h6, h7.mono hA hw (hb b k h1)⟩
theorem RMap.mono {A A' : Nat → Prop} {w w' : World} {sk : Sk} {g : List Value → Option (List IV)} {es : Array MapEntry} (h : RMap A w sk g es)
    (hA : ∀ b, b < w.heap.size → A b → A' b) (hw : ∀ b, b < w.heap.size → A b → w'.heap[b]? = w.heap[b]?) : RMap A' w' sk g es := by
  obtain ⟨m1, m2, m3, m4⟩ := h
  refine ⟨m1, m2, m3, fun k c hg => ?_⟩
  obtain ⟨e, he, h5, h6, h7⟩ := m4 k c hg
  exact ⟨e, he, h5, h6, fun i x hx => (h7 i x hx).mono hA hw⟩
theorem ROb.move {A A' : Nat → Prop} {ψ ψ' : Pl} {H H' : Hp} {w w' : World} {id : Nat} {o : Ob} (h : ROb A ψ H w id o) (hbox : (∀ cs, o ≠ .box cs) ∧ ∀ Z vs cs, o ≠ .gh Z vs cs)
    (hA : ∀ b, b < w.heap.size → A b → A' b) (hw : ∀ b, b < w.heap.size → A b → w'.heap[b]? = w.heap[b]?)
    (hψ : ψ' id = ψ id ∧ ∀ b, ψ.sub id b → ψ'.sub id b) (hb : ∀ b, Owns ψ id b → w'.heap[b]? = w.heap[b]?) : ROb A' ψ' H' w' id o := by
  obtain ⟨hψ, hs⟩ := hψ
  have hb0 : ∀ {b k}, ψ id = some (b, k) → w'.heap[b]? = w.heap[b]? := fun e => hb _ (.inl ⟨_, e⟩)
  have hb1 : ∀ {b}, ψ.sub id b → w'.heap[b]? = w.heap[b]? := fun e => hb _ (.inr e)
  cases o with
  | box cs => exact absurd rfl (hbox.1 cs)
  | gh Z vs cs => exact absurd rfl (hbox.2 Z vs cs)
  | list sz xs =>
    obtain ⟨h0, h⟩ := h
    refine ⟨h0, ?_⟩
    rcases h with ⟨h1, h2⟩ | ⟨b, k, c, e, h1, h2, h3, h3', h4⟩
    · exact .inl ⟨by rw [hψ]; exact h1, h2⟩
    · exact .inr ⟨b, k, c, e, by rw [hψ]; exact h1, by rw [hb0 h1]; exact h2, h3, h3', fun i j x hx => (h4 i j x hx).mono hA hw⟩
  | map sk g =>
    obtain ⟨b, es, clock, h1, h2, h3, m⟩ := h
    exact ⟨b, es, clock, by rw [hψ]; exact h1, by rw [hb0 h1]; exact h2, h3, m.mono hA hw⟩
  | mapS sk g n kk =>
    obtain ⟨b, es, clock, h1, h2, h3, m, h4⟩ := h
    exact ⟨b, es, clock, by rw [hψ]; exact h1, by rw [hb0 h1]; exact h2, h3, m.mono hA hw, h4⟩
  | lent org sz xs =>
    obtain ⟨h0, h⟩ := h
    refine ⟨h0, ?_⟩
    rcases h with ⟨h1, h2⟩ | ⟨b, k, c, e, h1, h2, h3, h3', h4⟩
    · exact .inl ⟨by rw [hψ]; exact h1, h2⟩
    · exact .inr ⟨b, k, c, e, by rw [hψ]; exact h1, by rw [hb0 h1]; exact h2, h3, h3', fun i j x hx => (h4 i j x hx).mono hA hw⟩
  | mapo sk sz g hole =>
    obtain ⟨b, es, clock, pl, h1, h2, h3, h4, h5, h6, h7, h8, h9, h10, h11⟩ := h
    refine ⟨b, es, clock, pl, by rw [hψ]; exact h1, by rw [hb0 h1]; exact h2, h3, h4, h5, h6, h7, h8, fun k xs hg => ?_, fun k xs b' q g1 g2 => hs _ (h10 k xs b' q g1 g2), h11⟩
    obtain ⟨e, g1, g2, g3⟩ := h9 k xs hg
    exact ⟨e, g1, g2, g3.mono hA hw fun b' q hq => hb1 (h10 k xs b' q hg hq)⟩
  | listo sz xs hole =>
    obtain ⟨h0, b, k, c, e, pl, h1, h2, h3, h4, h5, h6, h7⟩ := h
    exact ⟨h0, b, k, c, e, pl, by rw [hψ]; exact h1, by rw [hb0 h1]; exact h2, h3, h4, fun i x g1 g2 => (h5 i x g1 g2).mono hA hw fun b' q hq => hb1 (h6 i x b' q g1 g2 hq),
      fun i x b' q g1 g2 g3 => hs _ (h6 i x b' q g1 g2 g3), h7⟩
  | iter sk g left last =>
    obtain ⟨b, m, since, stamps, lastc, h1, h2, h3⟩ := h
    refine ⟨b, m, since, stamps, lastc, by rw [hψ]; exact h1, by rw [hb0 h1]; exact h2, ?_⟩
    rcases h3 with h3 | ⟨bm, es, g1, g2, g3, g4, g5, g6, g7⟩
    · exact .inl h3
    · have hlt := heap_lt g3
      exact .inr ⟨bm, es, g1, hA bm hlt g2, by rw [hw bm hlt g2]; exact g3, g4, g5, g6.mono hA hw, g7⟩
theorem ROb.mono {A A' : Nat → Prop} {ψ ψ' : Pl} {H H' : Hp} {w w' : World} {id : Nat} {o : Ob} (h : ROb A ψ H w id o)
    (hA : ∀ b, b < w.heap.size → A b → A' b) (hw : ∀ b, b < w.heap.size → A b → w'.heap[b]? = w.heap[b]?) (hk : Keeps ψ ψ' H H')
    (hψ : ψ' id = ψ id ∧ ∀ b, ψ.sub id b → ψ'.sub id b) (hb : ∀ b, Owns ψ id b → w'.heap[b]? = w.heap[b]?) : ROb A' ψ' H' w' id o := by
  by_cases hbox : ∃ cs, o = .box cs
  · obtain ⟨cs, rfl⟩ := hbox
    obtain ⟨b, c, e, h1, h2, h3, h4⟩ := h
    exact ⟨b, c, e, by rw [hψ.1]; exact h1, by rw [hb _ (.inl ⟨_, h1⟩)]; exact h2, h3, fun i x hx => (h4 i x hx).mono hA hw hk⟩
  · by_cases hgh : ∃ Z vs cs, o = .gh Z vs cs
    · obtain ⟨Z, vs, cs, rfl⟩ := hgh
      obtain ⟨h1, h2, h3, h4⟩ := h
      exact ⟨by rw [hψ.1]; exact h1, h2.mono hA (fun b hb => hψ.2 b hb) hw (fun b h => hb b (.inr h)), h3, fun i x hx => (h4 i x hx).mono hA hw hk⟩
    · exact h.move ⟨fun cs e => hbox ⟨cs, e⟩, fun Z vs cs e => hgh ⟨Z, vs, cs, e⟩⟩ hA hw hψ hb
theorem ROb.lt {A : Nat → Prop} {ψ : Pl} {H : Hp} {w : World} {id : Nat} {o : Ob} (h : ROb A ψ H w id o) {b : Nat} {k : Nat × Nat} (hb : ψ id = some (b, k)) : b < w.heap.size := by
  cases o with
  | box cs => obtain ⟨b', c, e, h1, h2, _⟩ := h; rw [h1] at hb; cases hb; exact heap_lt h2
  | list sz xs =>
    rcases h.2 with ⟨h1, _⟩ | ⟨b', k', c, e, h1, h2, _⟩
    · rw [h1] at hb; cases hb
    · rw [h1] at hb; cases hb; exact heap_lt h2
  | map sk g => obtain ⟨b', es, cl, h1, h2, _⟩ := h; rw [h1] at hb; cases hb; exact heap_lt h2
  | mapS sk g n kk => obtain ⟨b', es, cl, h1, h2, _⟩ := h; rw [h1] at hb; cases hb; exact heap_lt h2
  | lent org sz xs =>
    rcases h.2 with ⟨h1, _⟩ | ⟨b', k', c, e, h1, h2, _⟩
    · rw [h1] at hb; cases hb
    · rw [h1] at hb; cases hb; exact heap_lt h2
  | mapo sk sz g hole => obtain ⟨b', es, cl, pl, h1, h2, _⟩ := h; rw [h1] at hb; cases hb; exact heap_lt h2
  | listo sz xs hole => obtain ⟨_, b', k', c, e, pl, h1, h2, _⟩ := h; rw [h1] at hb; cases hb; exact heap_lt h2
  | iter sk g left last => obtain ⟨b', m, si, st, la, h1, h2, _⟩ := h; rw [h1] at hb; cases hb; exact heap_lt h2
  | gh Z vs cs => obtain ⟨h1, _⟩ := h; rw [h1] at hb; cases hb
theorem SimAt.lt {E : En} {n : Nat} {ψ : Pl} {s : St} {a : Act} {w : World} (h : SimAt E n ψ s a w) {id b : Nat} {o : Ob} (ho : look s.hp id = some o) (hb : Owns ψ id b) : b < w.heap.size := by
  rcases hb with ⟨k, hb⟩ | hb
  · exact (h.obs id o ho).lt hb
  · exact (h.subs id o b ho hb).2.1
theorem Subs.ext {ψ : Pl} {H : Hp} {w w' : World} (h : Subs ψ H w) (hs : w.heap.size ≤ w'.heap.size) : Subs ψ H w' := fun id o b ho hb => by
  obtain ⟨h1, h2, h3⟩ := h id o b ho hb
  exact ⟨h1, Nat.lt_of_lt_of_le h2 hs, h3⟩
theorem SimAt.ext {E : En} {n : Nat} {ψ : Pl} {s : St} {a : Act} {w w' : World} (h : SimAt E n ψ s a w) (hx : Ext w w') : SimAt E n ψ s a w' := by
  have hA : ∀ b, b < w.heap.size → Im E ψ s.hp b → Im E ψ s.hp b := fun _ _ h => h
  have hw : ∀ b, b < w.heap.size → Im E ψ s.hp b → w'.heap[b]? = w.heap[b]? := fun b hb _ => hx.block b hb
  refine { h with defers := h.defers.mono hA hw, frame := fun t => (h.frame t).mono hA hw (Keeps.refl _ _), obs := fun id o ho => ?_, subs := h.subs.ext hx.size, old := fun b hb hm => ?_, grow := ?_, same := ?_ }
  · exact (h.obs id o ho).mono hA hw (Keeps.refl _ _) ⟨rfl, fun _ h => h⟩ fun b hb => hx.block b (h.lt ho hb)
  · rw [hx.block b (Nat.lt_of_lt_of_le hb h.grow)]; exact h.old b hb hm
  · exact Nat.le_trans h.grow hx.size
  · exact ⟨hx.same.1.trans h.same.1, hx.same.2.1.trans h.same.2.1, hx.same.2.2.trans h.same.2.2⟩
/-! ### References to an object are let go. -/
def CapV.of (p : Nat → Bool) : CapV → Bool
  | .ptr id _ => p id
  | .val _ => false
def AV.kc (p : Nat → Bool) : AV → AV
  | .sl id sz lo len => if p id then .junk else .sl id sz lo len
  | .ptr id off => if p id then .junk else .ptr id off
  | .ep id sz i off => if p id then .junk else .ep id sz i off
  | .mpr id => if p id then .junk else .mpr id
  | .fn f a b => if a.any (CapV.of p) || b.any (CapV.of p) then .junk else .fn f a b
  | .iv x => .iv x
  | .nil sz => .nil sz
  | .un => .un
  | .agg _ => .junk
  | .tup _ => .junk
  | .junk => .junk
def AV.ivc : AV → Option IV
  | .iv x => some x
  | .nil sz => some (.lst sz [])
  | _ => none
def ivAll : List AV → Option (List IV)
  | [] => some []
  | x :: r => match x.ivc with
    | some y => (ivAll r).map fun l => y :: l
    | none => none
def CapV.fc (id : Nat) (o : Ob) : CapV → CapV
  | .ptr j off => if j = id then match o with
      | .box cs => match ivAll cs with
        | some l => .val (.pt (l.drop off))
        | none => .ptr j off
      | _ => .ptr j off
    else .ptr j off
  | .val x => .val x
def AV.fc (id : Nat) (o : Ob) : AV → AV
  | .sl j sz lo len => if j = id then match o with
      | .list _ xs => .iv (.lst sz ((xs.drop lo).take len))
      | .listo sz' xs none => .iv (.lst 1 (((xs.map fun x => [IV.lst sz' x]).drop lo).take len))
      | _ => .junk
    else .sl j sz lo len
  | .ep j sz i off => if j = id then match o with
      | .list _ xs => .iv (.pt ((xs.getD i []).drop off))
      | _ => .junk
    else .ep j sz i off
  | .mpr j => if j = id then match o with
      | .map sk g => .iv (.mp sk g)
      | .mapo sk sz g none => .iv (.mp sk fun k => (g k).map fun xs => [IV.lst sz xs])
      | _ => .junk
    else .mpr j
  | .ptr j off => if j = id then match o with
      | .box cs => match ivAll cs with
        | some l => .iv (.pt (l.drop off))
        | none => .junk
      | _ => .junk
    else .ptr j off
  | .fn f a b => .fn f (a.map (CapV.fc id o)) (b.map (CapV.fc id o))
  | x => x
def AV.map1 (f : AV → AV) : AV → AV
  | .agg cs => .agg (cs.map f)
  | x => f x
def AV.mapc (f : AV → AV) : AV → AV
  | .tup vs => .tup (vs.map (AV.map1 f))
  | .agg cs => .agg (cs.map f)
  | x => f x
def Ob.mapc (f : AV → AV) : Ob → Ob
  | .box cs => .box (cs.map f)
  | .gh Z vs cs => .gh Z vs (cs.map (AV.mapc f))
  | o => o
def St.mapc (f : AV → AV) (s : St) : St := ⟨s.fr.map fun (t, x) => (t, x.mapc f), s.hp.map fun (id, o) => (id, o.mapc f)⟩
def St.drop (id : Nat) (s : St) : St := match look s.hp id with
  | none => s
  | some o => { s.mapc (fun x => (x.fc id o).kc (· == id)) with hp := (s.mapc fun x => (x.fc id o).kc (· == id)).hp.filter (·.1 != id) }
theorem look_map {α β : Type} (f : α → β) (l : List (Nat × α)) (k : Nat) : look (l.map fun (t, x) => (t, f x)) k = (look l k).map f := by
  induction l with
  | nil => rfl
  | cons p l ih => obtain ⟨j, x⟩ := p; simp only [List.map_cons, look]; split <;> simp [ih]
theorem look_filter {α : Type} (l : List (Nat × α)) (id k : Nat) : look (l.filter (·.1 != id)) k = if k = id then none else look l k := by
  induction l with
  | nil => simp [look]
  | cons p l ih =>
    obtain ⟨j, x⟩ := p
    by_cases hj : j = id
    · subst hj
      rw [List.filter_cons_of_neg (by simp), ih]
      simp only [look]
      by_cases hk : k = j
      · simp [hk]
      · simp [hk, Ne.symm hk]
    · rw [List.filter_cons_of_pos (by simpa using hj)]
      simp only [look, ih]
      by_cases hk : j = k
      · subst hk; simp [hj]
      · simp [hk]
def Turns (A A' : Nat → Prop) (ψ ψ' : Pl) (H H' : Hp) (w w' : World) (f : AV → AV) : Prop := ∀ x v, RAV A ψ H w x v → (∀ cs, x ≠ .agg cs) → (∀ cs, x ≠ .tup cs) → RAV A' ψ' H' w' (f x) v
theorem RAV.mapc {A A' : Nat → Prop} {ψ ψ' : Pl} {H H' : Hp} {w w' : World} {f : AV → AV} (hf : Turns A A' ψ ψ' H H' w w' f)
    (hagg : ∀ cs, f (.agg cs) = .junk) (htup : ∀ cs, f (.tup cs) = .junk) {x : AV} {v : Value} (h : RAV A ψ H w x v) : RAV A' ψ' H' w' (x.mapc f) v := by
  have hc : ∀ {x v}, RAV A ψ H w x v → RAV A' ψ' H' w' (f x) v := by
    intro x v h
    cases x with
    | agg cs => rw [hagg]; exact .junk v
    | tup cs => rw [htup]; exact .junk v
    | _ => exact hf _ _ h (by simp) (by simp)
  have h1 : ∀ {x v}, RAV A ψ H w x v → RAV A' ψ' H' w' (x.map1 f) v := by
    intro x v h
    cases h with
    | agg cs vs hl h =>
      refine .agg _ _ (by simpa using hl) fun i c hi => ?_
      rw [List.getElem?_map] at hi
      cases hci : cs[i]? with
      | none => rw [hci] at hi; cases hi
      | some c0 => rw [hci] at hi; cases hi; exact hc (h i c0 hci)
    | tup cs vs hl h => simp only [AV.map1, htup]; exact .junk _
    | iv x v h => exact hc (.iv x v h)
    | nil sz => exact hc (.nil sz)
    | sl0 id sz o n ho he hb => exact hc (.sl0 id sz o n ho he hb)
    | sl id sz lo len b k cap a o n ho he hx hb ha hlc hk hm => exact hc (.sl id sz lo len b k cap a o n ho he hx hb ha hlc hk hm)
    | ptr id off b k o ho hb => exact hc (.ptr id off b k o ho hb)
    | ep id sz i off b k o n ho he hi hb => exact hc (.ep id sz i off b k o n ho he hi hb)
    | mpr id b k o ho hb => exact hc (.mpr id b k o ho hb)
    | fn g first caps vf vc hf hc' h1 h2 => exact hc (.fn g first caps vf vc hf hc' h1 h2)
    | un => exact hc .un
    | junk v => exact hc (.junk v)
  cases h with
  | tup cs vs hl h =>
    refine .tup _ _ (by simpa using hl) fun i c hi => ?_
    rw [List.getElem?_map] at hi
    cases hci : cs[i]? with
    | none => rw [hci] at hi; cases hi
    | some c0 => rw [hci] at hi; cases hi; exact h1 (h i c0 hci)
  | agg cs vs hl h => exact h1 (.agg cs vs hl h)
  | iv x v h => exact hc (.iv x v h)
  | nil sz => exact hc (.nil sz)
  | sl0 id sz o n ho he hb => exact hc (.sl0 id sz o n ho he hb)
  | sl id sz lo len b k cap a o n ho he hx hb ha hlc hk hm => exact hc (.sl id sz lo len b k cap a o n ho he hx hb ha hlc hk hm)
  | ptr id off b k o ho hb => exact hc (.ptr id off b k o ho hb)
  | ep id sz i off b k o n ho he hi hb => exact hc (.ep id sz i off b k o n ho he hi hb)
  | mpr id b k o ho hb => exact hc (.mpr id b k o ho hb)
  | fn g first caps vf vc hf hc' h1 h2 => exact hc (.fn g first caps vf vc hf hc' h1 h2)
  | un => exact hc .un
  | junk v => exact hc (.junk v)
def KeepsBut (p : Nat → Bool) (ψ ψ' : Pl) (H H' : Hp) : Prop := ∀ id o, p id = false → look H id = some o → (∃ o', look H' id = some o' ∧ o.le o') ∧ ψ' id = ψ id
theorem turns_kc {A A' : Nat → Prop} {ψ ψ' : Pl} {H H' : Hp} {w w' : World} {p : Nat → Bool} (hA : ∀ b, b < w.heap.size → A b → A' b)
    (hw : ∀ b, b < w.heap.size → A b → w'.heap[b]? = w.heap[b]?) (hk : KeepsBut p ψ ψ' H H') : Turns A A' ψ ψ' H H' w w' (AV.kc p) := by
  intro x v h _ _
  have hlist : ∀ {id sz n o}, p id = false → look H id = some o → o.dim = some (sz, n) → ∃ o' n', look H' id = some o' ∧ o'.dim = some (sz, n') ∧ n ≤ n' := by
    intro id sz n o hp ho he
    obtain ⟨⟨o', h1, h2⟩, _⟩ := hk id _ hp ho
    obtain ⟨n', h3, h4⟩ := h2 sz n he
    exact ⟨o', n', h1, h3, h4⟩
  have hcap : ∀ {c : CapV} {v : Value}, c.of p = false → RCap A ψ H w c v → RCap A' ψ' H' w' c v := by
    intro c v hp h
    cases h with
    | ptr id off b k o ho hb =>
      obtain ⟨⟨o', h1, _⟩, h2⟩ := hk id o hp ho
      exact .ptr id off b k o' h1 (by rw [h2]; exact hb)
    | val x v h1 => exact .val x v (h1.mono hA hw)
  cases h with
  | iv x v h => exact .iv x v (h.mono hA hw)
  | nil sz => exact .nil sz
  | sl0 id sz o n ho he hb =>
    simp only [AV.kc]; split
    · exact .junk _
    · rename_i hp
      have hp : p id = false := by simpa using hp
      obtain ⟨o', n', h1, h2, _⟩ := hlist hp ho he
      exact .sl0 id sz o' n' h1 h2 (by rw [(hk id _ hp ho).2]; exact hb)
  | sl id sz lo len b k cap a o n ho he hx hb ha hlc hk' hm =>
    simp only [AV.kc]; split
    · exact .junk _
    · rename_i hp
      have hp : p id = false := by simpa using hp
      obtain ⟨o', n', h1, h2, h3⟩ := hlist hp ho he
      exact .sl id sz lo len b k cap a o' n' h1 h2 (Nat.le_trans hx h3) (by rw [(hk id _ hp ho).2]; exact hb) ha hlc hk' hm
  | ptr id off b k o ho hb =>
    simp only [AV.kc]; split
    · exact .junk _
    · rename_i hp
      have hp : p id = false := by simpa using hp
      obtain ⟨⟨o', h1, _⟩, h2⟩ := hk id o hp ho
      exact .ptr id off b k o' h1 (by rw [h2]; exact hb)
  | ep id sz i off b k o n ho he hi hb =>
    simp only [AV.kc]; split
    · exact .junk _
    · rename_i hp
      have hp : p id = false := by simpa using hp
      obtain ⟨o', n', h1, h2, h3⟩ := hlist hp ho he
      exact .ep id sz i off b k o' n' h1 h2 (Nat.lt_of_lt_of_le hi h3) (by rw [(hk id _ hp ho).2]; exact hb)
  | mpr id b k o ho hb =>
    simp only [AV.kc]; split
    · exact .junk _
    · rename_i hp
      have hp : p id = false := by simpa using hp
      obtain ⟨⟨o', h1, _⟩, h2⟩ := hk id o hp ho
      exact .mpr id b k o' h1 (by rw [h2]; exact hb)
  | fn g first caps vf vc hf hc h1 h2 =>
    simp only [AV.kc]; split
    · exact .junk _
    · rename_i hp
      simp only [Bool.or_eq_true, List.any_eq_true, not_or, not_exists, not_and, Bool.not_eq_true] at hp
      exact .fn g first caps vf vc hf hc (fun i c h => hcap (hp.1 c (List.mem_of_getElem? h)) (h1 i c h)) (fun i c h => hcap (hp.2 c (List.mem_of_getElem? h)) (h2 i c h))
  | agg cs vs hl h => exact .junk _
  | tup cs vs hl h => exact .junk _
  | un => exact .un
  | junk v => exact .junk _
end Go.Vm
end

/- What keeps a state: an object goes, a new one comes, one is changed. No program in sight. -/
section
namespace Go.Vm
section
variable {E : En} {n : Nat} {ψ : Pl} {s : St} {a : Act} {w : World}
theorem St.get_mapc (f : AV → AV) (hf : f .junk = .junk) (t : Nat) : (s.mapc f).get t = (s.get t).mapc f := by
  simp only [St.get, St.mapc]
  rw [look_map (AV.mapc f)]
  cases look s.fr t <;> simp [AV.mapc, hf]
theorem look_mapc (f : AV → AV) (k : Nat) : look (s.mapc f).hp k = (look s.hp k).map (Ob.mapc f) := by
  simp only [St.mapc]; rw [look_map (Ob.mapc f)]
theorem mapc_gh (f : AV → AV) (Z : GZ) (vs : List Value) (cs : List AV) : (Ob.gh Z vs cs).mapc f = .gh Z vs (cs.map (AV.mapc f)) := rfl
theorem Ob.dim_mapc (f : AV → AV) (o : Ob) : (o.mapc f).dim = o.dim := by cases o <;> rfl
theorem Ob.org_mapc (f : AV → AV) (o : Ob) (id : Nat) : (o.mapc f).org id = o.org id := by cases o <;> rfl
theorem Ob.multi_mapc (f : AV → AV) (o : Ob) : (o.mapc f).multi = o.multi := by cases o <;> rfl
theorem Ob.le_mapc (f : AV → AV) (o : Ob) : o.le (o.mapc f) := fun _ n h => ⟨n, by rw [Ob.dim_mapc]; exact h, Nat.le_refl _⟩
theorem at2_drop_take {α : Type} (xs : List (List α)) (lo len i j : Nat) (x : α) (h : at2 ((xs.drop lo).take len) i j = some x) : at2 xs (lo + i) j = some x := by
  simp only [at2, List.getElem?_take, List.getElem?_drop] at h ⊢
  split at h
  · exact h
  · cases h
theorem at2_lt {α : Type} {xs : List (List α)} {i j : Nat} {x : α} (h : at2 xs i j = some x) : ∃ r, xs[i]? = some r ∧ r[j]? = some x := by
  simp only [at2] at h
  cases hr : xs[i]? with
  | none => rw [hr] at h; cases h
  | some r => rw [hr] at h; exact ⟨r, rfl, h⟩
theorem at2_of {α : Type} {xs : List (List α)} {i j : Nat} {r : List α} {x : α} (h1 : xs[i]? = some r) (h2 : r[j]? = some x) : at2 xs i j = some x := by
  simp [at2, h1, h2]
theorem cell_of {w : World} {b : Nat} {c : Array Value} {e : TypeId} {f : Nat × Nat} (h : w.heap[b]? = some (.cells c e f)) (o : Nat) : w.cell? ⟨b, o, none⟩ = c[o]? := by
  simp [World.cell?, h]
theorem cell_getD {w : World} {b : Nat} {c : Array Value} {e : TypeId} {f : Nat × Nat} (h : w.heap[b]? = some (.cells c e f)) {o : Nat} (ho : o < c.size) :
    w.cell? ⟨b, o, none⟩ = some (c.getD o undef) := by
  rw [cell_of h]; simp [ho]
theorem riv_of_list {A A' : Nat → Prop} {H : Hp} {id sz : Nat} {xs : List (List IV)} (h : ROb A ψ H w id (.list sz xs)) (hA : ∀ b, b < w.heap.size → A b → A' b)
    (hin : ∀ b k, ψ id = some (b, k) → A' b) {lo len cap : Nat} {a : Addr} {b : Nat} {k : Nat × Nat} (hb : ψ id = some (b, k)) (ha : 0 < cap → a = ⟨b, k.1 + lo * sz, none⟩) (hlc : len ≤ cap)
    (hx : lo + len ≤ xs.length) : RIV A' w (.lst sz ((xs.drop lo).take len)) (.slice (some a) len cap) := by
  obtain ⟨hs, h⟩ := h
  rcases h with ⟨h1, _⟩ | ⟨b', k', c, e, h1, h2, h3', h3, h4⟩
  · rw [h1] at hb; cases hb
  rw [h1] at hb; cases hb
  have hlen : ((xs.drop lo).take len).length = len := by simp; omega
  have key := RIV.lst (A := A') (w := w) sz ((xs.drop lo).take len) b (k.1 + lo * sz) cap a (fun i j => c.getD (k.1 + ((lo + i) * sz + j)) undef)
    (fun hne => ha (by
      rcases Nat.eq_zero_or_pos cap with h0 | h0
      · exact absurd (List.eq_nil_of_length_eq_zero (by omega)) hne
      · exact h0))
    (fun x hx => hs x (List.mem_of_mem_drop (List.mem_of_mem_take hx))) (by omega)
    (fun i j x hij => by
      refine ⟨hin _ _ h1, ?_⟩
      have hat := at2_drop_take _ _ _ _ _ _ hij
      obtain ⟨r, hr, hj⟩ := at2_lt hat
      have hi : lo + i < xs.length := (List.getElem?_eq_some_iff.1 hr).1
      have hj' : j < sz := by rw [← hs r (List.mem_of_getElem? hr)]; exact (List.getElem?_eq_some_iff.1 hj).1
      have hm : (lo + i + 1) * sz ≤ xs.length * sz := Nat.mul_le_mul_right sz (by omega)
      have e1 : (lo + i) * sz = lo * sz + i * sz := Nat.add_mul _ _ _
      have e2 : (lo + i + 1) * sz = (lo + i) * sz + sz := by rw [Nat.add_mul]; omega
      rw [show k.1 + lo * sz + (i * sz + j) = k.1 + ((lo + i) * sz + j) from by omega]
      exact cell_getD h2 (by omega))
    (fun i j x hij => (h4 _ _ _ (at2_drop_take _ _ _ _ _ _ hij)).mono hA (fun _ _ _ => rfl))
  rw [hlen] at key
  exact key
theorem riv_of_elem {A A' : Nat → Prop} {H : Hp} {id sz : Nat} {xs : List (List IV)} (h : ROb A ψ H w id (.list sz xs)) (hA : ∀ b, b < w.heap.size → A b → A' b)
    (hin : ∀ b k, ψ id = some (b, k) → A' b) {i off : Nat} {b : Nat} {k : Nat × Nat} (hb : ψ id = some (b, k)) (hi : i < xs.length) :
    RIV A' w (.pt ((xs.getD i []).drop off)) (.pointer (some ⟨b, k.1 + (i * sz + off), none⟩)) := by
  obtain ⟨hs, h⟩ := h
  rcases h with ⟨h1, _⟩ | ⟨b', k', c, e, h1, h2, h3', h3, h4⟩
  · rw [h1] at hb; cases hb
  rw [h1] at hb; cases hb
  have hr : xs[i]? = some xs[i] := List.getElem?_eq_getElem hi
  have hg : xs.getD i [] = xs[i] := by simp [List.getD, hr]
  rw [hg]
  have hsz := hs xs[i] (List.getElem_mem hi)
  refine .pt _ b (k.1 + (i * sz + off)) (fun j => c.getD (k.1 + (i * sz + (off + j))) undef) (fun j x hj => ?_) (fun j x hj => ?_)
  · rw [List.getElem?_drop] at hj
    refine ⟨hin _ _ h1, ?_⟩
    have hj' : off + j < sz := by rw [← hsz]; exact (List.getElem?_eq_some_iff.1 hj).1
    have hm : (i + 1) * sz ≤ xs.length * sz := Nat.mul_le_mul_right sz (by omega)
    have e2 : (i + 1) * sz = i * sz + sz := by rw [Nat.add_mul]; omega
    rw [show k.1 + (i * sz + off) + j = k.1 + (i * sz + (off + j)) from by omega]
    exact cell_getD h2 (by omega)
  · rw [List.getElem?_drop] at hj
    exact (h4 i (off + j) x (at2_of hr hj)).mono hA (fun _ _ _ => rfl)
theorem some_getD {c : Array Value} {i : Nat} (h : i < c.size) : c[i]? = some (c.getD i undef) := by
  rw [Array.getElem?_eq_getElem h]; simp [Array.getD_eq_getD_getElem?, h]
theorem riv_ivc {A A' : Nat → Prop} {H : Hp} {x : AV} {v : Value} {y : IV} (h : RAV A ψ H w x v) (hx : x.ivc = some y) (hA : ∀ b, b < w.heap.size → A b → A' b) : RIV A' w y v := by
  unfold AV.ivc at hx
  split at hx
  · cases hx; cases h with | iv _ _ h => exact h.mono hA (fun _ _ _ => rfl)
  · cases hx; cases h; exact .lnil _
  · cases hx
theorem ivAll_ok : ∀ {cs : List AV} {l : List IV}, ivAll cs = some l → l.length = cs.length ∧ ∀ (i : Nat) (y : IV), l[i]? = some y → ∃ x : AV, cs[i]? = some x ∧ x.ivc = some y
  | [], l, h => by simp only [ivAll, Option.some.injEq] at h; subst h; simp
  | x :: r, l, h => by
    simp only [ivAll] at h
    split at h
    · rename_i y hy
      cases hr : ivAll r with
      | none => rw [hr] at h; cases h
      | some l' =>
        rw [hr] at h
        simp only [Option.map_some, Option.some.injEq] at h
        subst h
        obtain ⟨g1, g2⟩ := ivAll_ok hr
        refine ⟨by simp [g1], fun i z hz => ?_⟩
        cases i with
        | zero => simp only [List.getElem?_cons_zero, Option.some.injEq] at hz; subst hz; exact ⟨x, rfl, hy⟩
        | succ i => simpa using g2 i z (by simpa using hz)
    · cases h
theorem riv_of_box {A A' : Nat → Prop} {H : Hp} {id : Nat} {cs : List AV} {l : List IV} (h : ROb A ψ H w id (.box cs)) (hl : ivAll cs = some l) (hA : ∀ b, b < w.heap.size → A b → A' b)
    (hin : ∀ b k, ψ id = some (b, k) → A' b) {off b : Nat} {k : Nat × Nat} (hb : ψ id = some (b, k)) : RIV A' w (.pt (l.drop off)) (.pointer (some ⟨b, off, none⟩)) := by
  obtain ⟨b', c, e, h1, h2, h3, h4⟩ := h
  rw [h1] at hb; cases hb
  obtain ⟨g1, g2⟩ := ivAll_ok hl
  refine .pt _ b off (fun i => c.getD (off + i) undef) (fun i y hy => ?_) (fun i y hy => ?_) <;> rw [List.getElem?_drop] at hy <;> obtain ⟨x, hx, hxy⟩ := g2 _ y hy
  · refine ⟨hin _ _ h1, cell_getD h2 ?_⟩
    rw [h3]; exact (List.getElem?_eq_some_iff.1 hx).1
  · exact riv_ivc (h4 _ x hx) hxy hA
theorem riv_of_rmap {A A' : Nat → Prop} {b clock : Nat} {es : Array MapEntry} {sk : Sk} {g : List Value → Option (List IV)} (hh : w.heap[b]? = some (.map es clock)) (hb : Born es clock) (h : RMap A w sk g es)
    (hA : ∀ b, b < w.heap.size → A b → A' b) (hin : A' b) : RIV A' w (.mp sk g) (.map (some b)) := by
  obtain ⟨m1, m2, m3, m4⟩ := h
  classical
  have : ∀ k, ∃ e : MapEntry, ∀ c, g k = some c → e ∈ es.toList ∧ keyOf e.key = k ∧ e.val.cells.size = c.length ∧ ∀ i x, c[i]? = some x → RIV A w x (e.val.cells.getD i undef) := by
    intro k
    cases hg : g k with
    | none => exact ⟨⟨undef, undef, 0⟩, fun c h => by cases h⟩
    | some c => obtain ⟨e, h⟩ := m4 k c hg; exact ⟨e, fun c' hc => by cases hc; exact h⟩
  refine .mp sk g b clock es (fun k i => (Classical.choose (this k)).val.cells.getD i undef) hin hh m1 m2 m3 hb (fun k c hg => ?_) (fun k c hg i x hx => ?_) <;>
    obtain ⟨h1, h2, h3, h4⟩ := Classical.choose_spec (this k) c hg
  · refine ⟨_, h1, h2, h3, fun i x hx => ?_⟩
    have hi : i < (Classical.choose (this k)).val.cells.size := by rw [h3]; exact (List.getElem?_eq_some_iff.1 hx).1
    exact some_getD hi
  · exact (h4 i x hx).mono hA (fun _ _ _ => rfl)
theorem riv_of_sub {A A' : Nat → Prop} {sz : Nat} {xs : List (List IV)} {p : Option (Nat × (Nat × Nat))} {v : Value} (h : RSub A w sz xs p v) (hA : ∀ b, b < w.heap.size → A b → A' b)
    (hin : ∀ b q, p = some (b, q) → A' b) : RIV A' w (.lst sz xs) v := by
  obtain ⟨hs, ⟨_, h2, h3⟩ | ⟨b, k, cap, a, h1, h2, h3, h4, h5, h6, c, e, g1, g2, g3, g4⟩⟩ := h
  · subst h2; subst h3; exact .lnil sz
  · subst h2
    have bound : ∀ {i j x}, at2 xs i j = some x → i * sz + j < xs.length * sz := by
      intro i j x hij
      obtain ⟨r, hr, hj⟩ := at2_lt hij
      have hi : i < xs.length := (List.getElem?_eq_some_iff.1 hr).1
      have hj' : j < sz := by rw [← hs r (List.mem_of_getElem? hr)]; exact (List.getElem?_eq_some_iff.1 hj).1
      have hm : (i + 1) * sz ≤ xs.length * sz := Nat.mul_le_mul_right sz (by omega)
      have e2 : (i + 1) * sz = i * sz + sz := by rw [Nat.add_mul]; omega
      omega
    refine RIV.lst sz xs b k.1 cap a (fun i j => c.getD (k.1 + (i * sz + j)) undef) (fun hne => h3 ?_) hs h4 (fun i j x hij => ⟨hin _ _ h1, ?_⟩) (fun i j x hij => (g4 i j x hij).mono hA (fun _ _ _ => rfl))
    · rcases Nat.eq_zero_or_pos cap with h0 | h0
      · exact absurd (List.eq_nil_of_length_eq_zero (by omega)) hne
      · exact h0
    · have := bound hij
      exact cell_getD g1 (by omega)
theorem one_cells {v : Value} (h : isAggV v = false) : v.cells = #[v] := by cases v <;> simp_all [isAggV, Value.cells]
theorem riv_of_mapo {A A' : Nat → Prop} {H : Hp} {id sz : Nat} {sk : Sk} {g : List Value → Option (List (List IV))} (h : ROb A ψ H w id (.mapo sk sz g none)) (hA : ∀ b, b < w.heap.size → A b → A' b)
    (hin : ∀ b, Owns ψ id b → A' b) {b : Nat} {k : Nat × Nat} (hb : ψ id = some (b, k)) : RIV A' w (.mp sk fun k => (g k).map fun xs => [IV.lst sz xs]) (.map (some b)) := by
  obtain ⟨b', es, clock, pl, h1, h2, h3, h4, h5, h6, h7, h8, h9, h10, h11⟩ := h
  rw [h1] at hb; cases hb
  refine riv_of_rmap (A := A') h2 h3 ⟨h4, fun e he => ?_, h6, fun k c hc => ?_⟩ (fun _ _ h => h) (hin _ (.inl ⟨_, h1⟩))
  · rcases h7 e he with h | ⟨xs, h⟩
    · cases h
    · exact ⟨[.lst sz xs], by simp [h]⟩
  · cases hg : g k with
    | none => simp only [hg] at hc; cases hc
    | some xs =>
      simp only [hg] at hc
      simp only [Option.map_some, Option.some.injEq] at hc
      subst hc
      obtain ⟨e, g1, g2, g3⟩ := h9 k xs hg
      have hc := one_cells ((h4 e g1).2.trans h5)
      refine ⟨e, g1, g2, by rw [hc]; rfl, fun i x hx => ?_⟩
      cases i with
      | zero =>
        simp only [List.getElem?_cons_zero, Option.some.injEq] at hx; subst hx
        rw [hc]
        exact riv_of_sub g3 hA fun b' q hq => hin _ (.inr (h10 k xs b' q hg hq))
      | succ i => simp at hx
theorem riv_of_listo {A A' : Nat → Prop} {H : Hp} {id sz : Nat} {xs : List (List (List IV))} (h : ROb A ψ H w id (.listo sz xs none)) (hA : ∀ b, b < w.heap.size → A b → A' b)
    (hin : ∀ b, Owns ψ id b → A' b) {lo len cap : Nat} {a : Addr} {b : Nat} {k : Nat × Nat} (hb : ψ id = some (b, k)) (ha : 0 < cap → a = ⟨b, k.1 + lo * 1, none⟩) (hlc : len ≤ cap)
    (hx : lo + len ≤ xs.length) : RIV A' w (.lst 1 (((xs.map fun x => [IV.lst sz x]).drop lo).take len)) (.slice (some a) len cap) := by
  obtain ⟨_, b', k', c, e, pl, h1, h2, h3, h4, h5, h6, h7⟩ := h
  rw [h1] at hb; cases hb
  have hlen : (((xs.map fun x => [IV.lst sz x]).drop lo).take len).length = len := by simp; omega
  have el : ∀ {i j x}, at2 (((xs.map fun x => [IV.lst sz x]).drop lo).take len) i j = some x → ∃ z, xs[lo + i]? = some z ∧ j = 0 ∧ x = .lst sz z := by
    intro i j x hij
    have hat := at2_drop_take _ _ _ _ _ _ hij
    obtain ⟨r, hr, hj⟩ := at2_lt hat
    rw [List.getElem?_map] at hr
    cases hz : xs[lo + i]? with
    | none => rw [hz] at hr; cases hr
    | some z =>
      rw [hz] at hr
      simp only [Option.map_some, Option.some.injEq] at hr
      subst hr
      cases j with
      | zero => simp only [List.getElem?_cons_zero, Option.some.injEq] at hj; exact ⟨z, rfl, rfl, hj.symm⟩
      | succ j => simp at hj
  have key := RIV.lst (A := A') (w := w) 1 (((xs.map fun x => [IV.lst sz x]).drop lo).take len) b (k.1 + lo * 1) cap a (fun i j => c.getD (k.1 + (lo + i)) undef)
    (fun hne => ha (by
      rcases Nat.eq_zero_or_pos cap with h0 | h0
      · exact absurd (List.eq_nil_of_length_eq_zero (by omega)) hne
      · exact h0))
    (fun x hx => by
      have := List.mem_of_mem_drop (List.mem_of_mem_take hx)
      obtain ⟨z, _, rfl⟩ := List.mem_map.1 this
      rfl) (by omega)
    (fun i j x hij => by
      obtain ⟨z, g1, rfl, rfl⟩ := el hij
      have hi : lo + i < xs.length := (List.getElem?_eq_some_iff.1 g1).1
      refine ⟨hin _ (.inl ⟨_, h1⟩), ?_⟩
      rw [show k.1 + lo * 1 + (i * 1 + 0) = k.1 + (lo + i) from by omega]
      exact cell_getD h2 (by omega))
    (fun i j x hij => by
      obtain ⟨z, g1, rfl, rfl⟩ := el hij
      exact riv_of_sub (h5 _ z g1 (by simp)) hA fun b' q hq => hin _ (.inr (h6 _ z b' q g1 (by simp) hq)))
  rw [hlen] at key
  exact key
theorem ROb.mapc {A A' : Nat → Prop} {H H' : Hp} {f : AV → AV} {id : Nat} {o : Ob} (h : ROb A ψ H w id o) (hA : ∀ b, b < w.heap.size → A b → A' b)
    (hf : Turns A A' ψ ψ H H' w w f) (hagg : ∀ cs, f (.agg cs) = .junk) (htup : ∀ cs, f (.tup cs) = .junk) : ROb A' ψ H' w id (o.mapc f) := by
  cases o with
  | box cs =>
    obtain ⟨b, c, e, h1, h2, h3, h4⟩ := h
    refine ⟨b, c, e, h1, h2, by simpa using h3, fun i x hx => ?_⟩
    rw [List.getElem?_map] at hx
    cases hci : cs[i]? with
    | none => rw [hci] at hx; cases hx
    | some c0 =>
      rw [hci] at hx; cases hx
      have h5 := h4 i c0 hci
      cases c0 with
      | agg l => rw [hagg]; exact .junk _
      | tup l => rw [htup]; exact .junk _
      | _ => exact hf _ _ h5 (by simp) (by simp)
  | list sz xs =>
    obtain ⟨h0, ho⟩ := h
    refine ⟨h0, ?_⟩
    rcases ho with ho | ⟨b, k, c, e, h1, h2, h3, h3', h4⟩
    · exact .inl ho
    · exact .inr ⟨b, k, c, e, h1, h2, h3, h3', fun i j x hx => (h4 i j x hx).mono hA (fun _ _ _ => rfl)⟩
  | map sk g => obtain ⟨b, es, clock, h1, h2, h3, m⟩ := h; exact ⟨b, es, clock, h1, h2, h3, m.mono hA (fun _ _ _ => rfl)⟩
  | mapS sk g n kk => obtain ⟨b, es, clock, h1, h2, h3, m, h4⟩ := h; exact ⟨b, es, clock, h1, h2, h3, m.mono hA (fun _ _ _ => rfl), h4⟩
  | lent org sz xs =>
    obtain ⟨h0, ho⟩ := h
    refine ⟨h0, ?_⟩
    rcases ho with ho | ⟨b, k, c, e, h1, h2, h3, h3', h4⟩
    · exact .inl ho
    · exact .inr ⟨b, k, c, e, h1, h2, h3, h3', fun i j x hx => (h4 i j x hx).mono hA (fun _ _ _ => rfl)⟩
  | mapo sk sz g hole =>
    obtain ⟨b, es, clock, pl, h1, h2, h3, h4, h5, h6, h7, h8, h9, h10, h11⟩ := h
    refine ⟨b, es, clock, pl, h1, h2, h3, h4, h5, h6, h7, h8, fun k xs hg => ?_, h10, h11⟩
    obtain ⟨e, g1, g2, g3⟩ := h9 k xs hg
    exact ⟨e, g1, g2, g3.mono hA (fun _ _ _ => rfl) fun _ _ _ => rfl⟩
  | listo sz xs hole =>
    obtain ⟨h0, b, k, c, e, pl, h1, h2, h3, h4, h5, h6, h7⟩ := h
    exact ⟨h0, b, k, c, e, pl, h1, h2, h3, h4, fun i x g1 g2 => (h5 i x g1 g2).mono hA (fun _ _ _ => rfl) fun _ _ _ => rfl, h6, h7⟩
  | iter sk g left last =>
    obtain ⟨b, m, since, stamps, lastc, h1, h2, h3⟩ := h
    refine ⟨b, m, since, stamps, lastc, h1, h2, ?_⟩
    rcases h3 with h3 | ⟨bm, es, g1, g2, g3, g4, g5, g6, g7⟩
    · exact .inl h3
    · exact .inr ⟨bm, es, g1, hA bm (heap_lt g3) g2, g3, g4, g5, g6.mono hA (fun _ _ _ => rfl), g7⟩
  | gh Z vs cs =>
    obtain ⟨h1, h2, h3, h4⟩ := h
    refine ⟨h1, h2.mono hA (fun _ h => h) (fun _ _ _ => rfl) (fun _ _ => rfl), by simpa using h3, fun i x hx => ?_⟩
    rw [List.getElem?_map] at hx
    cases hci : cs[i]? with
    | none => rw [hci] at hx; cases hx
    | some c0 => rw [hci] at hx; cases hx; exact (h4 i c0 hci).mapc hf hagg htup
theorem SimAt.drop (h : SimAt E n ψ s a w) {id : Nat} (hid : id < 1000) : SimAt E n ψ (s.drop id) a w := by
  -- what f does, and what is left
  have gen : ∀ f : AV → AV, f .junk = .junk → (∀ cs, f (.agg cs) = .junk) → (∀ cs, f (.tup cs) = .junk) →
      (let t : St := { s.mapc f with hp := (s.mapc f).hp.filter (·.1 != id) }
       Turns (Im E ψ s.hp) (Im E ψ t.hp) ψ ψ s.hp t.hp w w f → SimAt E n ψ t a w) := by
    intro f hj hagg htup t hf
    have hlook : ∀ k, look t.hp k = if k = id then none else (look s.hp k).map (Ob.mapc f) := by
      intro k
      show look ((s.mapc f).hp.filter (·.1 != id)) k = _
      rw [look_filter, look_mapc]
    have back : ∀ {k o}, look t.hp k = some o → k ≠ id ∧ ∃ o', look s.hp k = some o' ∧ o = o'.mapc f := by
      intro k o hk
      rw [hlook] at hk
      split at hk
      · cases hk
      · rename_i hne
        cases ho : look s.hp k with
        | none => rw [ho] at hk; cases hk
        | some o' => rw [ho] at hk; exact ⟨hne, o', rfl, by simpa using hk.symm⟩
    have hA : ∀ b, b < w.heap.size → Im E ψ s.hp b → Im E ψ t.hp b := by
      rintro b _ ⟨h1, h2⟩
      refine ⟨h1, ?_⟩
      rintro ⟨k, o, ho, hq⟩
      obtain ⟨_, o', ho', _⟩ := back ho
      exact h2 ⟨k, o', ho', hq⟩
    refine { size := h.size, defers := h.defers.mono hA (fun _ _ _ => rfl), par := h.par, old := h.old, grow := h.grow, same := h.same, frame := fun x => ?_, obs := ?_, inj := ?_, own := ?_, subs := ?_ }
    · have e : t.get x = (s.get x).mapc f := St.get_mapc f hj x
      rw [e]
      exact (h.frame x).mapc hf hagg htup
    · intro k o hk
      obtain ⟨hne, o', ho', rfl⟩ := back hk
      exact (h.obs k o' ho').mapc hA hf hagg htup
    · intro i i' o o' b hi hi' hb hb'
      obtain ⟨_, o1, h1, _⟩ := back hi
      obtain ⟨_, o2, h2, _⟩ := back hi'
      exact h.inj i i' o1 o2 b h1 h2 hb hb'
    · intro i o b hi hb
      obtain ⟨_, o1, h1, rfl⟩ := back hi
      rw [Ob.org_mapc]
      exact h.own i o1 b h1 hb
    · intro i o b hi hb
      obtain ⟨_, o1, h1, rfl⟩ := back hi
      rw [Ob.multi_mapc]
      exact h.subs i o1 b h1 hb
  have kb : ∀ f : AV → AV, KeepsBut (· == id) ψ ψ s.hp ((s.mapc f).hp.filter (·.1 != id)) := by
    intro f k o hk ho
    have hk : k ≠ id := by simpa using hk
    refine ⟨⟨o.mapc f, ?_, Ob.le_mapc f o⟩, rfl⟩
    rw [look_filter, look_mapc, if_neg hk, ho]; rfl
  have im : ∀ f : AV → AV, ∀ b, b < w.heap.size → Im E ψ s.hp b → Im E ψ ((s.mapc f).hp.filter (·.1 != id)) b := by
    rintro f b _ ⟨h1, h2⟩
    refine ⟨h1, ?_⟩
    rintro ⟨k, o, ho, hq⟩
    rw [look_filter, look_mapc] at ho
    split at ho
    · cases ho
    · cases ho' : look s.hp k with
      | none => rw [ho'] at ho; cases ho
      | some o' => exact h2 ⟨k, o', ho', hq⟩
  unfold St.drop
  cases ho : look s.hp id with
  | none => exact h
  | some o =>
    refine gen (fun x => (x.fc id o).kc (· == id)) rfl (fun _ => rfl) (fun _ => rfl) ?_
    show Turns (Im E ψ s.hp) (Im E ψ ((s.mapc fun x => (x.fc id o).kc (· == id)).hp.filter (·.1 != id))) ψ ψ s.hp ((s.mapc fun x => (x.fc id o).kc (· == id)).hp.filter (·.1 != id)) w w (fun x => (x.fc id o).kc (· == id))
    have im1 := im fun x => (x.fc id o).kc (· == id)
    have kb1 := kb fun x => (x.fc id o).kc (· == id)
    have hH2 : ∀ k' o', look ((s.mapc fun x => (x.fc id o).kc (· == id)).hp.filter (·.1 != id)) k' = some o' → k' ≠ id ∧ ∃ o1, look s.hp k' = some o1 := by
      intro k' o' ho'
      rw [look_filter, look_mapc] at ho'
      split at ho'
      · cases ho'
      · rename_i hne
        cases ho1 : look s.hp k' with
        | none => rw [ho1] at ho'; cases ho'
        | some o1 => exact ⟨hne, o1, rfl⟩
    generalize ((s.mapc fun x => (x.fc id o).kc (· == id)).hp.filter (·.1 != id)) = H2 at im1 kb1 hH2 ⊢
    intro x v hx hn1 hn2
    have hkc := turns_kc (p := (· == id)) (w := w) (w' := w) im1 (fun _ _ _ => rfl) kb1
    have hob := h.obs id _ ho
    have hin : o.isLent = false → ∀ b, Owns ψ id b → Im E ψ H2 b := by
      intro hl b hb
      refine ⟨.inr ?_, ?_⟩
      · rcases h.own id _ b ho hb with ⟨h1, _⟩ | h1
        · have e : o.org id = id := by cases o <;> first | rfl | cases hl
          rw [e] at h1
          have := E.big id h1; omega
        · exact h1
      · rintro ⟨k', o', ho', hq⟩
        obtain ⟨hne, o1, ho1⟩ := hH2 k' o' ho'
        exact hne (h.inj k' id o1 _ b ho1 ho hq hb)
    have hin' : o.isLent = false → ∀ b k, ψ id = some (b, k) → Im E ψ H2 b := fun hl b k hb => hin hl b (.inl ⟨k, hb⟩)
    have jk : ∀ {v}, RAV (Im E ψ H2) ψ H2 w (AV.junk.kc (· == id)) v := .junk _
    cases hx with
    | sl0 j sz' o' m hj he hb =>
      by_cases hji : j = id
      · subst hji
        rw [ho] at hj; cases hj
        simp only [AV.fc, if_true]
        cases o with
        | list sz xs =>
          simp only [AV.kc]
          rw [List.take_zero]
          exact .iv _ _ (.lnil _)
        | listo sz xs hole =>
          cases hole with
          | none =>
            simp only [AV.kc]
            rw [List.take_zero]
            exact .iv _ _ (.lnil _)
          | some q => exact jk
        | _ => exact jk
      · have := hkc _ _ (.sl0 j sz' o' m hj he hb) (by simp) (by simp)
        simpa [AV.fc, hji] using this
    | sl j sz' lo len b k cap ad o' m hj he hxl hb ha hlc hk hm =>
      by_cases hji : j = id
      · subst hji
        rw [ho] at hj; cases hj
        simp only [AV.fc, if_true]
        cases o with
        | list sz xs =>
          simp only [Ob.dim, Option.some.injEq, Prod.mk.injEq] at he
          obtain ⟨rfl, rfl⟩ := he
          exact .iv _ _ (riv_of_list hob im1 (hin' rfl) hb ha hlc hxl)
        | listo sz xs hole =>
          simp only [Ob.dim, Option.some.injEq, Prod.mk.injEq] at he
          obtain ⟨rfl, rfl⟩ := he
          cases hole with
          | none => exact .iv _ _ (riv_of_listo hob im1 (hin rfl) hb ha hlc hxl)
          | some q => exact jk
        | _ => exact jk
      · have := hkc _ _ (.sl j sz' lo len b k cap ad o' m hj he hxl hb ha hlc hk hm) (by simp) (by simp)
        simpa [AV.fc, hji] using this
    | ep j sz' i off b k o' m hj he hi hb =>
      by_cases hji : j = id
      · subst hji
        rw [ho] at hj; cases hj
        simp only [AV.fc, if_true]
        cases o with
        | list sz xs =>
          simp only [Ob.dim, Option.some.injEq, Prod.mk.injEq] at he
          obtain ⟨rfl, rfl⟩ := he
          exact .iv _ _ (riv_of_elem hob im1 (hin' rfl) hb hi)
        | _ => exact jk
      · have := hkc _ _ (.ep j sz' i off b k o' m hj he hi hb) (by simp) (by simp)
        simpa [AV.fc, hji] using this
    | mpr j b k o' hj hb =>
      by_cases hji : j = id
      · subst hji
        rw [ho] at hj; cases hj
        simp only [AV.fc, if_true]
        cases o with
        | map sk g =>
          obtain ⟨b', es, clock, g1, g2, g3, g4⟩ := hob
          rw [g1] at hb; cases hb
          exact .iv _ _ (riv_of_rmap g2 g3 g4 im1 (hin' rfl _ _ g1))
        | mapo sk sz g hole =>
          cases hole with
          | none => exact .iv _ _ (riv_of_mapo hob im1 (hin rfl) hb)
          | some q => exact jk
        | _ => exact jk
      · have := hkc _ _ (.mpr j b k o' hj hb) (by simp) (by simp)
        simpa [AV.fc, hji] using this
    | ptr j off b k o' hj hb =>
      by_cases hji : j = id
      · subst hji
        rw [ho] at hj; cases hj
        simp only [AV.fc, if_true]
        cases o with
        | box cs =>
          have e : ∀ A H, (∀ l, ivAll cs = some l → RAV A ψ H w (.iv (.pt (l.drop off))) (.pointer (some ⟨b, off, none⟩))) →
              RAV A ψ H w (AV.kc (· == j) (match ivAll cs with | some l => .iv (.pt (l.drop off)) | none => .junk)) (.pointer (some ⟨b, off, none⟩)) := by
            intro A H hh
            split
            · rename_i l hl; exact hh l hl
            · exact .junk _
          exact e _ _ fun l hl => .iv _ _ (riv_of_box hob hl im1 (hin' rfl) hb)
        | _ => exact jk
      · have := hkc _ _ (.ptr j off b k o' hj hb) (by simp) (by simp)
        simpa [AV.fc, hji] using this
    | iv x v hx => exact hkc _ _ (.iv x v hx) (fun _ h => by cases h) (fun _ h => by cases h)
    | nil sz' => exact .nil sz'
    | fn g first caps vf vc hf hc h1 h2 =>
      have hcap : ∀ {c : CapV} {v : Value}, (c.fc id o).of (· == id) = false → RCap (Im E ψ s.hp) ψ s.hp w c v →
          RCap (Im E ψ H2) ψ H2 w (c.fc id o) v := by
        intro c v hp hr
        cases hr with
        | val x v hx => exact .val x v (hx.mono im1 (fun _ _ _ => rfl))
        | ptr j off b k o' hj hb =>
          by_cases hji : j = id
          · subst hji
            rw [ho] at hj; cases hj
            simp only [CapV.fc, if_true] at hp ⊢
            cases o with
            | box cs =>
              dsimp only at hp ⊢
              cases hl : ivAll cs with
              | none => rw [hl] at hp; simp [CapV.of] at hp
              | some l => exact .val _ _ (riv_of_box hob hl im1 (hin' rfl) hb)
            | _ => simp [CapV.of] at hp
          · simp only [CapV.fc, if_neg hji]
            obtain ⟨⟨o2, q1, _⟩, q2⟩ := kb1 j o' (by simpa using hji) hj
            exact .ptr j off b k o2 q1 hb
      simp only [AV.fc, AV.kc]
      split
      · exact .junk _
      · rename_i hp
        simp only [Bool.or_eq_true, List.any_eq_true, not_or, not_exists, not_and, Bool.not_eq_true, List.mem_map, forall_exists_index, and_imp, forall_apply_eq_imp_iff₂] at hp
        refine .fn g _ _ vf vc (by simpa using hf) (by simpa using hc) (fun i c h => ?_) (fun i c h => ?_) <;> rw [List.getElem?_map] at h
        · cases hi : first[i]? with
          | none => rw [hi] at h; cases h
          | some c0 => rw [hi] at h; cases h; exact hcap (hp.1 c0 (List.mem_of_getElem? hi)) (h1 i c0 hi)
        · cases hi : caps[i]? with
          | none => rw [hi] at h; cases h
          | some c0 => rw [hi] at h; cases h; exact hcap (hp.2 c0 (List.mem_of_getElem? hi)) (h2 i c0 hi)
    | agg cs vs hl h => exact (hn1 cs rfl).elim
    | tup cs vs hl h => exact (hn2 cs rfl).elim
    | un => exact .un
    | junk v => exact .junk v
end
end Go.Vm
end

/- What keeps a state: references go, a new object, a changed one. No program in sight. -/
section
namespace Go.Vm
section
variable {E : En} {n : Nat} {ψ : Pl} {s : St} {a : Act} {w : World}
def St.lone (id : Nat) (s : St) : St := s.mapc (AV.kc (· == id))
theorem look_lone (id k : Nat) : look (s.lone id).hp k = (look s.hp k).map (Ob.mapc (AV.kc (· == id))) := look_mapc _ _
theorem SimAt.lone (h : SimAt E n ψ s a w) (id : Nat) : SimAt E n ψ (s.lone id) a w := by
  have back : ∀ {k o}, look (s.lone id).hp k = some o → ∃ o', look s.hp k = some o' ∧ o = o'.mapc (AV.kc (· == id)) := by
    intro k o hk
    rw [look_lone] at hk
    cases ho : look s.hp k with
    | none => rw [ho] at hk; cases hk
    | some o' => rw [ho] at hk; exact ⟨o', rfl, by simpa using hk.symm⟩
  have hA : ∀ b, b < w.heap.size → Im E ψ s.hp b → Im E ψ (s.lone id).hp b := by
    rintro b _ ⟨h1, h2⟩
    refine ⟨h1, ?_⟩
    rintro ⟨k, o, ho, hq⟩
    obtain ⟨o', ho', _⟩ := back ho
    exact h2 ⟨k, o', ho', hq⟩
  have hk : KeepsBut (· == id) ψ ψ s.hp (s.lone id).hp := by
    intro k o _ ho
    exact ⟨⟨_, by rw [look_lone, ho]; rfl, Ob.le_mapc _ o⟩, rfl⟩
  have hf := turns_kc (p := (· == id)) hA (fun _ _ _ => rfl) hk (w' := w)
  refine { size := h.size, defers := h.defers.mono hA (fun _ _ _ => rfl), par := h.par, old := h.old, grow := h.grow, same := h.same, frame := fun x => ?_, obs := ?_, inj := ?_, own := ?_, subs := ?_ }
  · have e : (s.lone id).get x = (s.get x).mapc (AV.kc (· == id)) := St.get_mapc _ rfl x
    rw [e]
    exact (h.frame x).mapc hf (fun _ => rfl) (fun _ => rfl)
  · intro k o hk
    obtain ⟨o', ho', rfl⟩ := back hk
    exact (h.obs k o' ho').mapc hA hf (fun _ => rfl) (fun _ => rfl)
  · intro i i' o o' b hi hi' hb hb'
    obtain ⟨o1, h1, _⟩ := back hi
    obtain ⟨o2, h2, _⟩ := back hi'
    exact h.inj i i' o1 o2 b h1 h2 hb hb'
  · intro i o b hi hb
    obtain ⟨o1, h1, rfl⟩ := back hi
    rw [Ob.org_mapc]
    exact h.own i o1 b h1 hb
  · intro i o b hi hb
    obtain ⟨o1, h1, rfl⟩ := back hi
    rw [Ob.multi_mapc]
    exact h.subs i o1 b h1 hb
def St.add (s : St) (id : Nat) (o : Ob) : St := { s with hp := (id, o) :: s.hp }
theorem look_add (id k : Nat) (o : Ob) : look (s.add id o).hp k = if id = k then some o else look s.hp k := by
  simp only [St.add, look]
def upd (ψ : Pl) (id : Nat) (p : Option (Nat × (Nat × Nat))) : Pl := ⟨fun j => if j = id then p else ψ j, fun j b => j ≠ id ∧ ψ.sub j b⟩
theorem owns_upd_same (id : Nat) (p : Option (Nat × (Nat × Nat))) {b : Nat} (h : Owns (upd ψ id p) id b) : ∃ k, p = some (b, k) := by
  rcases h with ⟨k, h⟩ | h
  · simp only [upd, if_true] at h; exact ⟨k, h⟩
  · exact absurd rfl h.1
theorem owns_upd_ne {id j : Nat} (p : Option (Nat × (Nat × Nat))) {b : Nat} (hj : j ≠ id) : Owns (upd ψ id p) j b ↔ Owns ψ j b := by
  simp [Owns, upd, hj]
theorem SimAt.new (h : SimAt E n ψ s a w) {id : Nat} (hid : id < 1000) (hno : look s.hp id = none) {o : Ob} {w' : World} (hx : Ext w w') {p : Option (Nat × (Nat × Nat))}
    (hp : ∀ b k, p = some (b, k) → w.heap.size ≤ b)
    (ho : ROb (fun b => b < w.heap.size ∧ Im E ψ s.hp b) (upd ψ id p) (s.add id o).hp w' id o) : SimAt E n (upd ψ id p) (s.add id o) a w' := by
  have hne : ∀ {k o}, look s.hp k = some o → k ≠ id := by rintro k o hk rfl; rw [hno] at hk; cases hk
  have hlt : ∀ {k o b}, look s.hp k = some o → Owns ψ k b → b < w.heap.size := fun hk hb => h.lt hk hb
  have hI : ∀ b, b < w.heap.size → Im E ψ s.hp b → Im E (upd ψ id p) (s.add id o).hp b := by
    rintro b hb ⟨h1, h2⟩
    refine ⟨h1, ?_⟩
    rintro ⟨k, ob, hk, hq⟩
    rw [look_add] at hk
    by_cases he : id = k
    · subst he
      obtain ⟨q, hq⟩ := owns_upd_same _ _ hq
      have := hp _ _ hq
      omega
    · rw [if_neg he] at hk
      exact h2 ⟨k, ob, hk, (owns_upd_ne p (Ne.symm he)).1 hq⟩
  have hw : ∀ b, b < w.heap.size → Im E ψ s.hp b → w'.heap[b]? = w.heap[b]? := fun b hb _ => hx.block b hb
  have hk : Keeps ψ (upd ψ id p) s.hp (s.add id o).hp := by
    intro k ob hk
    have hne := hne hk
    refine ⟨⟨ob, ?_, ob.le_refl⟩, ?_⟩
    · rw [look_add, if_neg (Ne.symm hne)]; exact hk
    · simp [upd, hne]
  refine { size := h.size, defers := h.defers.mono hI hw, frame := fun t => (h.frame t).mono hI hw hk, obs := ?_, inj := ?_, own := ?_, subs := ?_, par := ?_, old := ?_, grow := ?_, same := ?_ }
  · intro k ob hko
    rw [look_add] at hko
    by_cases he : id = k
    · subst he
      rw [if_pos rfl] at hko
      cases hko
      exact ho.mono (fun b _ hb => hI b hb.1 hb.2) (fun _ _ _ => rfl) (Keeps.refl _ _) ⟨rfl, fun _ h => h⟩ (fun _ _ => rfl)
    · rw [if_neg he] at hko
      exact (h.obs k ob hko).mono hI hw hk ⟨by simp [upd, Ne.symm he], fun b hb => ⟨Ne.symm he, hb⟩⟩ fun b hb => hx.block b (hlt hko hb)
  · intro i i' o1 o2 b hi hi' hb hb'
    rw [look_add] at hi hi'
    by_cases e1 : id = i
    · by_cases e2 : id = i'
      · exact e1.symm.trans e2
      · subst e1
        rw [if_neg e2] at hi'
        obtain ⟨q, hb⟩ := owns_upd_same _ _ hb
        have hb' := (owns_upd_ne p (Ne.symm e2)).1 hb'
        have := hp _ _ hb
        have := hlt hi' hb'
        omega
    · by_cases e2 : id = i'
      · subst e2
        rw [if_neg e1] at hi
        obtain ⟨q, hb'⟩ := owns_upd_same _ _ hb'
        have hb := (owns_upd_ne p (Ne.symm e1)).1 hb
        have := hp _ _ hb'
        have := hlt hi hb
        omega
      · rw [if_neg e1] at hi
        rw [if_neg e2] at hi'
        exact h.inj i i' o1 o2 b hi hi' ((owns_upd_ne p (Ne.symm e1)).1 hb) ((owns_upd_ne p (Ne.symm e2)).1 hb')
  · intro i o1 b hi hb
    rw [look_add] at hi
    by_cases e1 : id = i
    · subst e1
      obtain ⟨q, hb⟩ := owns_upd_same _ _ hb
      exact .inr (.inr (Nat.le_trans h.grow (hp _ _ hb)))
    · rw [if_neg e1] at hi
      exact h.own i o1 b hi ((owns_upd_ne p (Ne.symm e1)).1 hb)
  · intro i o1 b hi hb
    rw [look_add] at hi
    rw [if_neg (Ne.symm hb.1)] at hi
    obtain ⟨g1, g2, g3⟩ := h.subs i o1 b hi hb.2
    exact ⟨g1, Nat.lt_of_lt_of_le g2 hx.size, fun k => by simp only [upd, if_neg hb.1]; exact g3 k⟩
  · intro i hi
    have : i ≠ id := by have := E.big i hi; omega
    simp only [upd, if_neg this]
    exact h.par i hi
  · intro b hb hm
    rw [hx.block b (Nat.lt_of_lt_of_le hb h.grow)]; exact h.old b hb hm
  · exact Nat.le_trans h.grow hx.size
  · exact ⟨hx.same.1.trans h.same.1, hx.same.2.1.trans h.same.2.1, hx.same.2.2.trans h.same.2.2⟩
theorem SimAt.chg (h : SimAt E n ψ s a w) {id : Nat} {o o' : Ob} (hold : look s.hp id = some o) (hle : o.le o') (horg : o'.org id = o.org id) (hmul : o.multi = true → o'.multi = true) {w' : World} {b : Nat} {k : Nat × Nat} (hb : ψ id = some (b, k))
    (hw : ∀ i, i ≠ b → w'.heap[i]? = w.heap[i]?) (hsz : w'.heap.size = w.heap.size) (hs : w'.os = w.os ∧ w'.tape = w.tape ∧ w'.output = w.output)
    (ho : (∀ x v, RAV (Im E ψ s.hp) ψ s.hp w x v → RAV (Im E ψ (s.add id o').hp) ψ (s.add id o').hp w' x v) →
      (∀ x v, RIV (Im E ψ s.hp) w x v → RIV (Im E ψ (s.add id o').hp) w' x v) → ROb (Im E ψ (s.add id o').hp) ψ (s.add id o').hp w' id o') :
    SimAt E n ψ (s.add id o') a w' := by
  have hheld : ∀ i, Held ψ (s.add id o').hp i ↔ Held ψ s.hp i := by
    intro i
    constructor
    · rintro ⟨j, ob, hj, hq⟩
      rw [look_add] at hj
      by_cases e : id = j
      · subst e; exact ⟨id, o, hold, hq⟩
      · rw [if_neg e] at hj; exact ⟨j, ob, hj, hq⟩
    · rintro ⟨j, ob, hj, hq⟩
      by_cases e : id = j
      · subst e; exact ⟨id, o', by rw [look_add, if_pos rfl], hq⟩
      · exact ⟨j, ob, by rw [look_add, if_neg e]; exact hj, hq⟩
  have hI : ∀ i, i < w.heap.size → Im E ψ s.hp i → Im E ψ (s.add id o').hp i := fun i _ h => ⟨h.1, fun hh => h.2 ((hheld i).1 hh)⟩
  have hB : Held ψ s.hp b := ⟨id, o, hold, .inl ⟨k, hb⟩⟩
  have hw' : ∀ i, i < w.heap.size → Im E ψ s.hp i → w'.heap[i]? = w.heap[i]? := fun i _ h => hw i (fun e => h.2 (e ▸ hB))
  have hk : Keeps ψ ψ s.hp (s.add id o').hp := by
    intro j ob hj
    refine ⟨?_, rfl⟩
    by_cases e : id = j
    · subst e
      rw [hold] at hj; cases hj
      exact ⟨o', by rw [look_add, if_pos rfl], hle⟩
    · exact ⟨ob, by rw [look_add, if_neg e]; exact hj, ob.le_refl⟩
  refine { size := h.size, defers := h.defers.mono hI hw', frame := fun t => (h.frame t).mono hI hw' hk, obs := ?_, inj := ?_, own := ?_, subs := ?_, par := h.par, old := ?_, grow := ?_, same := ?_ }
  · intro j ob hj
    rw [look_add] at hj
    by_cases e : id = j
    · subst e
      rw [if_pos rfl] at hj; cases hj
      exact ho (fun x v hx => hx.mono hI hw' hk) (fun x v hx => hx.mono hI hw')
    · rw [if_neg e] at hj
      refine (h.obs j ob hj).mono hI hw' hk ⟨rfl, fun _ h => h⟩ fun i hi => hw i ?_
      rintro rfl
      exact e (h.inj id j o ob i hold hj (.inl ⟨k, hb⟩) hi)
  · have conv : ∀ {i o1}, look (s.add id o').hp i = some o1 → ∃ o2, look s.hp i = some o2 := by
      intro i o1 hi
      rw [look_add] at hi
      by_cases e : id = i
      · subst e; exact ⟨o, hold⟩
      · rw [if_neg e] at hi; exact ⟨o1, hi⟩
    intro i i' o1 o2 x hi hi' hx hx'
    obtain ⟨_, g1⟩ := conv hi
    obtain ⟨_, g2⟩ := conv hi'
    exact h.inj i i' _ _ x g1 g2 hx hx'
  · intro i o1 x hi hx
    rw [look_add] at hi
    by_cases e : id = i
    · subst e
      rw [if_pos rfl] at hi; cases hi
      rw [horg]
      exact h.own id o x hold hx
    · rw [if_neg e] at hi; exact h.own i o1 x hi hx
  · intro i o1 x hi hx
    rw [look_add] at hi
    by_cases e : id = i
    · subst e
      rw [if_pos rfl] at hi; cases hi
      obtain ⟨g1, g2, g3⟩ := h.subs id o x hold hx
      exact ⟨hmul g1, by rw [hsz]; exact g2, g3⟩
    · rw [if_neg e] at hi
      obtain ⟨g1, g2, g3⟩ := h.subs i o1 x hi hx
      exact ⟨g1, by rw [hsz]; exact g2, g3⟩
  · intro i hi hm
    rw [hw i ?_]
    · exact h.old i hi hm
    · rintro rfl
      rcases h.own id o i hold (.inl ⟨k, hb⟩) with ⟨h1, h2⟩ | h1
      · exact hm (.inl ⟨_, h1, h2⟩)
      · exact E.no hi hm h1
  · rw [hsz]; exact h.grow
  · exact ⟨hs.1.trans h.same.1, hs.2.1.trans h.same.2.1, hs.2.2.trans h.same.2.2⟩
theorem setCell_block (w : World) (a : Addr) (v : Value) (i : Nat) (h : i ≠ a.block) : (w.setCell a v).heap[i]? = w.heap[i]? := by
  simp only [World.setCell, Array.getElem?_modify]
  rw [if_neg (fun e => h e.symm)]
theorem setCell_at (w : World) (b o : Nat) (v : Value) {c : Array Value} {e : TypeId} {f : Nat × Nat} (h : w.heap[b]? = some (.cells c e f)) :
    (w.setCell ⟨b, o, none⟩ v).heap[b]? = some (.cells (c.setIfInBounds o v) e f) := by
  simp only [World.setCell, Array.getElem?_modify, if_true, h, Option.map_some]
  rfl
end
end Go.Vm
end

/- The abstract machine's operations, out of the model's by a program's tables, and what each does to a state. -/
section
namespace Go.Vm
inductive Rhs where
  | mov (x : Operand)
  | nils (sz : Nat)
  | pick (c a b : Operand)
  | alloc (z : List AV)
  | box (x : Operand)
  | build (z : List AV) (parts : List (Nat × Nat × Operand))
  | lit (sz len : Nat) (parts : List (Nat × Operand))
  | ld (a : Operand) (n : Option Nat)
  | st (a x : Operand) (n : Nat)
  | chk (x : Operand)
  | bin (op : BinOp) (x y : Operand)
  | beq (neg : Bool) (x y : Operand)
  | peq (neg : Bool) (x y : Operand)
  | eqs (neg : Bool) (ks : List Kd) (x y : Operand)
  | un (op : UnOp) (x : Operand)
  | cvt (k : IntKind) (x : Operand)
  | cut (sz : Nat) (x : Operand) (lo hi : Option Operand)
  | fa (off : Nat) (x : Operand)
  | fld (off : Nat) (n : Option Nat) (x : Operand)
  | ia (sz : Nat) (x i : Operand)
  | is (x i : Operand)
  | ext (i : Nat) (x : Operand)
  | len (x : Operand)
  | lens (x : Operand)
  | app (sz bytes : Nat) (x y : Operand)
  | mm (max : Bool) (xs : List Operand)
  | call (f : FuncId) (args : List Operand)
  | callv (x : Operand) (args : List Operand)
  | mkfn (f : FuncId) (first caps : List Operand)
  | mks (sz bytes : Nat) (z : List AV) (l c : Operand)
  | mkmap (sk : Sk)
  | lkp (sk : Sk) (z : List AV) (m k : Operand) (ok : Bool)
  | mset (sk : Sk) (m k x : Operand)
  | mdel (sk : Sk) (m k : Operand)
  | lenm (x : Operand)
  | snil (neg : Bool) (x : Operand)
  | cpy (sz : Nat) (x y : Operand)
  | ment (sk : Sk) (z : List AV) (m k : Operand)
  | est (m st x : Operand)
  | rng (sk : Sk) (x : Operand)
  | nxt (x : Operand)
  | ent (x : Operand)
  deriving Inhabited
structure VOp where
  d : Option Nat
  g : Option (Nat × Bool)
  r : Rhs
  deriving Inhabited
def zav (sz : Nat) : Value → AV
  | .slice none 0 0 => .nil sz
  | .agg _ => .junk
  | .tuple _ => .junk
  | v => .iv (.v v)
def AV.const : Value → AV
  | .agg cs => .agg (cs.toList.map (zav 0))
  | v => zav 0 v
def St.ev (s : St) : Operand → AV
  | .tmp t => s.get t
  | .const v => AV.const v
  | .global _ => .junk
  | .func f => .fn f [] []
def infoSize (P : Program) (t : TypeId) : Option Nat := (P.info? t).map (·.size)
def szOf (P : Program) (t : TypeId) : Nat := match P.underlying t with
  | some (.slice e) => (infoSize P e).getD 0
  | _ => 0
def cellSz (P : Program) : Nat → TypeId → List Nat
  | 0, _ => []
  | d + 1, t => match P.underlying t with
    | some (.struct fs) => fs.toList.flatMap fun f => cellSz P d f.type
    | some (.array k e) => (List.replicate k ()).flatMap fun _ => cellSz P d e
    | some (.slice e) => [(infoSize P e).getD 0]
    | _ => [0]
def zcells : List Value → List Nat → List AV
  | [], _ => []
  | v :: r, [] => zav 0 v :: zcells r []
  | v :: r, n :: q => zav n v :: zcells r q
def zeroAV (P : Program) (t : TypeId) : Option (List AV) := do
  let i ← P.info? t
  let z ← i.zero
  pure (zcells z.cells.toList (cellSz P 20 t))
def isAggT (P : Program) (t : TypeId) : Bool := match P.underlying t with
  | some (.struct _) | some (.array ..) => true
  | _ => false
def plainK (P : Program) : Nat → TypeId → Option (List Kd)
  | 0, _ => none
  | d + 1, t => match P.underlying t with
    | some .bool => some [.b]
    | some (.int k) => some [.i k]
    | some .string => some [.s]
    | some (.struct fs) => if P.stoodInHeld t then none else fs.toList.foldlM (fun ks f => if f.name ≠ "_" ∧ f.offset = ks.length then
        (plainK P d f.type).bind fun q => if infoSize P f.type = some q.length then some (ks ++ q) else none else none) []
    | _ => none
def skT (P : Program) (t e : TypeId) : Option Sk := (plainK P 20 t).bind fun l => if infoSize P t = some l.length then (if (P.underlying e).isSome then some (isAggT P t, l, isAggT P e) else none) else none
def keyCell : AV → Option (Kd × Value)
  | .iv (.v u) => (kdOf u).map fun k => (k, u)
  | _ => none
def keyAV : AV → Option ((Bool × List Kd) × List Value)
  | .iv (.v u) => (kdOf u).map fun k => ((false, [k]), [u])
  | .agg cs => (cs.mapM keyCell).map fun (l : List (Kd × Value)) => ((true, l.map (·.1)), l.map (·.2))
  | _ => none
open Classical in
noncomputable def gset {β : Type} (g : List Value → Option β) (k : List Value) (c : Option β) : List Value → Option β := fun q => if q = k then c else g q
open Classical in
noncomputable def rmk (k : List Value) (l : List (List Value)) : List (List Value) := l.filter fun q => decide (q ≠ k)
def isAggAV : AV → Bool
  | .agg _ => true
  | _ => false
def packAV (agg : Bool) (cs : List AV) : AV := if agg then .agg cs else match cs with | [x] => x | _ => .junk
def lkR (z : List AV) (agg ok : Bool) : Option (List IV) → AV
  | some c => if ok then .tup [packAV agg (c.map .iv), .iv (.v (.bool true))] else packAV agg (c.map .iv)
  | none => if ok then .tup [packAV agg z, .iv (.v (.bool false))] else packAV agg z
def St.mapOf (s : St) : AV → Option (Sk × (List Value → Option (List IV)))
  | .mpr id => match look s.hp id with
    | some (.map sk g) => some (sk, g)
    | some (.mapS sk g _ _) => some (sk, g)
    | _ => none
  | .iv (.mp sk g) => some (sk, g)
  | _ => none
def St.moOf (s : St) : AV → Option (Nat × Sk × Nat × (List Value → Option (List (List IV))) × Option (List Value))
  | .mpr id => match look s.hp id with
    | some (.mapo sk sz g hole) => some (id, sk, sz, g, hole)
    | _ => none
  | _ => none
def St.kill (id : Nat) (s : St) : St :=
  let t := s.mapc (AV.kc (· == id))
  { t with hp := t.hp.filter (·.1 != id) }
def Ob.org? : Ob → Option Nat
  | .lent org _ _ => some org
  | _ => none
def okFn (P : Program) (f : FuncId) : Bool := match P.funcs[f]? with
  | some fn => fn.name != "runtime.NumGoroutine" && fn.body.isSome
  | none => false
def okGuard (ops : Array Oper) (o : Oper) : Option (Option (Nat × Bool)) := match o.guard with
  | none => some none
  | some (j, b) => ((ops[j]?).bind (·.dst)).map fun d => some (d, b)
def comp (P : Program) (o : Oper) : Option Rhs :=
  match o.op with
  | .move x | .assign x => match x with
    | .const (.slice none 0 0) => some (.nils (szOf P o.type))
    | x => some (.mov x)
  | .pick c a b => some (.pick c a b)
  | .alloc t => (zeroAV P t).map .alloc
  | .box _ x => some (.box x)
  | .build t parts => match P.underlying t with
    | some (.struct fs) => if fs.all (fun f => (infoSize P f.type).isSome) then do
        let z ← zeroAV P t
        let l ← parts.toList.mapM fun (p : Nat × Operand) => do
          let f ← fs[p.1]?
          let n ← infoSize P f.type
          pure (f.offset, n, p.2)
        pure (.build z l)
      else none
    | _ => none
  | .buildSlice t len parts => match P.underlying t with
    | some (.slice e) => do
      let sz ← infoSize P e
      if parts.size = len ∧ (parts.toList.map (·.1)) = List.range len ∧ 0 < sz ∧ len * sz ≤ 2 ^ 24 then do
        let _ ← zeroAV P e
        pure (.lit sz len parts.toList)
      else none
    | _ => none
  | .load t a => do
    let _ ← P.underlying t
    if isAggT P t then (infoSize P t).map fun n => .ld a (some n) else pure (.ld a none)
  | .store t a x => (infoSize P t).map fun n => .st a x n
  | .nilCheck x => some (.chk x)
  | .binOp op xt x y _ => match P.underlying xt with
    | some (.int _) | some .string => some (.bin op x y)
    | some .bool => match op with
      | .eql => some (.beq false x y)
      | .neq => some (.beq true x y)
      | _ => none
    | some (.pointer _) => match op with
      | .eql => some (.peq false x y)
      | .neq => some (.peq true x y)
      | _ => none
    | some (.slice _) => match op, y with
      | .eql, .const (.slice none 0 0) => some (.snil false x)
      | .neq, .const (.slice none 0 0) => some (.snil true x)
      | _, _ => none
    | some (.struct _) => if P.eqGuardType P.depth xt = false then (plainK P 20 xt).bind fun ks => if infoSize P xt ≠ some ks.length then none else match op with
        | .eql => some (.eqs false ks x y)
        | .neq => some (.eqs true ks x y)
        | _ => none
      else none
    | _ => none
  | .unOp op _ x => some (.un op x)
  | .convert s d x => match P.underlying s, P.underlying d with
    | some (.int _), some (.int k) => some (.cvt k x)
    | _, _ => none
  | .makeFunc (.func f) first caps => some (.mkfn f first.toList caps.toList)
  | .makeMap t none => match P.underlying t with
    | some (.map k e) => (skT P k e).map .mkmap
    | _ => none
  | .makeSlice t l c => match P.underlying t with
    | some (.slice e) => do
      let i ← P.info? e
      let z ← zeroAV P e
      if z.length = i.size ∧ 0 < i.size then pure (.mks i.size i.bytes z l c) else none
    | _ => none
  | .slice t x lo hi none => match P.underlying t with
    | some (.slice e) => (infoSize P e).map fun sz => .cut sz x lo hi
    | _ => none
  | .fieldAddr st x f => match P.underlying st with
    | some (.struct fs) => do
      let f ← fs[f]?
      let n ← infoSize P f.type
      if n = 0 then none else pure (.fa f.offset x)
    | _ => none
  | .field st x f => match P.underlying st with
    | some (.struct fs) => do
      let f ← fs[f]?
      let n ← infoSize P f.type
      let _ ← P.underlying f.type
      pure (.fld f.offset (if isAggT P f.type then some n else none) x)
    | _ => none
  | .indexAddr t x i => match P.underlying t with
    | some (.slice e) => (infoSize P e).map fun sz => .ia sz x i
    | _ => none
  | .index t x i => match P.underlying t with
    | some .string => some (.is x i)
    | _ => none
  | .lookup t m k ok => match P.underlying t with
    | some (.map k' e) => do
      let sk ← skT P k' e
      let z ← zeroAV P e
      if ((P.info? e).bind (·.zero)).map isAggV = some (isAggT P e) then pure (.lkp sk z m k ok) else none
    | _ => none
  | .mapEntry t m k => match P.underlying t with
    | some (.map k' e) => do
      let sk ← skT P k' e
      let z ← zeroAV P e
      if ((P.info? e).bind (·.zero)).map isAggV = some (isAggT P e) then pure (.ment sk z m k) else none
    | _ => none
  | .entryStore _ m st x => some (.est m st x)
  | .range t x => match P.underlying t with
    | some (.map k e) => (skT P k e).map fun sk => .rng sk x
    | _ => none
  | .next it false => some (.nxt it)
  | .entry it => some (.ent it)
  | .mapUpdate t m k x | .insert t m k x => match P.underlying t with
    | some (.map k' e) => (skT P k' e).map fun sk => .mset sk m k x
    | _ => none
  | .extract x i => some (.ext i x)
  | .call c => match c.callee with
    | .value (.func f) => if okFn P f then some (.call f c.args.toList) else none
    | .value x => some (.callv x c.args.toList)
    | .builtin .len => match c.args.toList, c.argTypes.toList with
      | [x], [t] => match P.underlying t with
        | some (.slice _) => some (.len x)
        | some .string => some (.lens x)
        | some (.map _ _) => some (.lenm x)
        | _ => none
      | _, _ => none
    | .builtin .append => match c.args.toList, c.argTypes.toList with
      | [x, y], [t, u] => match P.underlying t, P.underlying u with
        | some (.slice e), some (.slice _) => (P.info? e).bind fun i => i.zero.bind fun z => if z.cells.size = i.size then some (.app i.size i.bytes x y) else none
        | _, _ => none
      | _, _ => none
    | .builtin .min => some (.mm false c.args.toList)
    | .builtin .max => some (.mm true c.args.toList)
    | .builtin .delete => match c.args.toList, c.argTypes.toList with
      | [m, k], t :: _ => match P.underlying t with
        | some (.map k' e) => (skT P k' e).map fun sk => .mdel sk m k
        | _ => none
      | _, _ => none
    | .builtin .copy => match c.args.toList, c.argTypes.toList with
      | [x, y], t :: _ => match P.underlying t with
        | some (.slice e) => (infoSize P e).map fun sz => .cpy sz x y
        | _ => none
      | _, _ => none
    | _ => none
  | _ => none
def Ob.els : Ob → Option (Nat × List (List IV))
  | .list sz xs => some (sz, xs)
  | .lent _ sz xs => some (sz, xs)
  | _ => none
def Ob.setEls (o : Ob) (sz : Nat) (xs : List (List IV)) : Ob := match o with
  | .lent org _ _ => .lent org sz xs
  | _ => .list sz xs
theorem els_rob {A : Nat → Prop} {ψ : Pl} {H : Hp} {w : World} {id sz : Nat} {xs : List (List IV)} {o : Ob} (he : o.els = some (sz, xs)) (h : ROb A ψ H w id o) : ROb A ψ H w id (.list sz xs) := by
  cases o <;> simp only [Ob.els, Option.some.injEq, Prod.mk.injEq] at he <;> first | (obtain ⟨rfl, rfl⟩ := he; exact h) | cases he
theorem rob_els {A : Nat → Prop} {ψ : Pl} {H : Hp} {w : World} {id sz sz' : Nat} {xs ys : List (List IV)} {o : Ob} (he : o.els = some (sz', ys)) (h : ROb A ψ H w id (.list sz xs)) : ROb A ψ H w id (o.setEls sz xs) := by
  cases o <;> first | exact h | cases he
theorem els_dim {o : Ob} {sz : Nat} {xs : List (List IV)} (he : o.els = some (sz, xs)) : o.dim = some (sz, xs.length) := by
  cases o <;> simp only [Ob.els, Option.some.injEq, Prod.mk.injEq] at he <;> first | (obtain ⟨rfl, rfl⟩ := he; rfl) | cases he
theorem setEls_dim {o : Ob} {sz sz' : Nat} {xs ys : List (List IV)} (he : o.els = some (sz', ys)) : (o.setEls sz xs).dim = some (sz, xs.length) := by
  cases o <;> first | rfl | cases he
theorem setEls_org {o : Ob} {sz sz' id : Nat} {xs ys : List (List IV)} (he : o.els = some (sz', ys)) : (o.setEls sz xs).org id = o.org id := by
  cases o <;> first | rfl | cases he
theorem els_multi {o : Ob} {sz : Nat} {xs : List (List IV)} (he : o.els = some (sz, xs)) : o.multi = false := by
  cases o <;> first | rfl | cases he
def dstOk (n : Nat) : Option Nat → Bool
  | some d => decide (d < n)
  | none => true
def compOp (P : Program) (n : Nat) (ops : Array Oper) (o : Oper) : Option VOp := do
  let g ← okGuard ops o
  let r ← comp P o
  if dstOk n o.dst then pure ⟨o.dst, g, r⟩ else none
def AV.cellsOf : AV → Option (List AV)
  | .agg cs => some cs
  | .tup _ => none
  | .un => none
  | .junk => none
  | x => some [x]
def AV.one : AV → Bool
  | .agg _ | .tup _ | .un | .junk => false
  | _ => true
def setRange {α : Type} (z : List α) (off : Nat) (cs : List α) : List α := z.take off ++ cs ++ z.drop (off + cs.length)
def AV.iv? : AV → Option IV
  | .iv x => some x
  | .nil sz => some (.lst sz [])
  | _ => none
def St.ivOf (s : St) : AV → Option IV
  | .iv x => some x
  | .nil sz => some (.lst sz [])
  | .sl id sz lo len => match look s.hp id with
    | some (.list sz' xs) => if sz' = sz then some (.lst sz ((xs.drop lo).take len)) else none
    | _ => none
  | _ => none
def St.pure1 (s : St) (x : AV) : AV := match s.ivOf x with | some y => .iv y | none => x
def St.pure (s : St) : AV → AV
  | .agg cs => .agg (cs.map s.pure1)
  | x => s.pure1 x
def AV.ids : AV → List Nat
  | .sl id _ _ _ => [id]
  | .mpr id => [id]
  | .agg cs => cs.flatMap fun | .sl id _ _ _ => [id] | .mpr id => [id] | _ => []
  | _ => []
def St.frz (s : St) (xs : List AV) : St := (xs.flatMap AV.ids).foldl (fun s id => if id < 1000 then s.drop id else s) s
def bits2 (op : BinOp) (k : IntKind) (x y : Int) : Int :=
  let a := BitVec.ofInt k.bits x
  let b := BitVec.ofInt k.bits y
  match op with
  | .and => k.wrap (a &&& b).toNat
  | .or => k.wrap (a ||| b).toNat
  | .xor => k.wrap (a ^^^ b).toNat
  | _ => k.wrap (a &&& ~~~b).toNat
def shift2 (op : BinOp) (k : IntKind) (x y : Int) : Int :=
  match op with
  | .shl => k.wrap (x * 2 ^ (min y.toNat k.bits))
  | _ => x.fdiv (2 ^ (min y.toNat k.bits))
def strEq (a b : ByteArray) : Bool := a.toList == b.toList
def strLt (a b : ByteArray) : Bool := Op.bytesLess a.toList b.toList
def binI (op : BinOp) (k : IntKind) (a b : Int) : Option Value :=
  match op with
  | .add => some (.int k (k.wrap (a + b)))
  | .sub => some (.int k (k.wrap (a - b)))
  | .mul => some (.int k (k.wrap (a * b)))
  | .quo => if b = 0 then none else some (.int k (k.wrap (a.tdiv b)))
  | .rem => if b = 0 then none else some (.int k (a.tmod b))
  | .eql => some (.bool (a == b))
  | .neq => some (.bool (a != b))
  | .lss => some (.bool (decide (a < b)))
  | .leq => some (.bool (decide (a ≤ b)))
  | .gtr => some (.bool (decide (a > b)))
  | .geq => some (.bool (decide (a ≥ b)))
  | .and => some (.int k (bits2 .and k a b))
  | .or => some (.int k (bits2 .or k a b))
  | .xor => some (.int k (bits2 .xor k a b))
  | .andNot => some (.int k (bits2 .andNot k a b))
  | .shl => none
  | .shr => none
def binS (op : BinOp) (a b : ByteArray) : Option Value :=
  match op with
  | .eql => some (.bool (strEq a b))
  | .neq => some (.bool (!strEq a b))
  | .lss => some (.bool (strLt a b))
  | .leq => some (.bool (strLt a b || strEq a b))
  | .gtr => some (.bool (!(strLt a b || strEq a b)))
  | .geq => some (.bool (!strLt a b))
  | _ => none
def binV (op : BinOp) : Value → Value → Option Value
  | .int j a, .int k b => match op with
    | .shl => if b < 0 then none else some (.int j (shift2 .shl j a b))
    | .shr => if b < 0 then none else some (.int j (shift2 .shr j a b))
    | op => if j = k then binI op j a b else none
  | .string a, .string b => binS op a b
  | _, _ => none
def unV (op : UnOp) : Value → Option Value
  | .int k a => match op with
    | .neg => some (.int k (k.wrap (0 - a)))
    | _ => none
  | .bool b => match op with
    | .not => some (.bool (!b))
    | _ => none
  | _ => none
def eqCell : Kd → Value → Value → Option Bool
  | .b, .bool a, .bool b => some (a == b)
  | .i _, .int j a, .int k b => if j = k then some (a == b) else none
  | .s, .string a, .string b => some (a == b)
  | _, _, _ => none
def eqCells : List Kd → List AV → List AV → Option Bool
  | [], [], [] => some true
  | t :: ks, .iv (.v a) :: r, .iv (.v b) :: q => (eqCell t a b).bind fun x => (eqCells ks r q).map fun y => x && y
  | _, _, _ => none
def mmFrom (mx : Bool) (k : IntKind) (n : Int) : List AV → Option (IntKind × Int)
  | [] => some (k, n)
  | .iv (.v (.int _ m)) :: r => mmFrom mx k (if mx then max n m else min n m) r
  | _ => none
def minmax (mx : Bool) : List AV → Option (IntKind × Int)
  | .iv (.v (.int k n)) :: r => mmFrom mx k n r
  | _ => none
def AV.cap : AV → Option CapV
  | .ptr id off => some (.ptr id off)
  | .iv x => some (.val x)
  | .nil sz => some (.val (.lst sz []))
  | _ => none
def CapV.av : CapV → AV
  | .ptr id off => .ptr id off
  | .val x => .iv x
def St.bound (s : St) (d : Nat) : Option Operand → Option Int
  | none => some d
  | some x => match s.ev x with
    | .iv (.v (.int _ n)) => some n
    | _ => none
def St.elems (s : St) : AV → Option (Nat × List (List IV))
  | .iv (.lst sz xs) => some (sz, xs)
  | .nil sz => some (sz, [])
  | .sl id sz lo len => match look s.hp id with
    | some o => match o.els with
      | some (_, xs) => some (sz, (xs.drop lo).take len)
      | none => none
    | none => none
  | _ => none
end Go.Vm
end

/- What a call does, said of the abstract machine's values; the rule for a caller. -/
section
namespace Go.Vm
structure Same (w w' : World) : Prop where
  os : w'.os = w.os
  tape : w'.tape = w.tape
  output : w'.output = w.output
def GSpec (P : Program) (fr : Bool) (f : FuncId) (args : List AV) (H : Hp) (res : AV) (H' : Hp) : Prop :=
  ((∀ id o, look H id = some o → o.isLent = false) ∧ ∀ id o, look H' id = some o → o.isLent = false) ∧ ∀ (A : Nat → Prop) (ψ : Pl) (w : World) (vs : List Value), (∀ b, A b → b < w.heap.size) →
    (∀ id o, look H id = some o → ROb A ψ H w id o) →
    (∀ id id' o o' b, look H id = some o → look H id' = some o' → Owns ψ id b → Owns ψ id' b → id = id') → Subs ψ H w →
    (∀ b, Held ψ H b → ¬ A b) → vs.length = args.length → (∀ i x, args[i]? = some x → RAV A ψ H w x (vs.getD i undef)) →
    Calls P f vs.toArray w fun e w' => ∃ v ψ', e = .returned v ∧
      (∀ b, b < w.heap.size → ¬ Held ψ H b → w'.heap[b]? = w.heap[b]?) ∧ w.heap.size ≤ w'.heap.size ∧ Same w w' ∧
      (∀ id o, look H id = some o → ψ' id = ψ id) ∧
      (∀ id o b, look H' id = some o → Owns ψ' id b → (∃ o0, look H id = some o0 ∧ Owns ψ id b) ∨ w.heap.size ≤ b) ∧
      (∀ id id' o o' b, look H' id = some o → look H' id' = some o' → Owns ψ' id b → Owns ψ' id' b → id = id') ∧ Subs ψ' H' w' ∧
      (∀ id o, look H' id = some o → ROb (fun b => ((fr = false ∧ A b) ∨ w.heap.size ≤ b) ∧ ¬ Held ψ' H' b) ψ' H' w' id o) ∧
      RAV (fun b => ((fr = false ∧ A b) ∨ w.heap.size ≤ b) ∧ ¬ Held ψ' H' b) ψ' H' w' res v
def GSpecN (P : Program) (fr : Bool) (f : FuncId) (args : List AV) (H : Hp) (R : AV → Hp → Prop) : Prop :=
  ((∀ id o, look H id = some o → o.isLent = false) ∧ ∀ res H', R res H' → ∀ id o, look H' id = some o → o.isLent = false) ∧ ∀ (A : Nat → Prop) (ψ : Pl) (w : World) (vs : List Value), (∀ b, A b → b < w.heap.size) →
    (∀ id o, look H id = some o → ROb A ψ H w id o) →
    (∀ id id' o o' b, look H id = some o → look H id' = some o' → Owns ψ id b → Owns ψ id' b → id = id') → Subs ψ H w →
    (∀ b, Held ψ H b → ¬ A b) → vs.length = args.length → (∀ i x, args[i]? = some x → RAV A ψ H w x (vs.getD i undef)) →
    Calls P f vs.toArray w fun e w' => ∃ v ψ' res H', R res H' ∧ e = .returned v ∧
      (∀ b, b < w.heap.size → ¬ Held ψ H b → w'.heap[b]? = w.heap[b]?) ∧ w.heap.size ≤ w'.heap.size ∧ Same w w' ∧
      (∀ id o, look H id = some o → ψ' id = ψ id) ∧
      (∀ id o b, look H' id = some o → Owns ψ' id b → (∃ o0, look H id = some o0 ∧ Owns ψ id b) ∨ w.heap.size ≤ b) ∧
      (∀ id id' o o' b, look H' id = some o → look H' id' = some o' → Owns ψ' id b → Owns ψ' id' b → id = id') ∧ Subs ψ' H' w' ∧
      (∀ id o, look H' id = some o → ROb (fun b => ((fr = false ∧ A b) ∨ w.heap.size ≤ b) ∧ ¬ Held ψ' H' b) ψ' H' w' id o) ∧
      RAV (fun b => ((fr = false ∧ A b) ∨ w.heap.size ≤ b) ∧ ¬ Held ψ' H' b) ψ' H' w' res v
theorem GSpec.n {P : Program} {fr : Bool} {f : FuncId} {args : List AV} {H : Hp} {res : AV} {H' : Hp} (h : GSpec P fr f args H res H') : GSpecN P fr f args H (fun r K => r = res ∧ K = H') :=
  ⟨⟨h.1.1, fun r K e => by obtain ⟨rfl, rfl⟩ := e; exact h.1.2⟩, fun A ψ w vs a b c d e f g => (h.2 A ψ w vs a b c d e f g).mono fun e w' ⟨v, ψ', q⟩ => ⟨v, ψ', res, H', ⟨rfl, rfl⟩, q⟩⟩
theorem GSpecN.one {P : Program} {fr : Bool} {f : FuncId} {args : List AV} {H : Hp} {res : AV} {H' : Hp} {R : AV → Hp → Prop} (h : GSpecN P fr f args H R) (hR : ∀ r K, R r K → r = res ∧ K = H')
    (hl : ∀ id o, look H' id = some o → o.isLent = false) : GSpec P fr f args H res H' :=
  ⟨⟨h.1.1, hl⟩, fun A ψ w vs a b c d e f g => (h.2 A ψ w vs a b c d e f g).mono fun e w' ⟨v, ψ', r, K, hr, q⟩ => by obtain ⟨rfl, rfl⟩ := hR r K hr; exact ⟨v, ψ', q⟩⟩
def Le (s s' : St) : Prop := ∀ E n a w, Sim E n s a w → Sim E n s' a w
theorem Le.refl (s : St) : Le s s := fun _ _ _ _ h => h
theorem Le.trans {s t u : St} (h : Le s t) (k : Le t u) : Le s u := fun E n a w hs => k E n a w (h E n a w hs)
theorem look_append {α : Type} (l r : List (Nat × α)) (k : Nat) : look (l ++ r) k = (look l k).or (look r k) := by
  induction l with
  | nil => simp [look]
  | cons p l ih => obtain ⟨j, x⟩ := p; simp only [List.cons_append, look]; split <;> simp [ih]
def St.join (s : St) (H : Hp) : St := ⟨s.fr, H ++ s.hp⟩
theorem getD_toArray (vs : List Value) (i : Nat) : vs.toArray.getD i undef = vs.getD i undef := by
  simp [Array.getD_eq_getD_getElem?, List.getD]
def CapV.inn (ids : List Nat) : CapV → Bool
  | .ptr id _ => ids.contains id
  | .val _ => true
def AV.inn (ids : List Nat) : AV → Bool
  | .iv _ => true
  | .nil _ => true
  | .sl id _ _ _ => ids.contains id
  | .ptr id _ => ids.contains id
  | .ep id _ _ _ => ids.contains id
  | .mpr id => ids.contains id
  | .fn _ a b => a.all (CapV.inn ids) && b.all (CapV.inn ids)
  | .agg _ => false
  | .tup _ => false
  | .un => true
  | .junk => true
def AV.inns (ids : List Nat) : AV → Bool
  | .agg cs => cs.all (AV.inn ids)
  | x => x.inn ids
theorem RCap.restrict {A A' : Nat → Prop} {ψ : Pl} {H H' : Hp} {w : World} {c : CapV} {v : Value} (h : RCap A ψ H w c v) {ids : List Nat} (hi : c.inn ids = true)
    (hA : ∀ b, b < w.heap.size → A b → A' b) (hH : ∀ id o, ids.contains id = true → look H id = some o → look H' id = some o) : RCap A' ψ H' w c v := by
  cases h with
  | ptr id off b k o ho hb => exact .ptr id off b k o (hH id o hi ho) hb
  | val x v h1 => exact .val x v (h1.mono hA (fun _ _ _ => rfl))
theorem RAV.restrict1 {A A' : Nat → Prop} {ψ : Pl} {H H' : Hp} {w : World} {x : AV} {v : Value} (h : RAV A ψ H w x v) {ids : List Nat} (hi : x.inn ids = true)
    (hA : ∀ b, b < w.heap.size → A b → A' b) (hH : ∀ id o, ids.contains id = true → look H id = some o → look H' id = some o) : RAV A' ψ H' w x v := by
  cases h with
  | iv x v h => exact .iv x v (h.mono hA (fun _ _ _ => rfl))
  | nil sz => exact .nil sz
  | sl0 id sz o n ho he hb => exact .sl0 id sz o n (hH id _ hi ho) he hb
  | sl id sz lo len b k cap a o n ho he hx hb ha hlc hk hm => exact .sl id sz lo len b k cap a o n (hH id _ hi ho) he hx hb ha hlc hk hm
  | ptr id off b k o ho hb => exact .ptr id off b k o (hH id o hi ho) hb
  | ep id sz i off b k o n ho he hi' hb => exact .ep id sz i off b k o n (hH id _ hi ho) he hi' hb
  | mpr id b k o ho hb => exact .mpr id b k o (hH id o hi ho) hb
  | fn f first caps vf vc hf hc h1 h2 =>
    simp only [AV.inn, Bool.and_eq_true, List.all_eq_true] at hi
    exact .fn f first caps vf vc hf hc (fun i c h => (h1 i c h).restrict (hi.1 c (List.mem_of_getElem? h)) hA hH) (fun i c h => (h2 i c h).restrict (hi.2 c (List.mem_of_getElem? h)) hA hH)
  | agg cs vs hl h => cases hi
  | tup cs vs hl h => cases hi
  | un => exact .un
  | junk v => exact .junk v
theorem RAV.restrict {A A' : Nat → Prop} {ψ : Pl} {H H' : Hp} {w : World} {x : AV} {v : Value} (h : RAV A ψ H w x v) {ids : List Nat} (hi : x.inns ids = true)
    (hA : ∀ b, b < w.heap.size → A b → A' b) (hH : ∀ id o, ids.contains id = true → look H id = some o → look H' id = some o) : RAV A' ψ H' w x v := by
  cases x with
  | agg cs =>
    cases h with
    | agg cs vs hl h =>
      simp only [AV.inns, List.all_eq_true] at hi
      exact .agg cs vs hl fun i c hc => (h i c hc).restrict1 (hi c (List.mem_of_getElem? hc)) hA hH
  | _ => exact h.restrict1 hi hA hH
def Ob.inns (ids : List Nat) : Ob → Bool
  | .box cs => cs.all (AV.inn ids)
  | .gh _ _ cs => cs.all (AV.inn ids)
  | _ => true
theorem ROb.restrict {A A' : Nat → Prop} {ψ : Pl} {H H' : Hp} {w : World} {id : Nat} {o : Ob} (h : ROb A ψ H w id o) {ids : List Nat} (hi : o.inns ids = true)
    (hA : ∀ b, b < w.heap.size → A b → A' b) (hH : ∀ id o, ids.contains id = true → look H id = some o → look H' id = some o) : ROb A' ψ H' w id o := by
  cases o with
  | box cs =>
    obtain ⟨b, c, e, h1, h2, h3, h4⟩ := h
    simp only [Ob.inns, List.all_eq_true] at hi
    exact ⟨b, c, e, h1, h2, h3, fun i x hx => (h4 i x hx).restrict1 (hi x (List.mem_of_getElem? hx)) hA hH⟩
  | list sz xs =>
    obtain ⟨h0, h⟩ := h
    refine ⟨h0, ?_⟩
    rcases h with h | ⟨b, k, c, e, h1, h2, h3, h3', h4⟩
    · exact .inl h
    · exact .inr ⟨b, k, c, e, h1, h2, h3, h3', fun i j x hx => (h4 i j x hx).mono hA (fun _ _ _ => rfl)⟩
  | map sk g => obtain ⟨b, es, clock, h1, h2, h3, m⟩ := h; exact ⟨b, es, clock, h1, h2, h3, m.mono hA (fun _ _ _ => rfl)⟩
  | mapS sk g n kk => obtain ⟨b, es, clock, h1, h2, h3, m, h4⟩ := h; exact ⟨b, es, clock, h1, h2, h3, m.mono hA (fun _ _ _ => rfl), h4⟩
  | lent org sz xs =>
    obtain ⟨h0, h⟩ := h
    refine ⟨h0, ?_⟩
    rcases h with h | ⟨b, k, c, e, h1, h2, h3, h3', h4⟩
    · exact .inl h
    · exact .inr ⟨b, k, c, e, h1, h2, h3, h3', fun i j x hx => (h4 i j x hx).mono hA (fun _ _ _ => rfl)⟩
  | mapo sk sz g hole =>
    obtain ⟨b, es, clock, pl, h1, h2, h3, h4, h5, h6, h7, h8, h9, h10, h11⟩ := h
    refine ⟨b, es, clock, pl, h1, h2, h3, h4, h5, h6, h7, h8, fun k xs hg => ?_, h10, h11⟩
    obtain ⟨e, g1, g2, g3⟩ := h9 k xs hg
    exact ⟨e, g1, g2, g3.mono hA (fun _ _ _ => rfl) fun _ _ _ => rfl⟩
  | listo sz xs hole =>
    obtain ⟨h0, b, k, c, e, pl, h1, h2, h3, h4, h5, h6, h7⟩ := h
    exact ⟨h0, b, k, c, e, pl, h1, h2, h3, h4, fun i x g1 g2 => (h5 i x g1 g2).mono hA (fun _ _ _ => rfl) fun _ _ _ => rfl, h6, h7⟩
  | iter sk g left last =>
    obtain ⟨b, m, since, stamps, lastc, h1, h2, h3⟩ := h
    refine ⟨b, m, since, stamps, lastc, h1, h2, ?_⟩
    rcases h3 with h3 | ⟨bm, es, g1, g2, g3, g4, g5, g6, g7⟩
    · exact .inl h3
    · exact .inr ⟨bm, es, g1, hA bm (heap_lt g3) g2, g3, g4, g5, g6.mono hA (fun _ _ _ => rfl), g7⟩
  | gh Z vs cs =>
    obtain ⟨h1, h2, h3, h4⟩ := h
    simp only [Ob.inns, List.all_eq_true] at hi
    exact ⟨h1, h2.mono hA (fun _ h => h) (fun _ _ _ => rfl) (fun _ _ => rfl), h3, fun i x hx => (h4 i x hx).restrict1 (hi x (List.mem_of_getElem? hx)) hA hH⟩
def allO {α β : Type} (f : α → Option β) : List α → Option (List β)
  | [] => some []
  | x :: r => match f x with
    | some y => (allO f r).map fun l => y :: l
    | none => none
def St.ivW (s : St) (ids : List Nat) : Nat → AV → Option IV
  | _, .iv x => some x
  | _, .nil sz => some (.lst sz [])
  | _, .sl id sz lo len => if ids.contains id then none else match look s.hp id with
    | some (.list _ xs) => some (.lst sz ((xs.drop lo).take len))
    | some (.listo sz' xs none) => some (.lst 1 (((xs.map fun x => [IV.lst sz' x]).drop lo).take len))
    | _ => none
  | _, .mpr id => if ids.contains id then none else match look s.hp id with
    | some (.map sk g) => some (.mp sk g)
    | some (.mapo sk sz g none) => some (.mp sk fun k => (g k).map fun xs => [IV.lst sz xs])
    | _ => none
  | d + 1, .ptr id off => if ids.contains id then none else match look s.hp id with
    | some (.box cs) => (allO (St.ivW s ids d) cs).map fun l => .pt (l.drop off)
    | _ => none
  | _, _ => none
def CapV.bor (s : St) (ids : List Nat) : CapV → CapV
  | .ptr id off => match s.ivW ids 3 (.ptr id off) with
    | some y => .val y
    | none => .ptr id off
  | .val x => .val x
def St.arg1 (s : St) (fr : Bool) (ids : List Nat) : AV → AV
  | .iv x => .iv x
  | .nil sz => .iv (.lst sz [])
  | .fn f a b => if fr && !((AV.fn f a b).inn ids) then .fn f (a.map (CapV.bor s ids)) (b.map (CapV.bor s ids)) else .fn f a b
  | x => if fr && !(x.inn ids) then match s.ivW ids 3 x with
      | some y => .iv y
      | none => x
    else x
def St.arg (s : St) (fr : Bool) (ids : List Nat) : AV → AV
  | .agg cs => .agg (cs.map (s.arg1 fr ids))
  | x => s.arg1 fr ids x
structure CallOk (P : Program) (fr : Bool) (f : FuncId) (args : List AV) (H : Hp) (res : AV) (H' : Hp) (s : St) : Prop where
  spec : GSpec P fr f args H res H'
  refs : args.all (AV.inns (H.map (·.1))) = true
  sub : ∀ id o, look H id = some o → look s.hp id = some o
  own : ∀ id o, look H id = some o → o.inns (H.map (·.1)) = true
  keep : ∀ id o, look H id = some o → ∃ o', look H' id = some o' ∧ o.le o'
  new : ∀ id o, look H' id = some o → look H id = none → look s.hp id = none ∧ id < 1000
structure CallOkN (P : Program) (fr : Bool) (f : FuncId) (args : List AV) (H : Hp) (R : AV → Hp → Prop) (s : St) : Prop where
  spec : GSpecN P fr f args H R
  refs : args.all (AV.inns (H.map (·.1))) = true
  sub : ∀ id o, look H id = some o → look s.hp id = some o
  own : ∀ id o, look H id = some o → o.inns (H.map (·.1)) = true
  keep : ∀ res H', R res H' → ∀ id o, look H id = some o → ∃ o', look H' id = some o' ∧ o.le o'
  new : ∀ res H', R res H' → ∀ id o, look H' id = some o → look H id = none → look s.hp id = none ∧ id < 1000
theorem CallOk.n {P : Program} {fr : Bool} {f : FuncId} {args : List AV} {H : Hp} {res : AV} {H' : Hp} {s : St} (h : CallOk P fr f args H res H' s) : CallOkN P fr f args H (fun r K => r = res ∧ K = H') s :=
  ⟨h.spec.n, h.refs, h.sub, h.own, fun r K e => by obtain ⟨rfl, rfl⟩ := e; exact h.keep, fun r K e => by obtain ⟨rfl, rfl⟩ := e; exact h.new⟩
theorem look_mem {α : Type} {l : List (Nat × α)} {k : Nat} {x : α} (h : look l k = some x) : (l.map (·.1)).contains k = true := by
  induction l with
  | nil => cases h
  | cons p l ih =>
    obtain ⟨j, y⟩ := p
    simp only [look] at h
    split at h
    · subst_vars; simp
    · have := ih h; simp at this ⊢; exact .inr this
theorem look_of_mem {α : Type} {l : List (Nat × α)} {k : Nat} (h : (l.map (·.1)).contains k = true) : ∃ x, look l k = some x := by
  induction l with
  | nil => simp at h
  | cons p l ih =>
    obtain ⟨j, y⟩ := p
    simp only [look]
    by_cases e : j = k
    · exact ⟨y, by rw [if_pos e]⟩
    · rw [if_neg e]
      refine ih ?_
      simp at h ⊢
      rcases h with h | h
      · exact absurd h.symm e
      · exact h
section
variable {P : Program} {E : En} {n : Nat} {ψ : Pl} {s : St} {a : Act} {w : World}
structure CallSh (H H' : Hp) (s : St) : Prop where
  lent : ∀ id o, look H id = some o → o.isLent = false
  lent' : ∀ id o, look H' id = some o → o.isLent = false
  sub : ∀ id o, look H id = some o → look s.hp id = some o
  keep : ∀ id o, look H id = some o → ∃ o', look H' id = some o' ∧ o.le o'
  new : ∀ id o, look H' id = some o → look H id = none → look s.hp id = none ∧ id < 1000
theorem CallOkN.sh {P : Program} {fr : Bool} {f : FuncId} {args : List AV} {H : Hp} {R : AV → Hp → Prop} {s : St} (hc : CallOkN P fr f args H R s) {res : AV} {H' : Hp} (hR : R res H') : CallSh H H' s :=
  ⟨hc.spec.1.1, hc.spec.1.2 res H' hR, hc.sub, hc.keep res H' hR, hc.new res H' hR⟩
theorem SimAt.called (h : SimAt E n ψ s a w) {fr : Bool} {H : Hp} {res : AV} {H' : Hp} (hc : CallSh H H' s) {A : Nat → Prop}
    (hAI : fr = false → ∀ b, A b → Im E ψ s.hp b) {w' : World} {v : Value} {ψ' : Pl}
    (k1 : ∀ b, b < w.heap.size → ¬ Held ψ H b → w'.heap[b]? = w.heap[b]?) (k2 : w.heap.size ≤ w'.heap.size) (k3 : Same w w')
    (k4 : ∀ id o, look H id = some o → ψ' id = ψ id)
    (k5 : ∀ id o b, look H' id = some o → Owns ψ' id b → (∃ o0, look H id = some o0 ∧ Owns ψ id b) ∨ w.heap.size ≤ b)
    (k6 : ∀ id id' o o' b, look H' id = some o → look H' id' = some o' → Owns ψ' id b → Owns ψ' id' b → id = id') (kS : Subs ψ' H' w')
    (k7 : ∀ id o, look H' id = some o → ROb (fun b => ((fr = false ∧ A b) ∨ w.heap.size ≤ b) ∧ ¬ Held ψ' H' b) ψ' H' w' id o)
    (k8 : RAV (fun b => ((fr = false ∧ A b) ∨ w.heap.size ≤ b) ∧ ¬ Held ψ' H' b) ψ' H' w' res v) :
    ∃ ψ2, SimAt E n ψ2 (s.join H') a w' ∧ RAV (Im E ψ2 (s.join H').hp) ψ2 (s.join H').hp w' res v := by
  let ψ2 : Pl := ⟨fun id => if (look H' id).isSome then ψ' id else ψ id, fun id b => if (look H' id).isSome then ψ'.sub id b else ψ.sub id b⟩
  have hlk : ∀ id, look (s.join H').hp id = (look H' id).or (look s.hp id) := fun id => look_append _ _ _
  have hlt : ∀ {k o b}, look s.hp k = some o → Owns ψ k b → b < w.heap.size := fun hk hb => h.lt hk hb
  have o1 : ∀ {id o b}, look H' id = some o → (Owns ψ2 id b ↔ Owns ψ' id b) := by
    intro id o b ho
    simp [Owns, ψ2, ho]
  have o2 : ∀ {id b}, look H' id = none → (Owns ψ2 id b ↔ Owns ψ id b) := by
    intro id b ho
    simp [Owns, ψ2, ho]
  -- an object behind the call is one of the call's, or an elder one
  have cases_ : ∀ {id o}, look (s.join H').hp id = some o → (look H' id = some o ∧ ∀ b, Owns ψ2 id b ↔ Owns ψ' id b) ∨ (look H' id = none ∧ look s.hp id = some o ∧ ∀ b, Owns ψ2 id b ↔ Owns ψ id b) := by
    intro id o ho
    rw [hlk] at ho
    cases hh : look H' id with
    | some o' => rw [hh] at ho; left; exact ⟨by simpa using ho, fun b => o1 hh⟩
    | none => rw [hh] at ho; right; exact ⟨rfl, by simpa using ho, fun b => o2 hh⟩
  have keepsH : Keeps ψ ψ2 s.hp (s.join H').hp := by
    intro id o ho
    cases hh : look H' id with
    | some o' =>
      cases hH : look H id with
      | some o0 =>
        have e := hc.sub id o0 hH
        rw [ho] at e; cases e
        obtain ⟨o1, g1, g2⟩ := hc.keep id o hH
        rw [hh] at g1; cases g1
        exact ⟨⟨o', by rw [hlk, hh]; rfl, g2⟩, by simp [ψ2, hh, k4 id o hH]⟩
      | none => have := (hc.new id o' hh hH).1; rw [ho] at this; cases this
    | none => exact ⟨⟨o, by rw [hlk, hh]; simpa using ho, o.le_refl⟩, by simp [ψ2, hh]⟩
  have heldS : ∀ {b}, Held ψ H b → Held ψ s.hp b := by
    rintro b ⟨id, o, ho, hb⟩
    exact ⟨id, o, hc.sub id o ho, hb⟩
  have held2 : ∀ {b}, b < w.heap.size → Held ψ2 (s.join H').hp b → Held ψ s.hp b := by
    rintro b hb ⟨id, o, ho, hq⟩
    rcases cases_ ho with ⟨g1, g2⟩ | ⟨_, g1, g2⟩
    · rcases k5 id o b g1 ((g2 b).1 hq) with ⟨o0, g3, g4⟩ | g3
      · exact ⟨id, o0, hc.sub id o0 g3, g4⟩
      · omega
    · exact ⟨id, o, g1, (g2 b).1 hq⟩
  have hI : ∀ b, b < w.heap.size → Im E ψ s.hp b → Im E ψ2 (s.join H').hp b := fun b hb hi => ⟨hi.1, fun hh => hi.2 (held2 hb hh)⟩
  have hw : ∀ b, b < w.heap.size → Im E ψ s.hp b → w'.heap[b]? = w.heap[b]? := fun b hb hi => k1 b hb fun hh => hi.2 (heldS hh)
  -- what the call leans on changes no more
  have hA' : ∀ b, b < w'.heap.size → (((fr = false ∧ A b) ∨ w.heap.size ≤ b) ∧ ¬ Held ψ' H' b) → Im E ψ2 (s.join H').hp b := by
    rintro b hb ⟨h1, h2⟩
    rcases h1 with ⟨hf, h1⟩ | h1
    · have hi := hAI hf b h1
      refine ⟨hi.1, ?_⟩
      rintro ⟨id, o, ho, hq⟩
      rcases cases_ ho with ⟨g1, g2⟩ | ⟨_, g1, g2⟩
      · exact h2 ⟨id, o, g1, (g2 b).1 hq⟩
      · exact hi.2 ⟨id, o, g1, (g2 b).1 hq⟩
    · refine ⟨.inr (.inr (Nat.le_trans h.grow h1)), ?_⟩
      rintro ⟨id, o, ho, hq⟩
      rcases cases_ ho with ⟨g1, g2⟩ | ⟨_, g1, g2⟩
      · exact h2 ⟨id, o, g1, (g2 b).1 hq⟩
      · have := hlt g1 ((g2 b).1 hq); omega
  have keeps' : Keeps ψ' ψ2 H' (s.join H').hp := by
    intro id o ho
    exact ⟨⟨o, by rw [hlk, ho]; rfl, o.le_refl⟩, by simp [ψ2, ho]⟩
  have ownH : ∀ {id o b}, look H' id = some o → Owns ψ' id b → (o.org id ∈ E.ids ∧ Owns E.ψ (o.org id) b) ∨ E.fresh b := by
    intro id o b ho hb
    have org : ∀ {o : Ob}, o.isLent = false → o.org id = id := by intro o h; cases o <;> first | rfl | cases h
    rcases k5 id o b ho hb with ⟨o0, p1, p2⟩ | p1
    · have := h.own id o0 b (hc.sub id o0 p1) p2
      rw [org (hc.lent id o0 p1)] at this
      rw [org (hc.lent' id o ho)]
      exact this
    · exact .inr (.inr (Nat.le_trans h.grow p1))
  refine ⟨ψ2, ?_, k8.mono hA' (fun _ _ _ => rfl) keeps'⟩
  refine { size := h.size, defers := h.defers.mono hI hw, frame := fun t => (h.frame t).mono hI hw keepsH, obs := ?_, inj := ?_, own := ?_, subs := ?_, par := ?_, old := ?_, grow := ?_, same := ?_ }
  · intro id o ho
    rcases cases_ ho with ⟨g1, g2⟩ | ⟨g0, g1, g2⟩
    · exact (k7 id o g1).mono hA' (fun _ _ _ => rfl) keeps' ⟨by simp [ψ2, g1], fun b hb => by simpa [ψ2, g1] using hb⟩ (fun _ _ => rfl)
    · refine (h.obs id o g1).mono hI hw keepsH ⟨by simp [ψ2, g0], fun b hb => by simpa [ψ2, g0] using hb⟩ fun b hb => k1 b (hlt g1 hb) ?_
      rintro ⟨id2, o2, ho2, hq2⟩
      have e := h.inj id id2 o _ b g1 (hc.sub id2 o2 ho2) hb hq2
      subst e
      obtain ⟨o3, g3, _⟩ := hc.keep id o2 ho2
      rw [g0] at g3; cases g3
  · intro i i' o1 o2 b hi hi' hb hb'
    rcases cases_ hi with ⟨g1, g2⟩ | ⟨g0, g1, g2⟩ <;> rcases cases_ hi' with ⟨f1, f2⟩ | ⟨f0, f1, f2⟩ <;> rw [g2] at hb <;> rw [f2] at hb'
    · exact k6 i i' o1 o2 b g1 f1 hb hb'
    · rcases k5 i o1 b g1 hb with ⟨o0, p1, p2⟩ | p1
      · exact h.inj i i' _ _ b (hc.sub i o0 p1) f1 p2 hb'
      · have := hlt f1 hb'; omega
    · rcases k5 i' o2 b f1 hb' with ⟨o0, p1, p2⟩ | p1
      · exact h.inj i i' _ _ b g1 (hc.sub i' o0 p1) hb p2
      · have := hlt g1 hb; omega
    · exact h.inj i i' _ _ b g1 f1 hb hb'
  · intro i o1 b hi hb
    rcases cases_ hi with ⟨g1, g2⟩ | ⟨g0, g1, g2⟩ <;> rw [g2] at hb
    · exact ownH g1 hb
    · exact h.own i o1 b g1 hb
  · intro i o1 b hi hb
    rcases cases_ hi with ⟨g1, g2⟩ | ⟨g0, g1, g2⟩
    · have hb : ψ'.sub i b := by simpa [ψ2, g1] using hb
      obtain ⟨q1, q2, q3⟩ := kS i o1 b g1 hb
      exact ⟨q1, q2, fun k => by simpa [ψ2, g1] using q3 k⟩
    · have hb : ψ.sub i b := by simpa [ψ2, g0] using hb
      obtain ⟨q1, q2, q3⟩ := h.subs i o1 b g1 hb
      exact ⟨q1, Nat.lt_of_lt_of_le q2 k2, fun k => by simpa [ψ2, g0] using q3 k⟩
  · intro i hi
    have hb := E.big i hi
    cases hh : look H' i with
    | none => simp only [ψ2, hh]; exact h.par i hi
    | some o =>
      cases hH : look H i with
      | some o0 => simp only [ψ2, hh]; simp only [Option.isSome_some, if_true]; rw [k4 i o0 hH]; exact h.par i hi
      | none => have := (hc.new i o hh hH).2; omega
  · intro b hb hm
    rw [k1 b (Nat.lt_of_lt_of_le hb h.grow) ?_]
    · exact h.old b hb hm
    · rintro ⟨id, o, ho, hq⟩
      rcases h.own id o b (hc.sub id o ho) hq with ⟨h1, h2⟩ | h1
      · exact hm (.inl ⟨_, h1, h2⟩)
      · exact E.no hb hm h1
  · exact Nat.le_trans h.grow k2
  · exact ⟨k3.os.trans h.same.1, k3.tape.trans h.same.2.1, k3.output.trans h.same.2.2⟩
end
end Go.Vm
end

/- What each operation of the abstract machine does to a state. -/
section
namespace Go.Vm
def St.args (s : St) (pre : List CapV) (ops : List Operand) (post : List CapV) : List AV := pre.map CapV.av ++ ops.map s.ev ++ post.map CapV.av
def YSpec (P : Program) (l : Nat) (xs : List IV) (Z : GZ) (b : Bool) (Z' : GZ) : Prop := ∀ (A B : Nat → Prop) (w : World) (vs : List Value), (∀ k, A k → k < w.heap.size) → (∀ k, B k → k < w.heap.size) → (∀ k, B k → ¬ A k) →
  GOk Z A B w → vs.length = xs.length → (∀ i x, xs[i]? = some x → RIV A w x (vs.getD i undef)) →
  ∃ fn tmps assign body, (Instr.yield l vs.toArray).run P w = .ok (.round l fn tmps assign body) w ∧ ∀ m, RoundIn Fence.wide m P l fn tmps assign body w fun e w' => ∃ B' : Nat → Prop, e = .returned (.bool b) ∧
    (∀ k, k < w.heap.size → ¬ B k → w'.heap[k]? = w.heap[k]?) ∧ w.heap.size ≤ w'.heap.size ∧ Same w w' ∧ (∀ k, B' k → B k ∨ w.heap.size ≤ k) ∧ (∀ k, B' k → k < w'.heap.size) ∧
    GOk Z' (fun k => (A k ∨ w.heap.size ≤ k) ∧ ¬ B' k) B' w'
def yieldK (P : Program) (l : Nat) (ops : List Operand) (s : St) (K : St → AV → Prop) : Prop :=
  ∃ (s1 : St) (g : Nat) (Z : GZ) (b : Bool) (Z' : GZ) (xs : List IV), Le s s1 ∧ look s1.hp g = some (.gh Z [] []) ∧ ops.map s1.ev = xs.map AV.iv ∧ YSpec P l xs Z b Z' ∧ K (s1.join [(g, .gh Z' [] [])]) (.iv (.v (.bool b)))
def argsOk (s : St) (fr : Bool) (ids : List Nat) : List AV → List AV → Prop
  | [], [] => True
  | x :: xs, y :: ys => (y = s.arg fr ids x ∨ ∃ sz sz', x = .nil sz ∧ y = .nil sz') ∧ argsOk s fr ids xs ys
  | _, _ => False
theorem argsOk_map {s : St} {fr : Bool} {ids : List Nat} : ∀ (l : List AV), argsOk s fr ids l (l.map (s.arg fr ids))
  | [] => trivial
  | x :: l => ⟨.inl rfl, argsOk_map l⟩
theorem argsOk_get {s : St} {fr : Bool} {ids : List Nat} : ∀ {l l' : List AV}, argsOk s fr ids l l' → l'.length = l.length ∧ ∀ (i : Nat) (y : AV), l'[i]? = some y → ∃ x, l[i]? = some x ∧ (y = s.arg fr ids x ∨ ∃ sz sz', x = .nil sz ∧ y = .nil sz')
  | [], [], _ => ⟨rfl, fun i y h => by simp at h⟩
  | x :: l, y :: l', h => by
    obtain ⟨h1, h2⟩ := h
    obtain ⟨g1, g2⟩ := argsOk_get h2
    refine ⟨by simp [g1], fun i z hz => ?_⟩
    cases i with
    | zero => simp only [List.getElem?_cons_zero, Option.some.injEq] at hz; subst hz; exact ⟨x, rfl, h1⟩
    | succ i => simpa using g2 i z (by simpa using hz)
  | [], y :: l', h => h.elim
  | x :: l, [], h => h.elim
def callK (P : Program) (d : Nat) (f : FuncId) (pre : List CapV) (ops : List Operand) (post : List CapV) (y : Option Operand) (s : St) (K : St → AV → Prop) : Prop :=
  ∃ (s0 : St), Le s s0 ∧ ∃ (fr : Bool) (H : Hp) (R : AV → Hp → Prop) (s1 : St),
    s1 = (if fr then s0 else s0.frz ((s0.args pre ops post).filter fun x => !x.inns (H.map (·.1)))).drop d ∧
    (match y with | some y => s1.ev y = .fn f pre post | none => True) ∧
    ∃ as, argsOk s1 fr (H.map (·.1)) (s1.args pre ops post) as ∧ CallOkN P fr f as H R s1 ∧ ∀ res H', R res H' → K (s1.join H') res
theorem callK_of {P : Program} {d : Nat} {f : FuncId} {pre : List CapV} {ops : List Operand} {post : List CapV} {y : Option Operand} {s : St} {K : St → AV → Prop}
    (h : ∃ (s0 : St), Le s s0 ∧ ∃ (fr : Bool) (H : Hp) (res : AV) (H' : Hp) (s1 : St),
      s1 = (if fr then s0 else s0.frz ((s0.args pre ops post).filter fun x => !x.inns (H.map (·.1)))).drop d ∧
      (match y with | some y => s1.ev y = .fn f pre post | none => True) ∧
      CallOk P fr f ((s1.args pre ops post).map (s1.arg fr (H.map (·.1)))) H res H' s1 ∧ K (s1.join H') res) : callK P d f pre ops post y s K := by
  obtain ⟨s0, h0, fr, H, res, H', s1, a, b, c, k⟩ := h
  exact ⟨s0, h0, fr, H, _, s1, a, b, _, argsOk_map _, c.n, fun r K e => by obtain ⟨rfl, rfl⟩ := e; exact k⟩
def fillA (s : St) : List AV → List (Nat × Nat × Operand) → Option (List AV)
  | z, [] => some z
  | z, (off, n, x) :: r => match (s.ev x).cellsOf with
    | some cs => if cs.length = n ∧ off + n ≤ z.length then fillA s (setRange z off cs) r else none
    | none => none
def litA (s : St) (sz : Nat) : List (Nat × Operand) → Option (List (List IV))
  | [] => some []
  | (_, x) :: r => match (s.ev x).cellsOf.bind fun cs => cs.mapM AV.iv? with
    | some c => if c.length = sz then (litA s sz r).map fun q => c :: q else none
    | none => none
def vtrue : AV := .iv (.v (.bool true))
def nilOf : List AV → Option Nat
  | [.nil sz] => some sz
  | _ => none
theorem nilOf_inv {z : List AV} {sz : Nat} (h : nilOf z = some sz) : z = [.nil sz] := by
  unfold nilOf at h
  split at h
  · cases h; rfl
  · cases h
def stp (P : Program) (d : Nat) (s : St) (K : St → AV → Prop) : Rhs → Prop
  | .mov x => K s (s.ev x)
  | .nils sz => K ((s.drop d).add d (.list sz [])) (.sl d sz 0 0)
  | .pick c x y => match s.ev c with
    | .iv (.v (.bool t)) => K s (if t then s.ev x else s.ev y)
    | _ => False
  | .alloc z => K ((s.drop d).add d (.box z)) (.ptr d 0)
  | .box x => match ((s.drop d).ev x).cellsOf with
    | some cs => K ((s.drop d).add d (.box cs)) (.ptr d 0)
    | none => False
  | .build z parts => match fillA s z parts with
    | some cs => K s (.agg cs)
    | none => False
  | .lit sz len parts => match litA ((s.frz (parts.map fun p => s.ev p.2)).drop d) sz parts with
    | some xs => K (((s.frz (parts.map fun p => s.ev p.2)).drop d).add d (.list sz xs)) (.sl d sz 0 len)
    | none => False
  | .ld x none => match s.ev x with
    | .ptr id off => match look s.hp id with
      | some (.box cs) => match cs[off]? with
        | some y => K s y
        | none => False
      | _ => False
    | .ep id _ i off => match look s.hp id with
      | some (.list _ xs) => match at2 xs i off with
        | some y => K s (.iv y)
        | none => False
      | some (.listo sz2 xs hole) => hole = none ∧ off = 0 ∧ id ≠ d ∧ (s.drop d).ev x = .ep id 1 i 0 ∧ look (s.drop d).hp id = some (.listo sz2 xs none) ∧ match xs[i]? with
        | some ys => K (((s.drop d).add id (.listo sz2 xs (some i))).add d (.lent id sz2 ys)) (.sl d sz2 0 ys.length)
        | none => False
      | _ => False
    | .iv (.pt cs) => match cs[0]? with
      | some y => K s (.iv y)
      | none => False
    | _ => False
  | .ld x (some n) => match s.ev x with
    | .ptr id off => match look s.hp id with
      | some (.box cs) => off + n ≤ cs.length ∧ K s (.agg ((cs.drop off).take n))
      | _ => False
    | .ep id _ i off => match look s.hp id with
      | some (.list _ xs) => match xs[i]? with
        | some r => off + n ≤ r.length ∧ K s (.agg (((r.drop off).take n).map .iv))
        | none => False
      | _ => False
    | .iv (.pt cs) => n ≤ cs.length ∧ K s (.agg ((cs.take n).map .iv))
    | _ => False
  | .st x y n => match s.ev x with
    | .ptr id off => match look s.hp id, (s.ev y).cellsOf with
      | some (.box cs), some cy => cy.length = n ∧ off + n ≤ cs.length ∧ cy.all AV.one = true ∧ K (s.add id (.box (setRange cs off cy))) .un
      | _, _ => False
    | .ep id _ i off => match look (s.frz [s.ev y]).hp id, ((s.frz [s.ev y]).ev y).cellsOf.bind fun cs => cs.mapM AV.iv? with
      | some (.list sz xs), some cy => match xs[i]? with
        | some r => (s.frz [s.ev y]).ev x = .ep id sz i off ∧ cy.length = n ∧ off + n ≤ r.length ∧ K ((s.frz [s.ev y]).add id (.list sz (xs.set i (setRange r off cy)))) .un
        | none => False
      | some (.listo sz2 xs hole), _ => match s.ev y with
        | .sl d' sz' 0 len => match look s.hp d' with
          | some o => match o.els with
            | some (_, ys) => look s.hp id = some (.listo sz2 xs hole) ∧ (n = 1 ∧ off = 0) ∧ sz' = sz2 ∧ d' < 1000 ∧ d' ≠ id ∧ len = ys.length ∧ (o.org? = none ∨ o.org? = some id) ∧ hole = some i ∧
                K ((s.kill d').add id (.listo sz2 (xs.set i ys) none)) .un
            | none => False
          | none => False
        | _ => False
      | _, _ => False
    | _ => False
  | .chk x => match s.ev x with
    | .ptr id off => K s (.ptr id off)
    | .ep id sz i off => K s (.ep id sz i off)
    | .iv (.pt cs) => K s (.iv (.pt cs))
    | _ => False
  | .bin op x y => match s.ev x, s.ev y with
    | .iv (.v u), .iv (.v v) => match binV op u v with
      | some r => K s (.iv (.v r))
      | none => False
    | _, _ => False
  | .beq neg x y => match s.ev x, s.ev y with
    | .iv (.v (.bool u)), .iv (.v (.bool v)) => K s (.iv (.v (.bool (if neg then u != v else u == v))))
    | _, _ => False
  | .peq neg x y => match s.ev x, s.ev y with
    | .iv (.v (.pointer none)), .iv (.v (.pointer none)) => K s (.iv (.v (.bool (!neg))))
    | .iv (.v (.pointer none)), .ptr .. => K s (.iv (.v (.bool neg)))
    | .iv (.v (.pointer none)), .iv (.pt _) => K s (.iv (.v (.bool neg)))
    | .ptr .., .iv (.v (.pointer none)) => K s (.iv (.v (.bool neg)))
    | .iv (.pt _), .iv (.v (.pointer none)) => K s (.iv (.v (.bool neg)))
    | _, _ => False
  | .eqs neg ks x y => match s.ev x, s.ev y with
    | .agg cs, .agg ds => match eqCells ks cs ds with
      | some b => K s (.iv (.v (.bool (if neg then !b else b))))
      | none => False
    | _, _ => False
  | .un op x => match s.ev x with
    | .iv (.v v) => match unV op v with
      | some r => K s (.iv (.v r))
      | none => False
    | _ => False
  | .cvt k x => match s.ev x with
    | .iv (.v (.int _ m)) => K s (.iv (.v (.int k (k.wrap m))))
    | _ => False
  | .cut sz x lo hi => match s.ev x with
    | .iv (.lst sz' xs) => match s.bound 0 lo, s.bound xs.length hi with
      | some l, some h => sz' = sz ∧ 0 ≤ l ∧ l ≤ h ∧ h ≤ xs.length ∧ K s (.iv (.lst sz ((xs.drop l.toNat).take (h - l).toNat)))
      | _, _ => False
    | .sl id sz' o m => match s.bound 0 lo, s.bound m hi with
      | some l, some h => sz' = sz ∧ 0 ≤ l ∧ l ≤ h ∧ h ≤ m ∧ K s (.sl id sz (o + l.toNat) (h - l).toNat)
      | _, _ => False
    | .nil sz' => match s.bound 0 lo, s.bound 0 hi with
      | some l, some h => l = 0 ∧ h = 0 ∧ K s (.nil sz')
      | _, _ => False
    | _ => False
  | .fa off x => match s.ev x with
    | .ptr id o => K s (.ptr id (o + off))
    | .ep id sz i o => K s (.ep id sz i (o + off))
    | .iv (.pt cs) => K s (.iv (.pt (cs.drop off)))
    | _ => False
  | .fld off none x => match s.ev x with
    | .agg cs => match cs[off]? with
      | some y => K s y
      | none => False
    | _ => False
  | .fld off (some n) x => match s.ev x with
    | .agg cs => off + n ≤ cs.length ∧ K s (.agg ((cs.drop off).take n))
    | _ => False
  | .ia sz x i => match s.ev x, s.ev i with
    | .iv (.lst sz' xs), .iv (.v (.int _ m)) => sz' = sz ∧ 0 ≤ m ∧ match xs[m.toNat]? with
      | some r => K s (.iv (.pt r))
      | none => False
    | .sl id sz' o k, .iv (.v (.int _ m)) => sz' = sz ∧ 0 ≤ m ∧ m < k ∧ K s (.ep id sz (o + m.toNat) 0)
    | _, _ => False
  | .is x i => match s.ev x, s.ev i with
    | .iv (.v (.string t)), .iv (.v (.int _ m)) => 0 ≤ m ∧ match t[m.toNat]? with
      | some b => K s (.iv (.v (.int .u8 b.toNat)))
      | none => False
    | _, _ => False
  | .ext i x => match s.ev x with
    | .tup vs => match vs[i]? with
      | some y => K s y
      | none => False
    | _ => False
  | .len x => match s.ev x with
    | .iv (.lst _ xs) => K s (.iv (.v (.int .i64 xs.length)))
    | .sl _ _ _ m => K s (.iv (.v (.int .i64 m)))
    | .nil _ => K s (.iv (.v (.int .i64 0)))
    | _ => False
  | .lens x => match s.ev x with
    | .iv (.v (.string t)) => K s (.iv (.v (.int .i64 t.size)))
    | _ => False
  | .app sz bytes x y => match s.ev x, s.elems (s.ev y) with
    | .sl id sz' lo m, some (sz2, ys) => match look s.hp id with
      | some o => match o.els with
        | some (_, xs) => sz' = sz ∧ (sz2 = sz ∨ ys = []) ∧ id < 1000 ∧ lo + m = xs.length ∧ (m + ys.length) * bytes ≤ 2 ^ 47 ∧ m + ys.length < 2 ^ 62 ∧
          K ((s.lone id).add id (o.setEls sz (xs.drop lo ++ ys))) (.sl id sz 0 (m + ys.length))
        | none => False
      | none => False
    | .nil _, some (sz2, ys) => (sz2 = sz ∨ ys = []) ∧ ys.length * bytes ≤ 2 ^ 47 ∧ ys.length < 2 ^ 62 ∧ K ((s.drop d).add d (.list sz ys)) (.sl d sz 0 ys.length)
    | _, _ => False
  | .mm mx xs => match minmax mx (xs.map s.ev) with
    | some (k, m) => K s (.iv (.v (.int k m)))
    | none => False
  | .mkfn f first caps => match (first.map s.ev).mapM AV.cap, (caps.map s.ev).mapM AV.cap with
    | some a, some b => K s (.fn f a b)
    | _, _ => False
  | .call f args => callK P d f [] args [] none s K
  | .snil neg x => match s.ev x with
    | .nil _ => K s (.iv (.v (.bool (!neg))))
    | .sl _ _ _ m => ∀ b : Bool, (0 < m → b = false) → K s (.iv (.v (.bool (if neg then !b else b))))
    | .iv (.lst _ xs) => ∀ b : Bool, (xs ≠ [] → b = false) → K s (.iv (.v (.bool (if neg then !b else b))))
    | _ => False
  | .mks sz bytes z l c => match nilOf z with
    | some sz' => match s.ev l, s.ev c with
      | .iv (.v (.int _ m)), .iv (.v (.int _ q)) => 0 ≤ m ∧ q = m ∧ m < 2 ^ 62 ∧ (bytes : Int) * m ≤ 2 ^ 47 ∧ sz = 1 ∧ K ((s.drop d).add d (.listo sz' (List.replicate m.toNat []) none)) (.sl d 1 0 m.toNat)
      | _, _ => False
    | none => match s.ev l, s.ev c, z.mapM AV.iv? with
      | .iv (.v (.int _ m)), .iv (.v (.int _ q)), some zi => 0 ≤ m ∧ q = m ∧ m < 2 ^ 62 ∧ (bytes : Int) * m ≤ 2 ^ 47 ∧ K ((s.drop d).add d (.list sz (List.replicate m.toNat zi))) (.sl d sz 0 m.toNat)
      | _, _, _ => False
  | .mkmap sk => K ((s.drop d).add d (.map sk fun _ => none)) (.mpr d)
  | .lkp sk z m k ok => match (s.drop d).moOf ((s.drop d).ev m) with
    | some (id, sk1, sz, g, hole) => match keyAV ((s.drop d).ev k), z with
      | some (sk2, kk), [.nil sz'] => ok = false ∧ sk1 = sk ∧ sk2 = (sk.1, sk.2.1) ∧ sz' = sz ∧ hole = none ∧ match g kk with
        | none => K (s.drop d) (.nil sz)
        | some xs => K (((s.drop d).add id (.mapo sk sz (gset g kk none) (some kk))).add d (.lent id sz xs)) (.sl d sz 0 xs.length)
      | _, _ => False
    | none => match s.mapOf (s.ev m), keyAV (s.ev k) with
      | some (sk1, g), some (sk2, kk) => sk1 = sk ∧ sk2 = (sk.1, sk.2.1) ∧ K s (lkR z sk.2.2 ok (g kk))
      | _, _ => False
  | .mset sk m k x => match s.moOf (s.ev m) with
   | some (id, sk1, sz, g, hole) => match keyAV (s.ev k), s.ev x with
    | some (sk2, kk), .sl d' sz' 0 len => match look s.hp d' with
      | some o => match o.els with
        | some (_, xs) => sk1 = sk ∧ sk2 = (sk.1, sk.2.1) ∧ sz' = sz ∧ d' < 1000 ∧ d' ≠ id ∧ len = xs.length ∧ (o.org? = none ∨ o.org? = some id) ∧
            (hole = some kk ∨ (hole = none ∧ g kk = none)) ∧ K ((s.kill d').add id (.mapo sk sz (gset g kk (some xs)) none)) .un
        | none => False
      | none => False
    | _, _ => False
   | none => match (s.frz [s.ev x]).ev m, keyAV ((s.frz [s.ev x]).ev k), ((s.frz [s.ev x]).ev x).cellsOf.bind fun cs => cs.mapM AV.iv? with
    | .mpr id, some (sk2, kk), some c => match look (s.frz [s.ev x]).hp id with
      | some (.map sk1 g) => sk1 = sk ∧ sk2 = (sk.1, sk.2.1) ∧ isAggAV ((s.frz [s.ev x]).ev x) = sk.2.2 ∧ K ((s.frz [s.ev x]).add id (.map sk (gset g kk (some c)))) .un
      | _ => False
    | _, _, _ => False
  | .ment sk z m k => match s.ev m, keyAV (s.ev k), allO AV.iv? z with
    | .mpr id, some (sk2, kk), some zi => match look s.hp id with
      | some (.map sk1 g) => sk1 = sk ∧ sk2 = (sk.1, sk.2.1) ∧ ∀ n : Int, K (s.add id (.mapS sk (gset g kk (some ((g kk).getD zi))) n kk)) (.tup [packAV sk.2.2 (((g kk).getD zi).map .iv), .iv (.v (.int .i64 n))])
      | _ => False
    | _, _, _ => False
  | .est m st x => match (s.frz [s.ev x]).ev m, (s.frz [s.ev x]).ev st, ((s.frz [s.ev x]).ev x).cellsOf.bind fun cs => cs.mapM AV.iv? with
    | .mpr id, .iv (.v (.int _ n')), some c => match look (s.frz [s.ev x]).hp id with
      | some (.mapS sk g n kk) => n' = n ∧ isAggAV ((s.frz [s.ev x]).ev x) = sk.2.2 ∧ K ((s.frz [s.ev x]).add id (.map sk (gset g kk (some c)))) .un
      | _ => False
    | _, _, _ => False
  | .rng sk x => match ((s.frz [s.ev x]).drop d).ev x with
    | .iv (.mp sk' g) => sk' = sk ∧ ∀ L : List (List Value), L.Nodup → (∀ k, k ∈ L ↔ g k ≠ none) → (∀ k ∈ L, k.mapM kdOf = some sk.2.1) → K (((s.frz [s.ev x]).drop d).add d (.iter sk g L none)) (.ptr d 0)
    | _ => False
  | .nxt x => match s.ev x with
    | .ptr id 0 => match look s.hp id with
      | some (.iter sk g left last) => (left = [] → K s (.tup [.iv (.v (.bool false))])) ∧
          ∀ k c, k ∈ left → g k = some c → k.mapM kdOf = some sk.2.1 → K (s.add id (.iter sk g (rmk k left) (some k))) (.tup [vtrue, packAV sk.1 (k.map fun v => .iv (.v v)), packAV sk.2.2 (c.map .iv)])
      | _ => False
    | _ => False
  | .ent x => match s.ev x with
    | .ptr id 0 => match look s.hp id with
      | some (.iter sk g left (some k)) => ∀ c, g k = some c → K s (.tup [packAV sk.1 (k.map fun v => .iv (.v v)), packAV sk.2.2 (c.map .iv)])
      | _ => False
    | _ => False
  | .mdel sk m k => match s.ev m, keyAV (s.ev k) with
    | .mpr id, some (sk2, kk) => match look s.hp id with
      | some (.map sk1 g) => sk1 = sk ∧ sk2 = (sk.1, sk.2.1) ∧ K (s.add id (.map sk (gset g kk none))) (.tup [])
      | _ => False
    | _, _ => False
  | .cpy sz x y => match s.ev x, s.elems (s.ev y) with
    | .sl id sz' lo m, some (sz2, ys) => match look s.hp id with
      | some (.list sz3 xs) => (xs ≠ [] ∧ lo = 0) ∧ (sz' = sz ∧ sz3 = sz ∧ sz2 = sz) ∧ m = xs.length ∧ ys.length = m ∧ K (s.add id (.list sz ys)) (.iv (.v (.int .i64 m)))
      | _ => False
    | _, _ => False
  | .lenm x => match s.mapOf (s.ev x) with
    | some (_, g) => ∀ n : Nat, (n = 0 ↔ ∀ k, g k = none) → K s (.iv (.v (.int .i64 n)))
    | _ => False
  | .callv x args => match s.ev x with
    | .fn f first caps => okFn P f = true ∧ callK P d f first args caps (some x) s K
    | .iv (.v (.func (.yield l) vf vc)) => vf = #[] ∧ vc = #[] ∧ yieldK P l args s K
    | _ => False
end Go.Vm
end
