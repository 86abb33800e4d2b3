/- Contracts of functions of the program, and what they lean on. Conditions: those of each theorem. -/
import Derived.Test.YthkdpdpgmhmgoaaBA
import Derived.Laws.StructEq
import Derived.MapKept
import Derived.Laws.MakeOwn
import Derived.Maps.RangeRun
import Derived.Scope
import Derived.ScopeJumps
import Derived.Orders

set_option linter.unusedVariables false
set_option linter.unusedSimpArgs false

section
namespace Go.Vm
theorem c0w (need c : Nat) (h : c < need) (h2 : 256 ≤ c) : ∀ r, Builtin.growBy need r c ≤ 2 * need := by
 intro r
 induction r generalizing c with
 | zero => simp [Builtin.growBy]; omega
 | succ r ih =>
   unfold Builtin.growBy
   split
   · omega
   · by_cases h3 : c + (c + 768) / 4 < need
     · exact ih _ h3 (by omega)
     · have : Builtin.growBy need r (c + (c + 768) / 4) = c + (c + 768) / 4 := by
         cases r with
         | zero => rfl
         | succ r => unfold Builtin.growBy; rw [if_pos (by omega)]
       rw [this]; omega
theorem c1w (need old : Nat) (h : old < need) : Builtin.nextslicecap need old ≤ 2 * need := by
 unfold Builtin.nextslicecap
 split
 · omega
 · split
   · omega
   · exact c0w need old h (by omega) 4
section
variable {P : Program} {E : En} {n : Nat} {ψ : Pl} {s : St} {a : Act} {w : World}
variable {dst : Option Nat} {ty : TypeId} {pos : String} {af : Array Edge} {g : Option (Nat × Bool)} {r : Rhs} {d : Nat} {K : St → AV → Prop}
theorem c2w {x y : Operand} {ts : Array TypeId} {v : Value} {w' : World} (hv : (Builtin.append_ ts ty #[a.eval x, a.eval y]).run P w = .ok v w') :
   (execOp a.eval ⟨dst, .call ⟨.builtin .append, #[x, y], ts⟩, ty, pos, af, g⟩).run P w = .ok (.value v) w' := by
 simp only [execOp, resolve, Sem.run_bind, Sem.run_pure, Result.andThen_ok, invoke, builtin]
 simp [hv]
theorem c3w {t u e : TypeId} {sz m cap cy ny : Nat} {base ady : Option Addr} {vs : List Value} {ts : Array TypeId} (h0 : ts[0]? = some t) (h1 : ts[1]? = some u)
   (hu : P.underlying t = some (.slice e)) (hu2 : ∃ e2, P.underlying u = some (.slice e2)) (hsz : b8N P e = some sz) {w w' : World} (hroom : m + ny ≤ cap)
   (hread : (Builtin.firstCells sz ny (.slice ady ny cy)).run P w = .ok vs.toArray w)
   (hst : ∀ ad, base = some ad → (storeCells (ad.add (m * sz)) vs).run P w = .ok () w') (hst0 : base = none → w' = w) :
   (Builtin.append_ ts ty #[.slice base m cap, .slice ady ny cy]).run P w = .ok (.slice base (m + ny) cap) w' := by
 obtain ⟨e2, hu2⟩ := hu2
 unfold Builtin.append_
 simp only [h0, List.getElem?_toArray, List.getElem?_cons_zero, List.getElem?_cons_succ, Sem.run_bind, run_underlying w hu, run_underlying w hu2, run_sizeOf w hsz, Result.andThen_ok, h1, Sem.run_pure,
   Bool.false_eq_true, if_false, Builtin.lenOf, if_pos hroom, Bool.not_false, if_true, hread]
 cases base with
 | none => rw [hst0 rfl]; rfl
 | some ad => simp only [Sem.run_bind, hst ad rfl, Result.andThen_ok, Sem.run_pure]
theorem c4w {t u e : TypeId} {sz m cap cy ny : Nat} {base ady : Option Addr} {vs us : List Value} {ts : Array TypeId} {i : TypeInfo} {zv : Value} (h0 : ts[0]? = some t) (h1 : ts[1]? = some u)
   (hu : P.underlying t = some (.slice e)) (hu2 : ∃ e2, P.underlying u = some (.slice e2)) (hi : P.info? e = some i) (hiz : i.zero = some zv) (hsz : i.size = sz) {w : World} (hroom : ¬ m + ny ≤ cap)
   (hbig : m + ny < 2 ^ 62) (hby : (m + ny) * i.bytes ≤ 2 ^ 47)
   (hread : ∀ w2 : World, w2.heap = w.heap → (Builtin.firstCells sz ny (.slice ady ny cy)).run P w2 = .ok vs.toArray w2)
   (hread2 : ∀ w2 : World, w2.heap = w.heap → (Builtin.firstCells sz m (.slice base m cap)).run P w2 = .ok us.toArray w2) :
   ∃ newCap rest, (m + ny ≤ newCap ∧ newCap < 2 ^ 63) ∧ rest.size = (newCap - (m + ny)) * zv.cells.size ∧
     (Builtin.append_ ts ty #[.slice base m cap, .slice ady ny cy]).run P w = .ok (.slice (some ⟨w.heap.size, 0, none⟩) (m + ny) newCap) (w.drew.alloc (.cells (us.toArray ++ vs.toArray ++ rest) e)) := by
 obtain ⟨e2, hu2⟩ := hu2
 have hsz' : b8N P e = some sz := by simp [b8N, hi, hsz]
 let newCap := (Question.appendCap (m + ny) cap e).cut (w.tape w.drawn (.appendCap (m + ny) cap e))
 have hcap : m + ny ≤ newCap := by simp only [newCap, Question.cut]; omega
 have hcap2 : newCap < 2 ^ 63 := by
   simp only [newCap, Question.cut]
   have := Nat.mod_lt (w.tape w.drawn (.appendCap (m + ny) cap e)) (show 2 ^ 63 - (m + ny) > 0 by omega)
   omega
 have hnext : ¬ (Builtin.nextslicecap (m + ny) cap * i.bytes > 2 ^ 48) := by
   have := c1w (m + ny) cap (by omega)
   have := Nat.mul_le_mul_right i.bytes this
   rw [Nat.mul_assoc] at this
   omega
 have hti : ∀ w2 : World, (typeInfo e).run P w2 = .ok i w2 := fun w2 => by simp [typeInfo, hi]
 have hneed : ¬ (((m + ny : Nat) : Int) > IntKind.i64.max ∧ (false = true ∨ i.bytes = 0)) := by
   have : IntKind.i64.max = 2 ^ 63 - 1 := rfl
   rw [this]; omega
 refine ⟨newCap, Builtin.zeroCells zv.cells (newCap - (m + ny)), ⟨hcap, hcap2⟩, by simp [Builtin.zeroCells], ?_⟩
 unfold Builtin.append_
 simp only [h0, List.getElem?_toArray, List.getElem?_cons_zero, List.getElem?_cons_succ, Sem.run_bind, run_underlying w hu, run_underlying w hu2, run_sizeOf w hsz', Result.andThen_ok, h1, Sem.run_pure,
   Bool.false_eq_true, if_false, Builtin.lenOf, if_neg hroom, hti, a5x hi hiz]
 rw [if_neg (by simpa using hneed)]
 simp only [Sem.run_bind, hti, Result.andThen_ok]
 rw [if_neg hnext]
 simp only [Sem.run_bind, run_choose, Question.forced, Bool.false_eq_true, if_false, Result.andThen_ok, run_askRoom, hti, Bool.not_false, if_true, World.drew_eq]
 rw [hread2 w.drew rfl]
 simp only [Result.andThen_ok]
 rw [hread w.drew rfl]
 simp only [Result.andThen_ok, a5x hi hiz, newRow, Sem.run_bind, run_newObj, Sem.run_pure]
 rfl
theorem c5w {x y : Operand} {ts : Array TypeId} {ty : TypeId} (hc : comp P ⟨dst, .call ⟨.builtin .append, #[x, y], ts⟩, ty, pos, af, g⟩ = some r) :
   ∃ t u e e2 i zv, ts[0]? = some t ∧ ts[1]? = some u ∧ P.underlying t = some (.slice e) ∧ P.underlying u = some (.slice e2) ∧ P.info? e = some i ∧ i.zero = some zv ∧ zv.cells.size = i.size ∧ r = .app i.size i.bytes x y := by
 simp only [comp] at hc
 have ht : ts = ts.toList.toArray := by simp
 cases hl : ts.toList with
 | nil => rw [hl] at hc; cases hc
 | cons t l =>
   cases l with
   | nil => rw [hl] at hc; cases hc
   | cons u l =>
     cases l with
     | cons => rw [hl] at hc; cases hc
     | nil =>
       rw [hl] at hc ht
       simp only at hc
       split at hc
       · rename_i e e2 h1 h2
         cases hi : P.info? e with
         | none => rw [hi] at hc; cases hc
         | some i =>
           rw [hi] at hc
           simp only [Option.bind_some] at hc
           cases hz : i.zero with
           | none => rw [hz] at hc; cases hc
           | some zv =>
             rw [hz] at hc
             simp only [Option.bind_some] at hc
             split at hc
             · rename_i hs
               exact ⟨t, u, e, e2, i, zv, by rw [ht]; rfl, by rw [ht]; rfl, h1, h2, hi, hz, hs, by simpa using hc.symm⟩
             · cases hc
       · cases hc
theorem c6w (us vs : List Value) (rest : Array Value) (q : Nat) : (us.toArray ++ vs.toArray ++ rest).getD q undef = if q < us.length then us.getD q undef else if q < us.length + vs.length then vs.getD (q - us.length) undef else rest.getD (q - (us.length + vs.length)) undef := by
 simp only [Array.getD_eq_getD_getElem?, List.getD]
 by_cases h1 : q < us.length
 · rw [if_pos h1, Array.getElem?_append_left (by simp; omega), Array.getElem?_append_left (by simpa using h1)]; simp
 · rw [if_neg h1]
   by_cases h2 : q < us.length + vs.length
   · rw [if_pos h2, Array.getElem?_append_left (by simp; omega), Array.getElem?_append_right (by simp; omega)]; simp
   · rw [if_neg h2, Array.getElem?_append_right (by simp; omega)]; simp
theorem c7w {xs ys : List (List IV)} {i j : Nat} {x : IV} (h : at2 (xs ++ ys) i j = some x) : (i < xs.length ∧ at2 xs i j = some x) ∨ (xs.length ≤ i ∧ at2 ys (i - xs.length) j = some x) := by
 by_cases h1 : i < xs.length
 · left; refine ⟨h1, ?_⟩; simpa [at2, List.getElem?_append_left h1] using h
 · right; refine ⟨by omega, ?_⟩; simpa [at2, List.getElem?_append_right (by omega : xs.length ≤ i)] using h
theorem c8w {xs : List (List IV)} {sz : Nat} (hs : ∀ x ∈ xs, x.length = sz) {i j : Nat} {x : IV} (h : at2 xs i j = some x) : i < xs.length ∧ j < sz ∧ i * sz + j < xs.length * sz := by
 obtain ⟨r, h1, h2⟩ := c3e h
 have h3 := (List.getElem?_eq_some_iff.1 h1).1
 have h4 : j < sz := by rw [← hs r (List.mem_of_getElem? h1)]; exact (List.getElem?_eq_some_iff.1 h2).1
 have h5 : (i + 1) * sz ≤ xs.length * sz := Nat.mul_le_mul_right sz (by omega)
 have h6 : (i + 1) * sz = i * sz + sz := by rw [Nat.add_mul]; omega
 omega
theorem c9w {A' : Nat → Prop} {ψ' : Pl} {H' : Hp} {w' : World} {id b sz : Nat} {k : Nat × Nat} {xs ys : List (List IV)} {C : Array Value} {e : TypeId} (hψ : ψ' id = some (b, k))
   (hb : w'.heap[b]? = some (.cells C e (0, 0))) (hk : k.1 + k.2 = C.size) (hxs : ∀ x ∈ xs, x.length = sz) (hys : ∀ x ∈ ys, x.length = sz) (hl : (xs.length + ys.length) * sz ≤ k.2)
   (h1 : ∀ i j x, at2 xs i j = some x → RIV A' w' x (C.getD (k.1 + (i * sz + j)) undef))
   (h2 : ∀ i j x, at2 ys i j = some x → RIV A' w' x (C.getD (k.1 + (xs.length * sz + (i * sz + j))) undef)) : ROb A' ψ' H' w' id (.list sz (xs ++ ys)) := by
 refine ⟨fun x hx => ?_, .inr ⟨b, k, C, e, hψ, hb, hk, by simpa using hl, fun i j x hx => ?_⟩⟩
 · rcases List.mem_append.1 hx with hx | hx
   · exact hxs x hx
   · exact hys x hx
 · rcases c7w hx with ⟨_, hx⟩ | ⟨hi, hx⟩
   · exact h1 i j x hx
   · have := h2 _ _ _ hx
     rw [Nat.sub_mul] at this
     have h3 : xs.length * sz ≤ i * sz := Nat.mul_le_mul_right sz hi
     have e : xs.length * sz + (i * sz - xs.length * sz + j) = i * sz + j := by omega
     rw [e] at this
     exact this
theorem c0x {x y : Operand} {ts : Array TypeId} (hc : comp P ⟨dst, .call ⟨.builtin .append, #[x, y], ts⟩, ty, pos, af, g⟩ = some r) (hd : d < 1000) (h : SimAt E n ψ s a w) (hk : stp P d s K r) :
   Does P E n ⟨dst, .call ⟨.builtin .append, #[x, y], ts⟩, ty, pos, af, g⟩ a w K := by
 obtain ⟨t, u, e, e2, ti, zv, h0, h1, hu, hu2, hi, hz, hzs, rfl⟩ := c5w hc
 have hsz : b8N P e = some ti.size := by simp [b8N, hi]
 generalize hszd : ti.size = sz at *
 generalize hbyd : ti.bytes = bytes at *
 simp only [stp] at hk
 have hx := h.ev x
 have hy := h.ev y
 have grow : ∀ (m : Nat) (base : Option Addr) (cap : Nat) (us : List Value) (sz2 : Nat) (ys : List (List IV)), s.elems (s.ev y) = some (sz2, ys) → (sz2 = sz ∨ ys = []) → a.eval x = .slice base m cap →
     ¬ m + ys.length ≤ cap → m + ys.length < 2 ^ 62 → (m + ys.length) * bytes ≤ 2 ^ 47 → us.length = m * sz → (∀ w2 : World, w2.heap = w.heap → (Builtin.firstCells sz m (.slice base m cap)).run P w2 = .ok us.toArray w2) →
     ∃ (newCap : Nat) (C : Array Value) (w' : World), Ext w w' ∧ w'.heap[w.heap.size]? = some (.cells C e (0, 0)) ∧ (m + ys.length ≤ newCap ∧ newCap < 2 ^ 63) ∧ C.size = newCap * sz ∧
       (execOp a.eval ⟨dst, .call ⟨.builtin .append, #[x, y], ts⟩, ty, pos, af, g⟩).run P w = .ok (.value (.slice (some ⟨w.heap.size, 0, none⟩) (m + ys.length) newCap)) w' ∧
       (∀ q, q < m * sz → C.getD q undef = us.getD q undef) ∧ (∀ y ∈ ys, y.length = sz) ∧ ∀ i j x, at2 ys i j = some x → RIV (Im E ψ s.hp) w x (C.getD (m * sz + (i * sz + j)) undef) := by
   intro m base cap us sz2 ys he hs2 hvx hroom hbig hby hul hur
   obtain ⟨vs, y1, y2, y3, y4, y5, ady, cy, hvy⟩ := b9g h hy he hs2
   obtain ⟨newCap, rest, ⟨c1, c1m⟩, c2, hr⟩ := c4w (P := P) (ty := ty) (base := base) (ady := ady) (cy := cy) (m := m) (cap := cap) (us := us) (vs := vs) h0 h1 hu ⟨e2, hu2⟩ hi hz hszd (w := w)
     hroom hbig (by rw [hbyd]; exact hby) (fun w2 hw2 => by rw [← hvy]; exact y2 w2 hw2) hur
   have e1 : (m + ys.length) * sz = m * sz + ys.length * sz := Nat.add_mul _ _ _
   have hnc : (m + ys.length) * sz ≤ newCap * sz := Nat.mul_le_mul_right sz c1
   have e3 : (newCap - (m + ys.length)) * sz = newCap * sz - (m + ys.length) * sz := Nat.sub_mul _ _ _
   refine ⟨newCap, us.toArray ++ vs.toArray ++ rest, _, (Ext.drew w).trans (Ext.alloc _ (.cells (us.toArray ++ vs.toArray ++ rest) e)), ?_, ⟨c1, c1m⟩, ?_, c2w (by rw [hvx, hvy]; exact hr), fun q hq => ?_, y3, fun i j x hx => ?_⟩
   · exact a0x w.drew _
   · simp only [Array.size_append, List.size_toArray, hul, y1, c2, hzs, e3]; omega
   · rw [c6w, if_pos (by omega)]
   · have hb := c8w y3 hx
     rw [c6w, if_neg (by omega), if_pos (by omega), hul, show m * sz + (i * sz + j) - m * sz = i * sz + j from by omega]
     exact y4 i j x hx
 generalize hax : s.ev x = ax at hx hk
 split at hk
 · -- onto a list of one's own
   rename_i id sz' lo m sz2 ys he
   split at hk
   · rename_i o ho
     split at hk
     · rename_i z0 xs hels
       obtain ⟨rfl, hs2, hid, hlm, hby, hbig, hk⟩ := hk
       obtain ⟨o', xm, q1, q1', q2, hcase⟩ := b0p hx
       rw [ho] at q1; cases q1
       have hdd := b5P hels
       rw [q1'] at hdd
       simp only [Option.some.injEq, Prod.mk.injEq] at hdd
       obtain ⟨hd1, hd2⟩ := hdd
       have hd1 := hd1.symm
       subst hd1; subst hd2
       obtain ⟨hs0, hob2⟩ := b3P hels (h.obs id _ ho)
       have hdl : (xs.drop lo).length = m := by simp; omega
       have hds : ∀ x ∈ xs.drop lo, x.length = z0 := fun x hx => hs0 x (List.mem_of_mem_drop hx)
       have hlen : (xs.drop lo ++ ys).length = m + ys.length := by simp; omega
       have he1 : s.elems (.sl id z0 lo m) = some (z0, xs.drop lo) := by
         simp only [St.elems, ho, hels]
         congr 2
         rw [← hdl, List.take_length]
       obtain ⟨us, x1, x2, x3, x4, x5, adx, cx, hvx'⟩ := b9g h hx he1 (.inl rfl)
       rw [hdl] at x1 x2 hvx'
       have new : ∀ base cap, a.eval x = .slice base m cap → ¬ m + ys.length ≤ cap → Does P E n ⟨dst, .call ⟨.builtin .append, #[x, y], ts⟩, ty, pos, af, g⟩ a w K := by
         intro base cap hvx hroom
         obtain ⟨newCap, C, w', w1, w2, ⟨w3, w3m⟩, w4, w5, w6, w7, w8⟩ := grow m base cap us sz2 ys he hs2 hvx hroom hbig hby x1 (fun w2 hw2 => by rw [← hvx]; exact x2 w2 hw2)
         have h2 := h.renew (o' := o.setEls z0 (xs.drop lo ++ ys)) hid ho (b7P hels) (p := some (w.heap.size, (0, C.size))) (w' := w') (fun b hb _ => w1.block b hb) w1.size w1.same
           (fun b k e => by cases e; exact .inl (Nat.le_refl _))
           (b4P hels <| c9w (b := w.heap.size) (k := (0, C.size)) (by simp [upd]) w2 (by simp) hds w7 (by rw [hdl, w4]; exact Nat.mul_le_mul_right z0 w3)
             (fun i j x hx => by
               have hb := c8w hds hx
               rw [hdl] at hb
               rw [Nat.zero_add, w6 _ (by omega)]
               exact (x4 i j x hx).mono (fun b hb hi => ⟨hb, hi⟩) (fun b hb _ => w1.block b hb))
             (fun i j x hx => by
               rw [Nat.zero_add, hdl]
               exact (w8 i j x hx).mono (fun b hb hi => ⟨hb, hi⟩) (fun b hb _ => w1.block b hb)))
         exact c8C w5 hk h2 (.sl id z0 0 (m + ys.length) w.heap.size (0, C.size) newCap _ (o.setEls z0 (xs.drop lo ++ ys)) _ (by simp [c4G]) (b6P hels) (by rw [hlen]; omega) (by simp [upd]) (fun _ => by simp) w3 (by rw [w4]; simp) w3m)
       rcases hcase with ⟨p1, rfl, rfl, hvx⟩ | ⟨b, k, cap, ad, p1, p2, p3, p4, hvx⟩
       · -- nil
         by_cases hy0 : ys = []
         · subst hy0
           have hxs : xs = [] := by
             rcases hob2 with ⟨_, h2⟩ | ⟨b', k', c', e', h2, _⟩
             · exact h2
             · rw [p1] at h2; cases h2
           subst hxs
           obtain ⟨vs, y1, y2, y3, y4, y5, ady, cy, hvy⟩ := b9g h hy he hs2
           have hr := c3w (P := P) (ty := ty) (base := none) (ady := ady) (cy := cy) (m := 0) (cap := 0) (ny := 0) (vs := vs) h0 h1 hu ⟨e2, hu2⟩ hsz (w := w) (w' := w) (by omega)
             (by have := y2 w rfl; rw [hvy] at this; exact this) (fun ad e => by cases e) (fun _ => rfl)
           have h2 := h.renew (o' := o.setEls z0 []) hid ho (b7P hels) (p := none) (w' := w) (fun _ _ _ => rfl) (Nat.le_refl _) ⟨rfl, rfl, rfl, Nat.le_refl _⟩ (fun _ _ e => by cases e)
             (b4P hels ⟨by simp, .inl ⟨by simp [upd], rfl⟩⟩)
           refine c8C (c2w (by rw [hvx, hvy]; exact hr)) (by simpa using hk) h2 ?_
           exact .sl0 id z0 (o.setEls z0 []) 0 (by simp [c4G]) (b6P hels) (by simp [upd])
         · exact new none 0 hvx (by have := List.length_pos_iff.2 hy0; omega)
       · by_cases hroom : m + ys.length ≤ cap
         · -- where there is room
           obtain ⟨vs, y1, y2, y3, y4, y5, ady, cy, hvy⟩ := b9g h hy he hs2
           rcases hob2 with ⟨h1', _⟩ | ⟨b', k', c, e', g1, g2, g3, g3', g4⟩
           · rw [h1'] at p1; cases p1
           rw [g1] at p1; cases p1
           have e1 : (lo + cap) * z0 = lo * z0 + cap * z0 := Nat.add_mul _ _ _
           have e3 : (m + ys.length) * z0 ≤ cap * z0 := Nat.mul_le_mul_right z0 hroom
           have e4 : (m + ys.length) * z0 = m * z0 + ys.length * z0 := Nat.add_mul _ _ _
           have st : ∃ w', (∀ ad', some ad = some ad' → (storeCells (ad'.add (m * z0)) vs).run P w = .ok () w') ∧ (∀ j, j ≠ b → w'.heap[j]? = w.heap[j]?) ∧ w'.heap.size = w.heap.size ∧
               (w'.os = w.os ∧ w'.tape = w.tape ∧ w'.output = w.output ∧ w.drawn ≤ w'.drawn) ∧ ∃ c', w'.heap[b]? = some (.cells c' e' (0, 0)) ∧ c'.size = c.size ∧
               ∀ q, q < c.size → c'.getD q undef = if k.1 + lo * z0 + m * z0 ≤ q ∧ q < k.1 + lo * z0 + m * z0 + vs.length then vs.getD (q - (k.1 + lo * z0 + m * z0)) undef else c.getD q undef := by
             by_cases hv0 : vs = []
             · subst hv0
               refine ⟨w, fun ad' _ => rfl, fun _ _ => rfl, rfl, ⟨rfl, rfl, rfl, Nat.le_refl _⟩, c, g2, rfl, fun q _ => ?_⟩
               rw [if_neg (by simp)]
             · have hvl : 0 < vs.length := List.length_pos_iff.2 hv0
               have hcap : 0 < cap := by
                 rcases Nat.eq_zero_or_pos cap with hc0 | hc0
                 · rw [hc0] at hroom
                   have : ys.length = 0 := by omega
                   rw [this] at y1; omega
                 · exact hc0
               have p2 := p2 hcap
               obtain ⟨w', r1, r2, r3, r4, r5⟩ := a7s (P := P) b (k.1 + lo * z0 + m * z0) vs 0 w c e' g2 y5 (by omega)
               refine ⟨w', fun ad' hh => ?_, r2, r3, r4, putA c (k.1 + lo * z0 + m * z0) vs, r5, a8r _ _ _, fun q hq => a9r _ _ _ _ hq⟩
               cases hh
               rw [p2, c4D]
               exact r1
           obtain ⟨w', r1, r2, r3, r4, c', r5, r6, r7⟩ := st
           have hr := c3w (P := P) (ty := ty) (base := some ad) (ady := ady) (cy := cy) (m := m) (cap := cap) (ny := ys.length) (vs := vs) h0 h1 hu ⟨e2, hu2⟩ hsz (w := w) (w' := w') hroom
             (by rw [← hvy]; exact y2 w rfl) r1 (fun e => by cases e)
           have hH : Held ψ s.hp b := ⟨id, _, ho, .inl ⟨k, g1⟩⟩
           have hmono : ∀ {x v}, RIV (Im E ψ s.hp) w x v → RIV (fun b => b < w.heap.size ∧ Im E ψ s.hp b) w' x v := fun hh => hh.mono (fun b hb hi => ⟨hb, hi⟩) (fun j _ hi => r2 j (fun e => hi.2 (e ▸ hH)))
           have h2 := h.renew (o' := o.setEls z0 (xs.drop lo ++ ys)) hid ho (b7P hels) (p := some (b, (k.1 + lo * z0, k.2 - lo * z0))) (w' := w') (fun j hj hne => r2 j (fun e => hne k (by rw [e]; exact g1))) (by omega) r4
             (fun b1 k1 e => by cases e; exact .inr ⟨k, g1⟩)
             (b4P hels <| c9w (b := b) (k := (k.1 + lo * z0, k.2 - lo * z0)) (by simp [upd]) r5 (by simp; omega) hds y3 (by rw [hdl]; simp; omega)
               (fun i j x hx => by
                 have hb := c8w hds hx
                 rw [hdl] at hb
                 rw [r7 _ (by simp; omega), if_neg (by simp; omega)]
                 have hx' : at2 xs (lo + i) j = some x := by simpa [at2, List.getElem?_drop] using hx
                 have := g4 _ _ _ hx'
                 rw [Nat.add_mul] at this
                 simp only
                 rw [show k.1 + lo * z0 + (i * z0 + j) = k.1 + (lo * z0 + i * z0 + j) from by omega]
                 exact hmono this)
               (fun i j x hx => by
                 have hb := c8w y3 hx
                 rw [hdl]
                 simp only
                 rw [r7 _ (by omega), if_pos (by omega), show k.1 + lo * z0 + (m * z0 + (i * z0 + j)) - (k.1 + lo * z0 + m * z0) = i * z0 + j from by omega]
                 exact hmono (y4 i j x hx)))
           refine c8C (c2w (by rw [hvx, hvy]; exact hr)) hk h2 ?_
           refine .sl id z0 0 (m + ys.length) b (k.1 + lo * z0, k.2 - lo * z0) cap ad (o.setEls z0 (xs.drop lo ++ ys)) _ (by simp [c4G]) (b6P hels) (by rw [hlen]; omega) (by simp [upd]) (fun hc => by rw [p2 hc]; simp) hroom (by simp; omega) (by rw [hvx] at hx; exact b2p hx)
         · exact new (some ad) cap hvx hroom
     · exact hk.elim
   · exact hk.elim
 · -- onto nil
   rename_i sz' sz2 ys he
   obtain ⟨hs2, hby, hbig, hk⟩ := hk
   have hvx := b8o hx
   have hdr := h.drop (id := d) hd
   by_cases hy0 : ys = []
   · subst hy0
     obtain ⟨vs, y1, y2, y3, y4, y5, ady, cy, hvy⟩ := b9g h hy he hs2
     have hr := c3w (P := P) (ty := ty) (base := none) (ady := ady) (cy := cy) (m := 0) (cap := 0) (ny := 0) (vs := vs) h0 h1 hu ⟨e2, hu2⟩ hsz (w := w) (w' := w) (by omega)
       (by have := y2 w rfl; rw [hvy] at this; exact this) (fun ad e => by cases e) (fun _ => rfl)
     have h2 := hdr.new (o := .list sz []) (p := none) hd (a9w s d) (Ext.refl w) (fun _ _ e => by cases e) ⟨(fun x hx => by cases hx), .inl ⟨by simp [upd], rfl⟩⟩
     refine c8C (c2w (by rw [hvx, hvy]; exact hr)) hk h2 ?_
     exact .sl0 d sz (.list sz []) 0 (by simp [c4G]) rfl (by simp [upd])
   · obtain ⟨newCap, C, w', w1, w2, ⟨w3, w3m⟩, w4, w5, w6, w7, w8⟩ := grow 0 none 0 [] sz2 ys he hs2 hvx (by have := List.length_pos_iff.2 hy0; omega) (by omega) (by simpa using hby) (by simp) (fun _ _ => rfl)
     have him : ∀ b, b < w.heap.size → Im E ψ s.hp b → Im E ψ (s.drop d).hp b := by
       rintro b _ ⟨i1, i2⟩
       refine ⟨i1, ?_⟩
       rintro ⟨k, o, ho, hq⟩
       unfold St.drop at ho
       split at ho
       · exact i2 ⟨k, o, ho, hq⟩
       · simp only [b7H] at ho
         split at ho
         · cases ho
         · rw [c0e] at ho
           cases ho' : look s.hp k with
           | none => rw [ho'] at ho; cases ho
           | some o' => exact i2 ⟨k, o', ho', hq⟩
     have h2 := hdr.new (o := .list sz ys) (p := some (w.heap.size, (0, C.size))) hd (a9w s d) w1 (fun b k e => by cases e; exact Nat.le_refl _)
       (c9w (xs := []) (b := w.heap.size) (k := (0, C.size)) (by simp [upd]) w2 (by simp) (by simp) w7 (by rw [w4]; simpa using Nat.mul_le_mul_right sz w3) (by simp [at2])
         (fun i j x hx => by
           have := w8 i j x hx
           simp only [Nat.zero_mul, Nat.zero_add, List.length_nil] at this ⊢
           exact this.mono (fun b hb hi => ⟨hb, him b hb hi⟩) (fun b hb _ => w1.block b hb)))
     rw [Nat.zero_add] at w5 w3
     exact c8C w5 hk h2 (.sl d sz 0 ys.length w.heap.size (0, C.size) newCap _ (.list sz ys) ys.length (by simp [c4G]) rfl (by omega) (by simp [upd]) (fun _ => by simp) w3 (by rw [w4]; simp) w3m)
 · exact hk.elim
end
end Go.Vm
end

section
namespace Go.Vm
section
variable {P : Program} {E : En} {n : Nat} {ψ : Pl} {s : St} {a : Act} {w : World}
variable {dst : Option Nat} {ty : TypeId} {pos : String} {af : Array Edge} {g : Option (Nat × Bool)} {r : Rhs} {d : Nat} {K : St → AV → Prop}
theorem a1l {t : TypeId} {x y : Operand} {q : Nat} (hq : b8N P t = some q) {b o : Nat} (hx : a.eval x = .pointer (some ⟨b, o, none⟩)) (hl : (a.eval y).cells.size = q) {w' : World}
   (hs : (storeCells ⟨b, o, none⟩ (a.eval y).cells.toList).run P w = .ok () w') :
   (execOp a.eval ⟨dst, .store t x y, ty, pos, af, g⟩).run P w = .ok .skip w' := by
 simp only [execOp, Instr.storeAt, hx, sure, storeVar, Sem.run_bind, Sem.run_pure', Result.andThen_ok, run_sizeOf w hq, hl, ne_eq, not_true, if_false, hs, Sem.run_pure]
theorem a2l {t : TypeId} {x y : Operand} {q : Nat} (hq : b8N P t = some q) (h : SimAt E n ψ s a w) (hk : stp P d s K (.st x y q))
   (hno : ∀ id sz i off z xs hole, s.ev x = .ep id sz i off → look (s.frz [s.ev y]).hp id ≠ some (.listo z xs hole)) :
   Does P E n ⟨dst, .store t x y, ty, pos, af, g⟩ a w K := by
 simp only [stp] at hk
 have hx := h.ev x
 have hy := h.ev y
 generalize hax : s.ev x = ax at hx hk
 split at hk
 · rename_i id off
   split at hk
   · rename_i cs cy ho hcy
     obtain ⟨hl, hin, hone, hk⟩ := hk
     obtain ⟨b, k, o, ho', hb, hvx⟩ := b3o hx
     obtain ⟨b', c, e, h1, h2, h3, h4⟩ := h.obs id _ ho
     rw [h1] at hb; cases hb
     obtain ⟨g1, g2⟩ := a8w hy hcy
     have hlen : (a.eval y).cells.toList.length = cy.length := by simpa using g1
     have g2' : ∀ i x, cy[i]? = some x → RAV (Im E ψ s.hp) ψ s.hp w x ((a.eval y).cells.toList.getD i undef) := fun i x hx => by rw [a7w]; exact g2 i x hx
     obtain ⟨w', r1, r2, r3, r4, r5⟩ := a7s (P := P) b off (a.eval y).cells.toList 0 w c e h2 (a8s hlen g2' hone) (by omega)
     have hrun := a1l (dst := dst) (ty := ty) (pos := pos) (af := af) (g := g) hq hvx (by omega) r1
     have hsr : (b0Q cs off cy).length = cs.length := a0s _ _ _ (by omega)
     have hch := h.chg (o' := .box (b0Q cs off cy)) ho (Ob.le_none rfl) rfl (by simp [Ob.multi]) h1 r2 r3 r4 (fun tr _ => by
       refine ⟨b, putA c off (a.eval y).cells.toList, e, by rw [a8r]; exact h1, r5, by rw [a8r, hsr]; exact h3, fun i z hz => tr _ _ (a2s h3 h4 hlen g2' (by omega) i z hz)⟩)
     exact c9C hrun hk hch
   · exact hk.elim
 · rename_i id sz0 i off
   have hf := h.frz [s.ev y]
   have hy' := hf.ev y
   have hx' := hf.ev x
   split at hk
   · rename_i sz xs cy ho hcy
     split at hk
     · rename_i r hr
       obtain ⟨hex, hl, hin, hk⟩ := hk
       rw [hex] at hx'
       obtain ⟨b, k, o', m', ho', he', hi, hb, hvx⟩ := b4o hx'
       rw [ho] at ho'; cases ho'
       simp only [Ob.dim, Option.some.injEq, Prod.mk.injEq] at he'
       obtain ⟨hz1, hz2⟩ := he'
       subst hz2
       cases hcs : ((s.frz [s.ev y]).ev y).cellsOf with
       | none => rw [hcs] at hcy; cases hcy
       | some cs =>
         rw [hcs] at hcy
         simp only [Option.bind_some] at hcy
         obtain ⟨g1, g2⟩ := a8w hy' hcs
         have hlen : (a.eval y).cells.toList.length = cs.length := by simpa using g1
         obtain ⟨v1, v2⟩ := a9s hf hlen (fun i x hx => by rw [a7w]; exact g2 i x hx) hcy
         obtain ⟨hs0, hob⟩ := hf.obs id _ ho
         rcases hob with ⟨h1', _⟩ | ⟨b', k', c, e, h1, h2, h3, h3', h4⟩
         · rw [h1'] at hb; cases hb
         rw [h1] at hb; cases hb
         have hrl := hs0 r (List.mem_of_getElem? hr)
         have hm : (i + 1) * sz ≤ xs.length * sz := Nat.mul_le_mul_right sz (by omega)
         have e2 : (i + 1) * sz = i * sz + sz := by rw [Nat.add_mul]; omega
         have hones : ∀ v ∈ (a.eval y).cells.toList, v.oneCell' = true := by
           intro v hv
           obtain ⟨j, hj, rfl⟩ := List.getElem_of_mem hv
           have hcj : cy[j]? = some cy[j] := List.getElem?_eq_getElem (by omega)
           have := v2 j _ hcj
           rw [show (a.eval y).cells.toList.getD j undef = (a.eval y).cells.toList[j] from by rw [List.getD, List.getElem?_eq_getElem hj]; rfl] at this
           exact this.one
         obtain ⟨w', r1, r2, r3, r4, r5⟩ := a7s (P := P) b (k.1 + (i * sz + off)) (a.eval y).cells.toList 0 w c e h2 hones (by omega)
         have hrun := a1l (dst := dst) (ty := ty) (pos := pos) (af := af) (g := g) hq hvx (by omega) r1
         have hsr : (b0Q r off cy).length = r.length := a0s _ _ _ (by omega)
         have hch := hf.chg (o' := .list sz (xs.set i (b0Q r off cy))) ho (Ob.le_of rfl rfl (by simp)) rfl (by simp [Ob.multi]) h1 r2 r3 r4 (fun _ tr => by
           refine ⟨fun z hz => ?_, .inr ⟨b, k, putA c (k.1 + (i * sz + off)) (a.eval y).cells.toList, e, h1, r5, by rw [a8r]; exact h3, by simpa using h3', fun i' j z hz => ?_⟩⟩
           · rcases List.mem_or_eq_of_mem_set hz with hz | rfl
             · exact hs0 z hz
             · omega
           · have hb' : i' < xs.length ∧ j < sz ∧ i' * sz + j < xs.length * sz := by
               have := c8w (xs := xs.set i (b0Q r off cy)) (sz := sz) (fun y hy => by
                 rcases List.mem_or_eq_of_mem_set hy with hy | rfl
                 · exact hs0 y hy
                 · omega) hz
               simpa using this
             rw [a9r _ _ _ _ (by omega)]
             by_cases hii : i' = i
             · subst hii
               have hz' : (b0Q r off cy)[j]? = some z := by simpa [at2, List.getElem?_set, hi] using hz
               rw [a1s _ _ _ (by omega)] at hz'
               by_cases hjj : off ≤ j ∧ j < off + cy.length
               · rw [if_pos hjj] at hz'
                 rw [if_pos (by omega), show k.1 + (i' * sz + j) - (k.1 + (i' * sz + off)) = j - off from by omega]
                 exact tr _ _ (v2 _ _ hz')
               · rw [if_neg hjj] at hz'
                 rw [if_neg (by omega)]
                 exact tr _ _ (h4 _ _ _ (c4e hr hz'))
             · have hz' : at2 xs i' j = some z := by simpa [at2, List.getElem?_set, Ne.symm hii] using hz
               have hne : ¬ (k.1 + (i * sz + off) ≤ k.1 + (i' * sz + j) ∧ k.1 + (i' * sz + j) < k.1 + (i * sz + off) + (a.eval y).cells.toList.length) := by
                 rcases Nat.lt_or_gt_of_ne hii with hlt | hlt
                 · have h7 : (i' + 1) * sz ≤ i * sz := Nat.mul_le_mul_right sz (by omega)
                   have h8 : (i' + 1) * sz = i' * sz + sz := by rw [Nat.add_mul]; omega
                   omega
                 · have h7 : (i + 1) * sz ≤ i' * sz := Nat.mul_le_mul_right sz (by omega)
                   omega
               rw [if_neg hne]
               exact tr _ _ (h4 _ _ _ hz'))
         exact c9C hrun hk hch
     · exact hk.elim
   · rename_i ho
     exact absurd ho (hno _ _ _ _ _ _ _ hax)
   · exact hk.elim
 · exact hk.elim
/-! ### Structs are held against one another, cell by cell. -/
theorem a3l : ∀ (ks : List Kd) (cs ds : List AV) (b : Bool), b6Q ks cs ds = some b → cs.length = ks.length ∧ ds.length = ks.length := by
 intro ks
 induction ks with
 | nil => intro cs ds b h; unfold b6Q at h; split at h <;> simp_all
 | cons k ks ih =>
   intro cs ds b h
   unfold b6Q at h
   split at h
   · simp_all
   · rename_i t ks' u r v q hk
     cases hk
     cases hc : b5Q k u v with
     | none => rw [hc] at h; cases h
     | some z =>
       rw [hc] at h
       simp only [Option.bind_some] at h
       cases hr : b6Q ks r q with
       | none => rw [hr] at h; cases h
       | some z2 => obtain ⟨g1, g2⟩ := ih _ _ _ hr; simp [g1, g2]
   · cases h
theorem a4l : ∀ (k1 k2 : List Kd) (cs ds : List AV) (b : Bool), b6Q (k1 ++ k2) cs ds = some b →
   ∃ b1 b2, b6Q k1 (cs.take k1.length) (ds.take k1.length) = some b1 ∧ b6Q k2 (cs.drop k1.length) (ds.drop k1.length) = some b2 ∧ b = (b1 && b2) := by
 intro k1
 induction k1 with
 | nil => intro k2 cs ds b h; exact ⟨true, b, by simp [b6Q], by simpa using h, by simp⟩
 | cons k k1 ih =>
   intro k2 cs ds b h
   rw [List.cons_append] at h
   unfold b6Q at h
   split at h
   · rename_i hh; cases hh
   · rename_i t ks' u r v q hk
     cases hk
     cases hc : b5Q k u v with
     | none => rw [hc] at h; cases h
     | some z =>
       rw [hc] at h
       simp only [Option.bind_some] at h
       cases hr : b6Q (k1 ++ k2) r q with
       | none => rw [hr] at h; cases h
       | some z2 =>
         rw [hr] at h
         simp only [Option.map_some, Option.some.injEq] at h
         obtain ⟨b1, b2, g1, g2, rfl⟩ := ih _ _ _ _ hr
         refine ⟨z && b1, b2, ?_, by simpa using g2, by rw [← h, Bool.and_assoc]⟩
         simp [b6Q, hc, g1]
   · cases h
def Rel (us : Array Value) (cs : List AV) : Prop := us.size = cs.length ∧ ∀ i x, cs[i]? = some (.iv (.v x)) → us.getD i undef = x
theorem Rel.part {us : Array Value} {cs : List AV} (h : Rel us cs) {o q : Nat} (hq : o + q ≤ cs.length) : Rel (us.extract o (o + q)) ((cs.drop o).take q) := by
 obtain ⟨h1, h2⟩ := h
 refine ⟨by simp; omega, fun i x hx => ?_⟩
 rw [List.getElem?_take] at hx
 split at hx
 · rename_i hi
   rw [List.getElem?_drop] at hx
   have := h2 _ _ hx
   rw [← this]
   simp only [Array.getD_eq_getD_getElem?, Array.getElem?_extract]
   rw [if_pos (by omega)]
 · cases hx
theorem a5l {d : Nat} {t : TypeId} {k : Kd} (hu : P.underlying t = some (match k with | .b => .bool | .i j => .int j | .s => .string)) {u v : Value} {b : Bool} (h : b5Q k u v = some b)
   (w : World) : (Op.equalIn (d + 1) t u v).run P w = .ok b w := by
 cases k with
 | b =>
   cases u <;> cases v <;> simp only [b5Q] at h <;> cases h
   exact b8p d hu _ _ w
 | i j =>
   cases u <;> cases v <;> simp only [b5Q] at h <;> (first | (cases h; done) | skip)
   split at h
   · cases h; subst_vars; simp [Op.equalIn, run_underlying w hu]
   · cases h
 | s =>
   cases u <;> cases v <;> simp only [b5Q] at h <;> cases h
   simp [Op.equalIn, run_underlying w hu]
theorem a6l {us vs : Array Value} {cs ds : List AV} (h1 : Rel us cs) (h2 : Rel vs ds) {o : Nat} (ho : o + 1 ≤ cs.length) (ho2 : o + 1 ≤ ds.length) {k : Kd} {b : Bool}
   (h : b6Q [k] ((cs.drop o).take 1) ((ds.drop o).take 1) = some b) : b5Q k (us.getD o undef) (vs.getD o undef) = some b := by
 have e1 : cs[o]? = some cs[o] := List.getElem?_eq_getElem (by omega)
 have e2 : ds[o]? = some ds[o] := List.getElem?_eq_getElem (by omega)
 have d1 : (cs.drop o).take 1 = [cs[o]] := by rw [List.drop_eq_getElem_cons (by omega), List.take_succ_cons, List.take_zero]
 have d2 : (ds.drop o).take 1 = [ds[o]] := by rw [List.drop_eq_getElem_cons (by omega), List.take_succ_cons, List.take_zero]
 rw [d1, d2] at h
 unfold b6Q at h
 split at h
 · rename_i hh _ _; cases hh
 · rename_i t ks u r v q hk hc hd
   simp only [List.cons.injEq] at hk hc hd
   obtain ⟨rfl, rfl⟩ := hk
   obtain ⟨hc, rfl⟩ := hc
   obtain ⟨hd, rfl⟩ := hd
   rw [hc] at e1
   rw [hd] at e2
   rw [h1.2 _ _ e1, h2.2 _ _ e2]
   cases hz : b5Q k u v with
   | none => rw [hz] at h; cases h
   | some z => rw [hz] at h; simp [b6Q] at h; rw [h]
 · cases h
theorem a7l : ∀ (d : Nat) (t : TypeId) (ks : List Kd), b3O P d t = some ks → ∀ (D : Nat), d ≤ D → ∀ (us vs : Array Value) (cs ds : List AV) (o : Nat) (b : Bool), Rel us cs → Rel vs ds →
   o + ks.length ≤ cs.length → o + ks.length ≤ ds.length → b6Q ks ((cs.drop o).take ks.length) ((ds.drop o).take ks.length) = some b →
   (b2O P t = true → b8N P t = some ks.length → (Op.equalIn D t (.agg (us.extract o (o + ks.length))) (.agg (vs.extract o (o + ks.length)))).run P w = .ok b w) ∧
   (b8N P t = some ks.length → ∃ X Y, (part t us o).run P w = .ok X w ∧ (part t vs o).run P w = .ok Y w ∧ (Op.equalIn D t X Y).run P w = .ok b w) := by
 intro d
 induction d with
 | zero => intro t ks h; cases h
 | succ d ih =>
   intro t ks hks D hD us vs cs ds o b r1 r2 l1 l2 he
   obtain ⟨D, rfl⟩ : ∃ D', D = D' + 1 := ⟨D - 1, by omega⟩
   unfold b3O at hks
   have leaf : ∀ (k : Kd), P.underlying t = some (match k with | .b => .bool | .i j => .int j | .s => .string) → ks = [k] →
       (b2O P t = true → b8N P t = some ks.length → (Op.equalIn (D + 1) t (.agg (us.extract o (o + ks.length))) (.agg (vs.extract o (o + ks.length)))).run P w = .ok b w) ∧
       (b8N P t = some ks.length → ∃ X Y, (part t us o).run P w = .ok X w ∧ (part t vs o).run P w = .ok Y w ∧ (Op.equalIn (D + 1) t X Y).run P w = .ok b w) := by
     rintro k hu rfl
     have hg : b2O P t = false := by unfold b2O; rw [hu]; cases k <;> rfl
     simp only [List.length_singleton] at l1 l2 he ⊢
     refine ⟨(by rw [hg]; intro h; cases h), fun _ => ⟨us.getD o undef, vs.getD o undef, ?_, ?_, ?_⟩⟩
     · exact b3y hu hg (by have := r1.1; omega) w
     · exact b3y hu hg (by have := r2.1; omega) w
     · exact a5l hu (a6l r1 r2 l1 l2 he) w
   split at hks
   · rename_i hu; exact leaf .b hu (by simpa using hks.symm)
   · rename_i k hu; exact leaf (.i k) hu (by simpa using hks.symm)
   · rename_i hu; exact leaf .s hu (by simpa using hks.symm)
   · rename_i fs hu
     split at hks
     · cases hks
     · rename_i hst
       have hst : P.stoodInHeld t = false := by simpa using hst
       have hg : b2O P t = true := by unfold b2O; rw [hu]
       have fields : ∀ (l : List Field) (k0 ks : List Kd) (us vs : Array Value) (cs ds : List AV) (b : Bool), Rel us cs → Rel vs ds → cs.length = ks.length → ds.length = ks.length →
           l.foldlM (fun ks f => if f.name ≠ "_" ∧ f.offset = ks.length then (b3O P d f.type).bind fun q => if b8N P f.type = some q.length then some (ks ++ q) else none else none) k0 = some ks →
           ∀ k2, ks = k0 ++ k2 → b6Q k2 (cs.drop k0.length) (ds.drop k0.length) = some b → (Op.eqFields D us vs l).run P w = .ok b w := by
         intro l
         induction l with
         | nil =>
           intro k0 ks us vs cs ds b _ _ _ _ hf k2 hk he
           simp only [List.foldlM_nil, Option.pure_def, Option.some.injEq] at hf
           subst hf
           have : k2 = [] := by simpa using hk.symm
           subst this
           have := a3l _ _ _ _ he
           have h1 : cs.drop k0.length = [] := List.eq_nil_of_length_eq_zero (by simpa using this.1)
           have h2 : ds.drop k0.length = [] := List.eq_nil_of_length_eq_zero (by simpa using this.2)
           rw [h1, h2] at he
           simp [b6Q] at he
           subst he
           rfl
         | cons f l ihl =>
           intro k0 ks us vs cs ds b r1 r2 hl1 hl2 hf k2 hk he
           rw [List.foldlM_cons] at hf
           by_cases hc : f.name ≠ "_" ∧ f.offset = k0.length
           · rw [if_pos hc] at hf
             cases hp : b3O P d f.type with
             | none => simp [hp] at hf
             | some q =>
               simp only [hp, Option.bind_some] at hf
               by_cases hq : b8N P f.type = some q.length
               · rw [if_pos hq] at hf
                 simp only [Option.bind_eq_bind, Option.bind_some] at hf
                 have hpre : ∃ k3, ks = (k0 ++ q) ++ k3 := by
                   have aux : ∀ (l : List Field) (k0 ks : List Kd), l.foldlM (fun ks f => if f.name ≠ "_" ∧ f.offset = ks.length then (b3O P d f.type).bind fun q => if b8N P f.type = some q.length then some (ks ++ q) else none else none) k0 = some ks → ∃ k3, ks = k0 ++ k3 := by
                     intro l
                     induction l with
                     | nil => intro k0 ks h; simp at h; subst h; exact ⟨[], by simp⟩
                     | cons f l ih =>
                       intro k0 ks h
                       rw [List.foldlM_cons] at h
                       split at h
                       · cases hp : b3O P d f.type with
                         | none => simp [hp] at h
                         | some q =>
                           simp only [hp, Option.bind_some] at h
                           split at h
                           · simp only [Option.bind_eq_bind, Option.bind_some] at h
                             obtain ⟨k3, e⟩ := ih _ _ h
                             exact ⟨q ++ k3, by rw [e, List.append_assoc]⟩
                           · simp at h
                       · simp at h
                   exact aux _ _ _ hf
                 obtain ⟨k3, hk3⟩ := hpre
                 have hk2 : k2 = q ++ k3 := by rw [hk, List.append_assoc] at hk3; exact List.append_cancel_left hk3
                 subst hk2
                 obtain ⟨b1, b2, g1, g2, rfl⟩ := a4l q k3 _ _ _ he
                 have hlen : k0.length + q.length ≤ ks.length := by rw [hk]; simp
                 obtain ⟨X, Y, p1, p2, p3⟩ := (ih f.type q hp D (by omega) us vs cs ds k0.length b1 r1 r2 (by omega) (by omega) g1).2 hq
                 have hrest := ihl (k0 ++ q) ks us vs cs ds b2 r1 r2 hl1 hl2 hf k3 hk3 (by rw [List.length_append, ← List.drop_drop, ← List.drop_drop]; exact g2)
                 simp only [Op.eqFields, if_pos hc.1, Sem.run_bind, hc.2, p1, p2, p3, Result.andThen_ok]
                 cases b1
                 · simp
                 · simp [hrest]
               · rw [if_neg hq] at hf; simp at hf
           · rw [if_neg hc] at hf; simp at hf
       have whole : b8N P t = some ks.length → (Op.equalIn (D + 1) t (.agg (us.extract o (o + ks.length))) (.agg (vs.extract o (o + ks.length)))).run P w = .ok b w := by
         intro _
         have ht : P.underlying t = some (.struct (P.fieldsOf t)) := by simp [Program.fieldsOf, hu]
         rw [run_equalIn_struct w D t _ _ ht hst]
         have hfs : P.fieldsOf t = fs := by simp [Program.fieldsOf, hu]
         rw [hfs]
         exact fields fs.toList [] ks _ _ _ _ b (r1.part l1) (r2.part l2) (by simp; omega) (by simp; omega) hks ks (by simp) (by simpa using he)
       refine ⟨fun _ => whole, fun hi => ⟨_, _, b4y hu hg hi us o w, b4y hu hg hi vs o w, whole hi⟩⟩
   · cases hks
theorem a8l {A : Nat → Prop} {H : Hp} {us : Array Value} {cs : List AV} (hl : us.size = cs.length) (h : ∀ i c, cs[i]? = some c → RAV A ψ H w c (us.getD i undef)) : Rel us cs :=
 ⟨hl, fun i x hx => b2o (h i _ hx)⟩
theorem a9l {op : BinOp} {xt yt : TypeId} {x y : Operand} {neg : Bool} {fs : Array Field} {ks : List Kd} (hu : P.underlying xt = some (.struct fs)) (hg : P.eqGuardType P.depth xt = false)
   (hks : b3O P 20 xt = some ks) (hop : op = if neg then .neq else .eql) (h : SimAt E n ψ s a w) (hk : stp P d s K (.eqs neg ks x y)) (hi : b8N P xt = some ks.length) :
   DoesV P E n ⟨dst, .binOp op xt x y yt, ty, pos, af, g⟩ a w K := by
 simp only [stp] at hk
 have hx := h.ev x
 have hy := h.ev y
 generalize s.ev x = ax at hx hk
 generalize s.ev y = ay at hy hk
 split at hk
 · rename_i cs ds
   split at hk
   · rename_i b hb
     obtain ⟨us, u1, u2, eu⟩ := b6o hx
     obtain ⟨vs, v1, v2, ev⟩ := b6o hy
     obtain ⟨l1, l2⟩ := a3l _ _ _ _ hb
     have hag : b2O P xt = true := by unfold b2O; rw [hu]
     refine c1D h (v := .bool (if neg then !b else b)) (fun w => ?_) hk (c2D rfl)
     have key := (a7l (P := P) (w := w) 20 xt ks hks 10000 (by omega) us vs cs ds 0 b (a8l u1 u2) (a8l v1 v2) (by omega) (by omega) (by
       rw [List.drop_zero, List.drop_zero, List.take_of_length_le (by omega), List.take_of_length_le (by omega)]; exact hb)).1 hag hi
     have e1 : us.extract 0 (0 + ks.length) = us := by rw [Nat.zero_add, ← l1, ← u1]; simp
     have e2 : vs.extract 0 (0 + ks.length) = vs := by rw [Nat.zero_add, ← l2, ← v1]; simp
     rw [e1, e2] at key
     have hgd := run_eqGuard_agg (P := P) w op xt x y us vs hg
     subst hop
     cases neg
     · simp only [Bool.false_eq_true, if_false] at hgd ⊢
       simp only [execOp, eu, ev, Sem.run_bind, hgd, Result.andThen_ok, run_eql_struct, key, Sem.run_pure]
     · simp only [if_true] at hgd ⊢
       simp only [execOp, eu, ev, Sem.run_bind, hgd, Result.andThen_ok, run_neq_struct, key, Sem.run_pure]
   · exact hk.elim
 · exact hk.elim
end
end Go.Vm
end

section
namespace Go.Vm
section
variable {P : Program} {E : En} {n : Nat} {ψ : Pl} {s : St} {a : Act} {w : World}
variable {dst : Option Nat} {ty : TypeId} {pos : String} {af : Array Edge} {g : Option (Nat × Bool)} {r : Rhs} {d : Nat} {K : St → AV → Prop}
def c4x (E : En) (fr : Bool) (ψ : Pl) (s : St) (H : Hp) (w : World) (b : Nat) : Prop := b < w.heap.size ∧ (if fr then ¬ Held ψ H b else Im E ψ s.hp b)
theorem c5x {fr : Bool} {H : Hp} (hsub : ∀ id o, look H id = some o → look s.hp id = some o) {b : Nat} (hb : b < w.heap.size) (h : Im E ψ s.hp b) : c4x E fr ψ s H w b := by
 refine ⟨hb, ?_⟩
 cases fr
 · exact h
 · rintro ⟨id, o, h1, h2⟩; exact h.2 ⟨id, o, hsub id o h1, h2⟩
theorem c6x {α β : Type} {f : α → Option β} : ∀ {cs : List α} {l : List β}, allO f cs = some l → l.length = cs.length ∧ ∀ (i : Nat) (y : β), l[i]? = some y → ∃ x : α, cs[i]? = some x ∧ f x = some y
 | [], l, h => by simp only [allO, Option.some.injEq] at h; subst h; simp
 | x :: r, l, h => by
   simp only [allO] at h
   split at h
   · rename_i y hy
     cases hr : allO f r with
     | none => rw [hr] at h; cases h
     | some l' =>
       rw [hr] at h
       simp only [Option.map_some, Option.some.injEq] at h
       subst h
       obtain ⟨g1, g2⟩ := c6x hr
       refine ⟨by simp [g1], fun i z hz => ?_⟩
       cases i with
       | zero => simp only [List.getElem?_cons_zero, Option.some.injEq] at hz; subst hz; exact ⟨x, rfl, hy⟩
       | succ i => simpa using g2 i z (by simpa using hz)
   · cases h
theorem c7x (h : SimAt E n ψ s a w) {H : Hp} (hsub : ∀ id o, look H id = some o → look s.hp id = some o) : ∀ (d : Nat) (x : AV) (v : Value) (y : IV), RAV (Im E ψ s.hp) ψ s.hp w x v →
   s.ivW (H.map (·.1)) d x = some y → RIV (c4x E true ψ s H w) w y v := by
 intro d
 induction d with
 | zero =>
   intro x v y hx hy
   exact base h hsub x v y hx hy (by intro id off e; subst e; simp [St.ivW] at hy)
 | succ d ih =>
   intro x v y hx hy
   by_cases hp : ∃ id off, x = .ptr id off
   · obtain ⟨id, off, rfl⟩ := hp
     simp only [St.ivW] at hy
     split at hy
     · cases hy
     · rename_i hnc
       split at hy
       · rename_i cs ho
         cases hl : allO (St.ivW s (H.map (·.1)) d) cs with
         | none => rw [hl] at hy; cases hy
         | some l =>
           rw [hl] at hy
           simp only [Option.map_some, Option.some.injEq] at hy
           subst hy
           obtain ⟨b, k, o', g1, g2, rfl⟩ := b3o hx
           rw [ho] at g1; cases g1
           obtain ⟨b', c, e, h1, h2, h3, h4⟩ := h.obs id _ ho
           rw [h1] at g2; cases g2
           obtain ⟨q1, q2⟩ := c6x hl
           refine .pt _ b off (fun i => c.getD (off + i) undef) (fun i z hz => ?_) (fun i z hz => ?_) <;> rw [List.getElem?_drop] at hz <;> obtain ⟨z0, hz0, hzz⟩ := q2 _ z hz
           · refine ⟨notHeld h hsub ho (by simpa using hnc) (.inl ⟨_, h1⟩), c6e h2 ?_⟩
             rw [h3]; exact (List.getElem?_eq_some_iff.1 hz0).1
           · exact ih z0 _ z (h4 _ z0 hz0) hzz
       · cases hy
   · exact base h hsub x v y hx hy (fun id off e => hp ⟨id, off, e⟩)
where
 notHeld {E : En} {n : Nat} {ψ : Pl} {s : St} {a : Act} {w : World} (h : SimAt E n ψ s a w) {H : Hp} (hsub : ∀ id o, look H id = some o → look s.hp id = some o) {id : Nat} {o : Ob} (ho : look s.hp id = some o)
     (hnc : (H.map (·.1)).contains id = false) {b : Nat} (hb : Owns ψ id b) : c4x E true ψ s H w b := by
   refine ⟨h.lt ho hb, ?_⟩
   rintro ⟨id2, o2, h1, h2⟩
   have := h.inj id id2 _ o2 b ho (hsub id2 o2 h1) hb h2
   subst this
   have := b3m h1
   rw [hnc] at this; cases this
 base {E : En} {n : Nat} {ψ : Pl} {s : St} {a : Act} {w : World} (h : SimAt E n ψ s a w) {H : Hp} (hsub : ∀ id o, look H id = some o → look s.hp id = some o) {d : Nat} (x : AV) (v : Value) (y : IV)
     (hx : RAV (Im E ψ s.hp) ψ s.hp w x v) (hy : s.ivW (H.map (·.1)) d x = some y) (hp : ∀ id off, x ≠ .ptr id off) : RIV (c4x E true ψ s H w) w y v := by
   have lm : ∀ b, b < w.heap.size → Im E ψ s.hp b → c4x E true ψ s H w b := fun b hb hm => c5x hsub hb hm
   cases x with
   | iv x => cases d <;> (simp only [St.ivW, Option.some.injEq] at hy; subst hy; cases hx with | iv _ _ hx => exact hx.mono lm (fun _ _ _ => rfl))
   | nil sz => cases d <;> (simp only [St.ivW, Option.some.injEq] at hy; subst hy; rw [b8o hx]; exact .lnil _)
   | ptr id off => exact absurd rfl (hp id off)
   | sl id sz lo len =>
     have hy2 : (if (H.map (·.1)).contains id then none else match look s.hp id with
       | some (.list _ xs) => some (.lst sz ((xs.drop lo).take len))
       | some (.listo sz' xs none) => some (.lst 1 (((xs.map fun x => [IV.lst sz' x]).drop lo).take len))
       | _ => none) = some y := by cases d <;> exact hy
     clear hy
     rename _ => hy
     split at hy
     · cases hy
     · rename_i hnc
       have hnc : (H.map (·.1)).contains id = false := by simpa using hnc
       obtain ⟨o, m, q1, q1', q2, hcase⟩ := b0p hx
       rw [q1] at hy
       have hob := h.obs id _ q1
       split at hy
       · rename_i xs heq
         cases heq
         simp only [Ob.dim, Option.some.injEq, Prod.mk.injEq] at q1'
         obtain ⟨rfl, rfl⟩ := q1'
         cases hy
         rcases hcase with ⟨p1, rfl, rfl, hv⟩ | ⟨b, k, cap, ad, p1, p2, p3, p4, hv⟩
         · rw [hv, List.take_zero]; exact .lnil _
         · rw [hv]; exact c7e hob lm (fun b' k' hb' => notHeld h hsub q1 hnc (.inl ⟨_, hb'⟩)) p1 p2 p3 q2
       · rename_i sz' xs heq
         cases heq
         simp only [Ob.dim, Option.some.injEq, Prod.mk.injEq] at q1'
         obtain ⟨rfl, rfl⟩ := q1'
         cases hy
         rcases hcase with ⟨p1, rfl, rfl, hv⟩ | ⟨b, k, cap, ad, p1, p2, p3, p4, hv⟩
         · rw [hv, List.take_zero]; exact .lnil _
         · rw [hv]; exact c7f hob lm (fun b' hb' => notHeld h hsub q1 hnc hb') p1 p2 p3 q2
       · cases hy
   | mpr id =>
     have hy2 : (if (H.map (·.1)).contains id then none else match look s.hp id with
       | some (.map sk g) => some (.mp sk g)
       | some (.mapo sk sz g none) => some (.mp sk fun k => (g k).map fun xs => [IV.lst sz xs])
       | _ => none) = some y := by cases d <;> exact hy
     clear hy
     rename _ => hy
     split at hy
     · cases hy
     · rename_i hnc
       have hnc : (H.map (·.1)).contains id = false := by simpa using hnc
       cases hx with
       | mpr _ b k o q1 hb =>
         rw [q1] at hy
         have hob := h.obs id _ q1
         split at hy
         · rename_i sk g heq
           cases heq; cases hy
           obtain ⟨b', es, clock, g1, g2, g3, g4⟩ := hob
           rw [g1] at hb; cases hb
           exact c3f g2 g3 g4 lm (notHeld h hsub q1 hnc (.inl ⟨_, g1⟩))
         · rename_i sk sz g heq
           cases heq; cases hy
           exact c6f hob lm (fun b' hb' => notHeld h hsub q1 hnc hb') hb
         · cases hy
   | _ => cases d <;> simp [St.ivW] at hy
theorem c8x (h : SimAt E n ψ s a w) {H : Hp} (hsub : ∀ id o, look H id = some o → look s.hp id = some o) {c : CapV} {v : Value} (hc : RCap (Im E ψ s.hp) ψ s.hp w c v)
   (hi : (c.bor s (H.map (·.1))).inn (H.map (·.1)) = true) : RCap (c4x E true ψ s H w) ψ H w (c.bor s (H.map (·.1))) v := by
 have hH : ∀ id o, (H.map (·.1)).contains id = true → look s.hp id = some o → look H id = some o := by
   intro id o hc ho
   obtain ⟨o', ho'⟩ := b4m hc
   rw [hsub id o' ho'] at ho; cases ho; exact ho'
 cases hc with
 | val x v hx => exact .val x v (hx.mono (fun b hb hm => c5x hsub hb hm) (fun _ _ _ => rfl))
 | ptr id off b k o ho hb =>
   simp only [CapV.bor] at hi ⊢
   cases hy : s.ivW (H.map (·.1)) 3 (.ptr id off) with
   | none => rw [hy] at hi; exact .ptr id off b k o (hH id o hi ho) hb
   | some y => exact .val _ _ (c7x h hsub 3 _ _ y (.ptr id off b k o ho hb) hy)
theorem c9x (h : SimAt E n ψ s a w) {fr : Bool} {H : Hp} (hsub : ∀ id o, look H id = some o → look s.hp id = some o) {x : AV} {v : Value} (hx : RAV (Im E ψ s.hp) ψ s.hp w x v)
   (hi : (s.arg1 fr (H.map (·.1)) x).inns (H.map (·.1)) = true) : RAV (c4x E fr ψ s H w) ψ H w (s.arg1 fr (H.map (·.1)) x) v := by
 have hH : ∀ id o, (H.map (·.1)).contains id = true → look s.hp id = some o → look H id = some o := by
   intro id o hc ho
   obtain ⟨o', ho'⟩ := b4m hc
   rw [hsub id o' ho'] at ho; cases ho; exact ho'
 have keep : ∀ {y}, RAV (Im E ψ s.hp) ψ s.hp w y v → y.inns (H.map (·.1)) = true → RAV (c4x E fr ψ s H w) ψ H w y v :=
   fun hy hi => hy.restrict hi (fun b hb hm => c5x hsub hb hm) hH
 have other : ∀ {y}, RAV (Im E ψ s.hp) ψ s.hp w y v →
     (if fr && !(y.inn (H.map (·.1))) then match s.ivW (H.map (·.1)) 3 y with | some z => AV.iv z | none => y else y).inns (H.map (·.1)) = true →
     RAV (c4x E fr ψ s H w) ψ H w (if fr && !(y.inn (H.map (·.1))) then match s.ivW (H.map (·.1)) 3 y with | some z => AV.iv z | none => y else y) v := by
   intro y hy hi2
   split at hi2
   · rename_i hc
     rw [if_pos hc]
     have hfr : fr = true := by cases fr <;> simp_all
     subst hfr
     cases hw : s.ivW (H.map (·.1)) 3 y with
     | none => rw [hw] at hi2; exact keep hy hi2
     | some z => exact .iv _ _ (c7x h hsub 3 _ _ z hy hw)
   · rename_i hc
     rw [if_neg hc]
     exact keep hy hi2
 cases x with
 | nil sz => rw [b8o hx]; exact .iv _ _ (.lnil _)
 | iv y => exact keep hx hi
 | fn f b c =>
   simp only [St.arg1] at hi ⊢
   by_cases hc : (fr && !((AV.fn f b c).inn (H.map (·.1)))) = true
   · rw [if_pos hc] at hi ⊢
     have hfr : fr = true := by cases fr <;> simp_all
     subst hfr
     simp only [AV.inns, AV.inn, Bool.and_eq_true, List.all_eq_true, List.mem_map, forall_exists_index, and_imp, forall_apply_eq_imp_iff₂] at hi
     cases hx with
     | fn _ _ _ vf vc a1 a2 a3 a4 =>
       refine .fn f _ _ vf vc (by simpa using a1) (by simpa using a2) (fun i q hq => ?_) (fun i q hq => ?_) <;> rw [List.getElem?_map] at hq
       · cases hbi : b[i]? with
         | none => rw [hbi] at hq; cases hq
         | some q0 => rw [hbi] at hq; cases hq; exact c8x h hsub (a3 i q0 hbi) (hi.1 q0 (List.mem_of_getElem? hbi))
       · cases hbi : c[i]? with
         | none => rw [hbi] at hq; cases hq
         | some q0 => rw [hbi] at hq; cases hq; exact c8x h hsub (a4 i q0 hbi) (hi.2 q0 (List.mem_of_getElem? hbi))
   · rw [if_neg hc] at hi ⊢
     exact keep hx hi
 | sl id sz lo len => exact other hx hi
 | ptr id off => exact other hx hi
 | ep id sz i off => exact other hx hi
 | mpr id => exact other hx hi
 | un => exact other hx hi
 | junk => exact other hx hi
 | agg cs => exact other hx hi
 | tup cs => exact other hx hi
theorem c0y {ids : List Nat} {x : AV} (h : x.inn ids = true) : x.inns ids = true := by
 cases x <;> simp_all [AV.inns, AV.inn]
theorem c1y (h : SimAt E n ψ s a w) {fr : Bool} {H : Hp} (hsub : ∀ id o, look H id = some o → look s.hp id = some o) {x : AV} {v : Value} (hx : RAV (Im E ψ s.hp) ψ s.hp w x v)
   (hi : (s.arg fr (H.map (·.1)) x).inns (H.map (·.1)) = true) : RAV (c4x E fr ψ s H w) ψ H w (s.arg fr (H.map (·.1)) x) v := by
 cases x with
 | agg cs =>
   simp only [St.arg, AV.inns, List.all_map, List.all_eq_true] at hi ⊢
   obtain ⟨vs, h1, h2, rfl⟩ := b6o hx
   refine .agg _ _ (by simpa using h1) fun i c hc => ?_
   rw [List.getElem?_map] at hc
   cases hci : cs[i]? with
   | none => rw [hci] at hc; cases hc
   | some c0 =>
     rw [hci] at hc; cases hc
     exact c9x h hsub (h2 i c0 hci) (c0y (hi c0 (List.mem_of_getElem? hci)))
 | _ => exact c9x h hsub hx hi
theorem c2y {A : Nat → Prop} {H : Hp} {c : CapV} {v : Value} (h : RCap A ψ H w c v) : RAV A ψ H w c.av v := by
 cases h with
 | ptr id off b k o ho hb => exact .ptr id off b k o ho hb
 | val x v h1 => exact .iv _ _ h1
theorem c3y {o : Oper} {f : FuncId} {pre post : List CapV} {ops : List Operand} {vs : List Value} {y : Option Operand} (h : SimAt E n ψ s a w) (hd : d < 1000)
   (hr : (execOp a.eval o).run P w = .ok (.enter f vs.toArray) w)
   (hvs : ∀ ψ s1, SimAt E n ψ s1 a w → (match y with | some y => s1.ev y = .fn f pre post | none => True) → (s1.args pre ops post).length = vs.length ∧ ∀ i x, (s1.args pre ops post)[i]? = some x → RAV (Im E ψ s1.hp) ψ s1.hp w x (vs.getD i undef))
   (hk : b5K P d f pre ops post y s K) : Does P E n o a w K := by
 obtain ⟨s0, hle, fr, H, R, s1, hs1, hy1, as1, has, hc, hk⟩ := hk
 obtain ⟨has1, has2⟩ := b4K has
 obtain ⟨ψ, h⟩ := hle E n a w ⟨_, h⟩
 have h1 : SimAt E n ψ s1 a w := by
   rw [hs1]
   refine SimAt.drop ?_ hd
   cases fr
   · exact h.frz _
   · exact h
 obtain ⟨l1, l2⟩ := hvs ψ s1 h1 hy1
 intro K' Q hK
 unfold wpR
 rw [hr]
 simp only [upR]
 have hspec := hc.spec.2 (c4x E fr ψ s1 H w) ψ w vs (fun b hb => hb.1)
   (fun id o ho => (h1.obs id o (hc.sub id o ho)).restrict (hc.own id o ho) (fun b hb hm => c5x hc.sub hb hm) (fun id o hcc ho => by
     obtain ⟨o', ho'⟩ := b4m hcc
     rw [hc.sub id o' ho'] at ho; cases ho; exact ho'))
   (fun id id' o o' b h2 h3 h4 h5 => h1.inj id id' o o' b (hc.sub id o h2) (hc.sub id' o' h3) h4 h5)
   (fun id o b h2 h3 => h1.subs id o b (hc.sub id o h2) h3)
   (fun b hb hl => by
     cases fr
     · exact hl.2.2 (by obtain ⟨id, o, h2, h3⟩ := hb; exact ⟨id, o, hc.sub id o h2, h3⟩)
     · exact hl.2 hb)
   (by rw [has1]; exact l1.symm)
   (fun i x hx => by
     obtain ⟨y, hi, e⟩ := has2 i x hx
     rcases e with rfl | ⟨sz, sz', rfl, rfl⟩
     · exact c1y h1 hc.sub (l2 i y hi) (List.all_eq_true.1 hc.refs _ (List.mem_of_getElem? hx))
     · have := l2 i _ hi
       generalize vs.getD i undef = v at this
       cases this
       exact .nil sz')
 refine hspec.mono ?_
 rintro e w' ⟨v, ψ', res, H', hR, rfl, k1, k2, k3, k4, k5, k6, kS, k7, k8⟩
 obtain ⟨ψ2, g1, g2⟩ := h1.called (hc.sh hR) (A := c4x E fr ψ s1 H w) (fun hf b hb => by subst hf; exact hb.2) k1 k2 k3 k4 k5 k6 kS k7 k8
 exact ⟨v, rfl, hK (s1.join H') res ψ2 v w' (hk res H' hR) g1 g2⟩
theorem c4y {o : Oper} {l : Nat} {ops : List Operand} {vs : List Value} (h : SimAt E n ψ s a w)
   (hr : (execOp a.eval o).run P w = (Instr.yield l vs.toArray).run P w)
   (hvs : ∀ ψ s1, SimAt E n ψ s1 a w → (ops.map s1.ev).length = vs.length ∧ ∀ i x, (ops.map s1.ev)[i]? = some x → RAV (Im E ψ s1.hp) ψ s1.hp w x (vs.getD i undef))
   (hk : b1K P l ops s K) : Does P E n o a w K := by
 obtain ⟨s1, g, Z, b, Z', xs, hle, hg, ⟨hops, hpl⟩, hy, hk⟩ := hk
 obtain ⟨ψ, h1⟩ := hle E n a w ⟨_, h⟩
 obtain ⟨l1, l2⟩ := hvs ψ s1 h1
 rw [hops] at l1 l2
 obtain ⟨o1, o2, _, _⟩ := h1.obs g _ hg
 have hB : ∀ k, ψ.sub g k → k < w.heap.size := fun k hk => (h1.subs g _ k hg hk).2.1
 have hBH : ∀ k, ψ.sub g k → Held ψ s1.hp k := fun k hk => ⟨g, _, hg, .inr hk⟩
 have hgo : GOk Z (fun k => k < w.heap.size ∧ Im E ψ s1.hp k) (ψ.sub g) w := o2.mono (fun b hb h => ⟨hb, h⟩) (fun _ h => h) (fun _ _ _ => rfl) (fun _ _ => rfl)
 obtain ⟨fn, tmps, assign, body, hrun, hround⟩ := hy (fun k => k < w.heap.size ∧ Im E ψ s1.hp k) (ψ.sub g) w vs (fun k hk => hk.1) hB (fun k hk hi => hi.2.2 (hBH k hk)) hgo (by simpa using l1.symm)
   (fun i x hx => (b9J (List.all_eq_true.1 hpl x (List.mem_of_getElem? hx)) (l2 i x hx)).mono (fun b hb h => ⟨hb, h⟩) (fun _ _ _ => rfl) (fun id o ho => by cases ho))
 intro K' Q hK
 unfold wpR
 rw [hr, hrun]
 simp only [upR]
 intro m
 refine (hround m).mono ?_
 rintro e w' ⟨B', rfl, k1, k2, k3, k4, k5, k6⟩
 refine ⟨_, rfl, ?_⟩
 have hO : ∀ {ψ : Pl} {Z : GZ} {b : Nat}, Held ψ [(g, Ob.gh Z [] [])] b ↔ Owns ψ g b := by
   intro ψ Z b
   constructor
   · rintro ⟨id, o, ho, hb⟩
     simp only [look] at ho
     split at ho
     · rename_i e; subst e; exact hb
     · cases ho
   · intro hb; exact ⟨g, .gh Z [] [], by simp [look], hb⟩
 let ψ' : Pl := ⟨ψ.main, fun id b => if id = g then B' b else ψ.sub id b⟩
 have lk : ∀ {o : Ob} {id : Nat} {q : Ob}, look [(g, o)] id = some q → id = g ∧ q = o := by
   intro o id q h
   simp only [look] at h
   split at h
   · rename_i e; exact ⟨e.symm, by cases h; rfl⟩
   · cases h
 have hown : ∀ {b}, Owns ψ' g b ↔ B' b := by
   intro b
   constructor
   · rintro (⟨k, h⟩ | h)
     · exact absurd (show ψ g = some (b, k) from h) (by rw [o1]; simp)
     · simpa [ψ'] using h
   · intro h; exact .inr (by simpa [ψ'] using h)
 have hown0 : ∀ {b}, Owns ψ g b ↔ ψ.sub g b := by
   intro b
   constructor
   · rintro (⟨k, h⟩ | h)
     · rw [o1] at h; cases h
     · exact h
   · intro h; exact .inr h
 obtain ⟨ψ2, g1, g2⟩ := h1.called (H := [(g, .gh Z [] [])]) (H' := [(g, .gh Z' [] [])]) (fr := false) (res := .iv (.v (.bool b))) (v := .bool b) (ψ' := ψ') (A := fun k => k < w.heap.size ∧ Im E ψ s1.hp k)
   ⟨fun id o ho => by obtain ⟨_, rfl⟩ := lk ho; rfl, fun id o ho => by obtain ⟨_, rfl⟩ := lk ho; rfl, fun id o ho => by obtain ⟨rfl, rfl⟩ := lk ho; exact hg,
     fun id o ho => by obtain ⟨rfl, rfl⟩ := lk ho; exact ⟨.gh Z' [] [], by simp [look], Ob.le_none rfl⟩, fun id o ho hn => by obtain ⟨rfl, rfl⟩ := lk ho; simp [look] at hn⟩
   (fun _ k hk => hk.2) (fun k hk hn => k1 k hk fun hb => hn (hO.2 (hown0.2 hb))) k2 k3 (fun id o ho => rfl)
   (fun id o k ho hk => by
     obtain ⟨rfl, rfl⟩ := lk ho
     rcases k4 k (hown.1 hk) with h | h
     · exact .inl ⟨.gh Z [] [], by simp [look], hown0.2 h⟩
     · exact .inr h)
   (fun id id' o o' k ho ho' _ _ => by obtain ⟨rfl, rfl⟩ := lk ho; obtain ⟨rfl, rfl⟩ := lk ho'; rfl)
   (fun id o k ho hk => by
     obtain ⟨rfl, rfl⟩ := lk ho
     exact ⟨rfl, k5 k (hown.1 (.inr hk)), fun q => by show ψ id ≠ _; rw [o1]; simp⟩)
   (fun id o ho => by
     obtain ⟨rfl, rfl⟩ := lk ho
     refine ⟨o1, k6.mono (fun k _ hk => ⟨?_, fun hh => hk.2 (hown.1 (hO.1 hh))⟩) (fun k hk => by simpa [ψ'] using hk) (fun _ _ _ => rfl) (fun _ _ => rfl), rfl, by simp⟩
     rcases hk.1 with h | h
     · exact .inl ⟨rfl, h⟩
     · exact .inr h)
   (.iv _ _ (.v _ rfl))
 exact hK _ _ _ _ _ hk g1 g2
theorem c5y {f : FuncId} (h : okFn P f = true) (vs : Array Value) (w : World) : (callFunc f vs).run P w = .ok (.enter f vs) w := by
 unfold okFn at h
 cases hf : P.funcs[f]? with
 | none => rw [hf] at h; cases h
 | some fn =>
   rw [hf] at h
   simp only [Bool.and_eq_true, bne_iff_ne, ne_eq] at h
   simp only [callFunc, Sem.run_bind, run_program, Result.andThen_ok, hf]
   have h1 : (fn.name == "runtime.NumGoroutine") = false := by simpa using h.1
   have h2 : fn.body.isNone = false := by cases hb : fn.body <;> simp_all
   simp [h1, h2]
theorem c6y (h : SimAt E n ψ s a w) (ops : List Operand) : ∀ i x, (ops.map s.ev)[i]? = some x → RAV (Im E ψ s.hp) ψ s.hp w x ((ops.map a.eval).getD i undef) := by
 intro i x hx
 rw [List.getElem?_map] at hx
 cases hi : ops[i]? with
 | none => rw [hi] at hx; cases hx
 | some o => rw [hi] at hx; cases hx; simp only [List.getD, List.getElem?_map, hi, Option.map_some, Option.getD_some]; exact h.ev o
theorem c7y {f : FuncId} {args : Array Operand} {ts : Array TypeId} (hf : okFn P f = true) (hd : d < 1000) (h : SimAt E n ψ s a w) (hk : stp P d s K (.call f args.toList)) :
   Does P E n ⟨dst, .call ⟨.value (.func f), args, ts⟩, ty, pos, af, g⟩ a w K := by
 simp only [stp] at hk
 refine c3y (vs := args.toList.map a.eval) h hd ?_ (fun ψ s1 h1 _ => ⟨by simp [St.args], by simpa [St.args] using c6y h1 args.toList⟩) hk
 have : (args.toList.map a.eval).toArray = args.map a.eval := by apply Array.ext'; simp
 rw [this]
 simp only [execOp, resolve, Act.eval, Deferred.ofValue, Sem.run_bind, Sem.run_pure, Result.andThen_ok, invoke]
 have e2 : (#[] ++ args.map a.eval) ++ #[] = args.map a.eval := by simp
 exact (congrArg (fun z => (callFunc f z).run P w) e2).trans (c5y hf _ w)
theorem c8y {A : Nat → Prop} {H : Hp} {l : List CapV} {vs : Array Value} (hl : vs.size = l.length) (h : ∀ i c, l[i]? = some c → RCap A ψ H w c (vs.getD i undef)) :
   (l.map CapV.av).length = vs.toList.length ∧ ∀ i x, (l.map CapV.av)[i]? = some x → RAV A ψ H w x (vs.toList.getD i undef) := by
 refine ⟨by simp [hl], fun i x hx => ?_⟩
 rw [List.getElem?_map] at hx
 cases hi : l[i]? with
 | none => rw [hi] at hx; cases hx
 | some c => rw [hi] at hx; cases hx; rw [a7w]; exact c2y (h i c hi)
theorem c9y {A : Nat → Prop} {H : Hp} {l1 l2 : List AV} {v1 v2 : List Value} (h1 : l1.length = v1.length ∧ ∀ i x, l1[i]? = some x → RAV A ψ H w x (v1.getD i undef))
   (h2 : l2.length = v2.length ∧ ∀ i x, l2[i]? = some x → RAV A ψ H w x (v2.getD i undef)) : (l1 ++ l2).length = (v1 ++ v2).length ∧ ∀ i x, (l1 ++ l2)[i]? = some x → RAV A ψ H w x ((v1 ++ v2).getD i undef) := by
 refine ⟨by simp [h1.1, h2.1], fun i x hx => ?_⟩
 by_cases hi : i < l1.length
 · rw [List.getElem?_append_left hi] at hx
   have := h1.2 i x hx
   rw [show (v1 ++ v2).getD i undef = v1.getD i undef from by simp only [List.getD]; rw [List.getElem?_append_left (by omega)]]
   exact this
 · rw [List.getElem?_append_right (by omega)] at hx
   have := h2.2 _ x hx
   rw [show (v1 ++ v2).getD i undef = v2.getD (i - l1.length) undef from by simp only [List.getD]; rw [List.getElem?_append_right (by omega), h1.1]]
   exact this
theorem c0z {x : Operand} {args : Array Operand} {ts : Array TypeId} (hd : d < 1000) (h : SimAt E n ψ s a w)
   (hk : stp P d s K (.callv x args.toList)) : Does P E n ⟨dst, .call ⟨.value x, args, ts⟩, ty, pos, af, g⟩ a w K := by
 simp only [stp] at hk
 split at hk
 · rename_i f first caps hx
   obtain ⟨hok, hk⟩ := hk
   have hxv := h.ev x
   rw [hx] at hxv
   obtain ⟨vf, vc, hv⟩ : ∃ vf vc, a.eval x = .func (.func f) vf vc := by
     generalize a.eval x = vx at hxv
     cases hxv with | fn _ _ _ vf vc => exact ⟨vf, vc, rfl⟩
   refine c3y (vs := vf.toList ++ args.toList.map a.eval ++ vc.toList) h hd ?_ (fun ψ s1 h1 hy => ?_) hk
   · have e1 : (vf.toList ++ args.toList.map a.eval ++ vc.toList).toArray = (vf ++ args.map a.eval) ++ vc := by apply Array.ext'; simp
     rw [e1]
     simp only [execOp, resolve, hv, Deferred.ofValue, Sem.run_bind, Sem.run_pure, Result.andThen_ok, invoke]
     exact c5y hok _ w
   · have hxv1 := h1.ev x
     simp only at hy
     rw [hy, hv] at hxv1
     cases hxv1 with
     | fn _ _ _ _ _ a1 a2 a3 a4 =>
       exact c9y (c9y (c8y a1 a3) ⟨by simp, c6y h1 args.toList⟩) (c8y a2 a4)
 · rename_i l vf vc hx
   obtain ⟨rfl, rfl, hk⟩ := hk
   have hxv := h.ev x
   rw [hx] at hxv
   have hv : a.eval x = .func (.yield l) #[] #[] := b2o hxv
   refine c4y (vs := args.toList.map a.eval) h ?_ (fun ψ s1 h1 => ⟨by simp, c6y h1 args.toList⟩) hk
   have e1 : (args.toList.map a.eval).toArray = args.map a.eval := by apply Array.ext'; simp
   rw [e1]
   simp only [execOp, resolve, hv, Deferred.ofValue, Sem.run_bind, Sem.run_pure, Result.andThen_ok, invoke]
   have e2 : (#[] ++ args.map a.eval) = args.map a.eval := by simp
   first
   | rfl
   | rw [e2]
 · rename_i f vf vc hx
   obtain ⟨rfl, rfl, hf, hk⟩ := hk
   have hxv := h.ev x
   rw [hx] at hxv
   have hv : a.eval x = .func (.func f) #[] #[] := b2o hxv
   refine c3y (vs := args.toList.map a.eval) h hd ?_ (fun ψ s1 h1 _ => ⟨by simp [St.args], by simpa [St.args] using c6y h1 args.toList⟩) hk
   have : (args.toList.map a.eval).toArray = args.map a.eval := by apply Array.ext'; simp
   rw [this]
   simp only [execOp, resolve, hv, Deferred.ofValue, Sem.run_bind, Sem.run_pure, Result.andThen_ok, invoke]
   have e2 : (#[] ++ args.map a.eval) ++ #[] = args.map a.eval := by simp
   exact (congrArg (fun z => (callFunc f z).run P w) e2).trans (c5y hf _ w)
 · exact hk.elim
end
end Go.Vm
end

section
namespace Go.Vm
def c7J : Kd → TypeDesc
 | .b => .bool
 | .i j => .int j
 | .s => .string
theorem c8J (s t : ByteArray) : (s == t) = true ↔ s = t := by
 constructor
 · intro h
   obtain ⟨a⟩ := s; obtain ⟨b⟩ := t
   have h : (a == b) = true := h
   rw [eq_of_beq h]
 · rintro rfl
   obtain ⟨a⟩ := s
   show (a == a) = true
   simp
theorem c9J {v : Value} {k : Kd} (h : kdOf v = some k) : v.cells = #[v] ∧ v.oneCell' = true ∧ (∀ cs, v ≠ .agg cs) := by
 cases v <;> simp [kdOf] at h <;> refine ⟨rfl, rfl, by simp⟩
theorem c0K {v : Value} {ag : Bool} {ks : List Kd} (h : skOf v = some (ag, ks)) :
   (∃ cs : Array Value, v = .agg cs ∧ ag = true ∧ cs.toList.mapM kdOf = some ks ∧ c5v v = cs.toList) ∨ (∃ k, ag = false ∧ ks = [k] ∧ kdOf v = some k ∧ c5v v = [v]) := by
 cases v with
 | agg cs =>
   left
   simp only [skOf, Option.map_eq_some_iff, Prod.mk.injEq] at h
   obtain ⟨l, h1, rfl, rfl⟩ := h
   exact ⟨cs, rfl, rfl, h1, rfl⟩
 | _ =>
   right
   simp only [skOf, Option.map_eq_some_iff, Prod.mk.injEq] at h
   obtain ⟨k, h1, rfl, rfl⟩ := h
   exact ⟨k, rfl, rfl, h1, by simp [c5v, (c9J h1).1]⟩
theorem c1K {x y : Value} {ag : Bool} {ks : List Kd} (hx : skOf x = some (ag, ks)) (hy : skOf y = some (ag, ks)) (h : c5v x = c5v y) : x = y := by
 rcases c0K hx with ⟨cs, rfl, h1, h2, h3⟩ | ⟨k, h1, h2, h3, h4⟩
 · rcases c0K hy with ⟨ds, rfl, g1, g2, g3⟩ | ⟨k', g1, g2, g3, g4⟩
   · rw [h3, g3] at h
     congr 1
     exact Array.ext' h
   · rw [h1] at g1; cases g1
 · rcases c0K hy with ⟨ds, rfl, g1, g2, g3⟩ | ⟨k', g1, g2, g3, g4⟩
   · rw [h1] at g1; cases g1
   · rw [h4, g4] at h
     simpa using h
theorem c2K {k : Kd} {u v : Value} (hu : kdOf u = some k) (hv : kdOf v = some k) : ∃ b, b5Q k u v = some b ∧ (b = true ↔ u = v) := by
 cases u <;> simp only [kdOf] at hu <;> (first | (cases hu; done) | skip) <;> cases hu <;> cases v <;> simp only [kdOf] at hv <;> (first | (cases hv; done) | skip)
 · exact ⟨_, rfl, by simp⟩
 · cases hv; exact ⟨_, by simp only [b5Q, if_true]; rfl, by simp⟩
 · exact ⟨_, rfl, by rw [c8J]; simp⟩
theorem c3K : ∀ (ks : List Kd) (l m : List Value), l.mapM kdOf = some ks → m.mapM kdOf = some ks →
   ∃ b, b6Q ks (l.map fun v => .iv (.v v)) (m.map fun v => .iv (.v v)) = some b ∧ (b = true ↔ l = m) := by
 intro ks
 induction ks with
 | nil =>
   intro l m hl hm
   cases l with
   | nil => cases m with
     | nil => exact ⟨true, rfl, by simp⟩
     | cons y m => rw [List.mapM_cons] at hm; cases hy : kdOf y <;> simp [hy] at hm; cases hq : m.mapM kdOf <;> simp [hq] at hm
   | cons x l => rw [List.mapM_cons] at hl; cases hx : kdOf x <;> simp [hx] at hl; cases hq : l.mapM kdOf <;> simp [hq] at hl
 | cons k ks ih =>
   intro l m hl hm
   have dest : ∀ l : List Value, l.mapM kdOf = some (k :: ks) → ∃ x r, l = x :: r ∧ kdOf x = some k ∧ r.mapM kdOf = some ks := by
     intro l h
     cases l with
     | nil => simp at h
     | cons x r =>
       rw [List.mapM_cons] at h
       cases hx : kdOf x with
       | none => simp [hx] at h
       | some kx =>
         cases hq : r.mapM kdOf with
         | none => simp [hx, hq] at h
         | some q =>
           simp [hx, hq] at h
           obtain ⟨rfl, rfl⟩ := h
           exact ⟨x, r, rfl, hx, hq⟩
   obtain ⟨x, r, rfl, hx, hr⟩ := dest l hl
   obtain ⟨y, q, rfl, hy, hq⟩ := dest m hm
   obtain ⟨b, h1, h2⟩ := c2K hx hy
   obtain ⟨c, h3, h4⟩ := ih r q hr hq
   refine ⟨b && c, ?_, ?_⟩
   · simp only [List.map_cons, b6Q, h1, Option.bind_some, h3, Option.map_some]
   · rw [Bool.and_eq_true, h2, h4, List.cons.injEq]
section
variable {P : Program} {w : World}
theorem c4K {d : Nat} {t : TypeId} {ks : List Kd} (h : b3O P (d + 1) t = some ks) (hg : b2O P t = false) :
   ∃ k, ks = [k] ∧ P.underlying t = some (c7J k) := by
 unfold b3O at h
 split at h
 · rename_i hu; exact ⟨.b, by simpa using h.symm, hu⟩
 · rename_i k hu; exact ⟨.i k, by simpa using h.symm, hu⟩
 · rename_i hu; exact ⟨.s, by simpa using h.symm, hu⟩
 · rename_i fs hu; unfold b2O at hg; rw [hu] at hg; cases hg
 · cases h
theorem c5K {l : List Value} {ks : List Kd} (h : l.mapM kdOf = some ks) : l.length = ks.length := by
 induction l generalizing ks with
 | nil => simp at h; subst h; rfl
 | cons x r ih =>
   rw [List.mapM_cons] at h
   cases hx : kdOf x with
   | none => simp [hx] at h
   | some kx =>
     cases hq : r.mapM kdOf with
     | none => simp [hx, hq] at h
     | some q =>
       simp [hx, hq] at h
       subst h
       simp [ih hq]
theorem c6K {t : TypeId} {ks : List Kd} (hk : b3O P 20 t = some ks) (hi : b8N P t = some ks.length) {x y : Value} (hx : skOf x = some (b2O P t, ks)) (hy : skOf y = some (b2O P t, ks)) :
   ∃ b, (Op.equal t x y).run P w = .ok b w ∧ (b = true ↔ x = y) := by
 rcases c0K hx with ⟨us, rfl, h1, h2, h3⟩ | ⟨k, h1, h2, h3, h4⟩
 · rcases c0K hy with ⟨vs, rfl, g1, g2, g3⟩ | ⟨k', g1, g2, g3, g4⟩
   · obtain ⟨b, e1, e2⟩ := c3K ks _ _ h2 g2
     refine ⟨b, ?_, ?_⟩
     · have hl := c5K h2
       have hm := c5K g2
       have key := (a7l (w := w) 20 t ks hk 10000 (by omega) us vs (us.toList.map fun v => .iv (.v v)) (vs.toList.map fun v => .iv (.v v)) 0 b ⟨by simp, fun i x hx => ?_⟩ ⟨by simp, fun i x hx => ?_⟩ (by simp at hl ⊢; omega) (by simp at hm ⊢; omega) (by
         rw [List.drop_zero, List.drop_zero, List.take_of_length_le (by simp at hl ⊢; omega), List.take_of_length_le (by simp at hm ⊢; omega)]; exact e1)).1 h1 hi
       · have x1 : us.extract 0 (0 + ks.length) = us := by rw [← hl]; simp
         have x2 : vs.extract 0 (0 + ks.length) = vs := by rw [← hm]; simp
         rw [x1, x2] at key
         exact key
       · rw [List.getElem?_map] at hx
         cases hq : us.toList[i]? with
         | none => rw [hq] at hx; cases hx
         | some z => rw [hq] at hx; cases hx; rw [Array.getElem?_toList] at hq; simp [Array.getD_eq_getD_getElem?, hq]
       · rw [List.getElem?_map] at hx
         cases hq : vs.toList[i]? with
         | none => rw [hq] at hx; cases hx
         | some z => rw [hq] at hx; cases hx; rw [Array.getElem?_toList] at hq; simp [Array.getD_eq_getD_getElem?, hq]
     · rw [e2]
       constructor
       · intro e; congr 1; exact Array.ext' e
       · intro e; cases e; rfl
   · rw [h1] at g1; cases g1
 · rcases c0K hy with ⟨vs, rfl, g1, g2, g3⟩ | ⟨k', g1, g2, g3, g4⟩
   · rw [h1] at g1; cases g1
   · obtain ⟨k0, hk0, hu⟩ := c4K hk h1
     rw [h2] at hk0
     simp only [List.cons.injEq, and_true] at hk0
     subst hk0
     rw [h2] at g2
     simp only [List.cons.injEq, and_true] at g2
     subst g2
     obtain ⟨b, e1, e2⟩ := c2K h3 g3
     exact ⟨b, a5l (d := 9999) (by rw [hu]; cases k <;> rfl) e1 w, e2⟩
theorem c7K {t : TypeId} {ks : List Kd} (hk : b3O P 20 t = some ks) (hi : b8N P t = some ks.length) {x : Value} (hx : skOf x = some (b2O P t, ks)) :
   ∀ (es : List MapEntry) (i : Nat), (∀ e ∈ es, skOf e.key = some (b2O P t, ks)) →
     ((Instr.findAsking t x es i).run P w = .ok none w ∧ ∀ e ∈ es, e.key ≠ x) ∨
     ∃ j e, (Instr.findAsking t x es i).run P w = .ok (some (i + j, e.val)) w ∧ es[j]? = some e ∧ e.key = x
 | [], i, _ => .inl ⟨by simp [Instr.findAsking], by simp⟩
 | e :: es, i, hall => by
   obtain ⟨r, hr, hiff⟩ := c6K (w := w) hk hi hx (hall e (by simp))
   cases r
   · have hne : e.key ≠ x := fun h => by have := hiff.2 h.symm; cases this
     rcases c7K hk hi hx es (i + 1) (fun y hy => hall y (by simp [hy])) with ⟨h1, h2⟩ | ⟨j, e', h1, h2, h3⟩
     · left
       refine ⟨by simp [Instr.findAsking, hr, h1], fun y hy => ?_⟩
       rcases List.mem_cons.1 hy with rfl | hy
       · exact hne
       · exact h2 y hy
     · right
       exact ⟨j + 1, e', by simp [Instr.findAsking, hr, h1, Nat.add_assoc, Nat.add_comm 1 j], by simpa using h2, h3⟩
   · right
     exact ⟨0, e, by simp [Instr.findAsking, hr], rfl, (hiff.1 rfl).symm⟩
theorem c8K {k : Kd} {u v : Value} (hu : kdOf u = some k) (hv : kdOf v = some k) : ∃ b, Instr.sameNow (c7J k) u v = some b ∧ (b = true ↔ v = u) := by
 cases u <;> simp only [kdOf] at hu <;> (first | (cases hu; done) | skip) <;> cases hu <;> cases v <;> simp only [kdOf] at hv <;> (first | (cases hv; done) | skip)
 · exact ⟨_, rfl, by rw [beq_iff_eq, Value.bool.injEq]; exact ⟨Eq.symm, Eq.symm⟩⟩
 · cases hv; exact ⟨_, by simp only [c7J, Instr.sameNow, if_true]; rfl, by rw [beq_iff_eq, Value.int.injEq]; exact ⟨fun h => ⟨rfl, h.symm⟩, fun h => h.2.symm⟩⟩
 · exact ⟨_, rfl, by rw [c8J, Value.string.injEq]; exact ⟨Eq.symm, Eq.symm⟩⟩
theorem c9K {k : Kd} {x : Value} (hx : kdOf x = some k) :
   ∀ (es : List MapEntry) (i : Nat), (∀ e ∈ es, kdOf e.key = some k) →
     (Instr.findNow (c7J k) x es i = some none ∧ ∀ e ∈ es, e.key ≠ x) ∨
     ∃ j e, Instr.findNow (c7J k) x es i = some (some (i + j, e.val)) ∧ es[j]? = some e ∧ e.key = x
 | [], i, _ => .inl ⟨by simp [Instr.findNow], by simp⟩
 | e :: es, i, hall => by
   obtain ⟨r, hr, hiff⟩ := c8K hx (hall e (by simp))
   cases r
   · have hne : e.key ≠ x := fun h => by have := hiff.2 h; cases this
     rcases c9K hx es (i + 1) (fun y hy => hall y (by simp [hy])) with ⟨h1, h2⟩ | ⟨j, e', h1, h2, h3⟩
     · left
       refine ⟨by simp only [Instr.findNow, hr]; exact h1, fun y hy => ?_⟩
       rcases List.mem_cons.1 hy with rfl | hy
       · exact hne
       · exact h2 y hy
     · right
       exact ⟨j + 1, e', by simp only [Instr.findNow, hr]; rw [h1, Nat.add_assoc, Nat.add_comm 1 j], by simpa using h2, h3⟩
   · right
     exact ⟨0, e, by simp only [Instr.findNow, hr]; rfl, rfl, hiff.1 rfl⟩
theorem c0L {t : TypeId} {ks : List Kd} (hk : b3O P 20 t = some ks) (hi : b8N P t = some ks.length) {x : Value} (hx : skOf x = some (b2O P t, ks))
   (es : List MapEntry) (hall : ∀ e ∈ es, skOf e.key = some (b2O P t, ks)) :
   ((Instr.findKey t x es).run P w = .ok none w ∧ ∀ e ∈ es, e.key ≠ x) ∨
     ∃ j e, (Instr.findKey t x es).run P w = .ok (some (j, e.val)) w ∧ es[j]? = some e ∧ e.key = x := by
 by_cases hg : b2O P t = true
 · have hd : ∃ dd, P.underlying t = some dd ∧ (∀ y z, Instr.sameNow dd y z = none) := by
     unfold b2O at hg
     split at hg
     · rename_i hu; exact ⟨_, hu, fun y z => by simp [Instr.sameNow]⟩
     · rename_i hu; exact ⟨_, hu, fun y z => by simp [Instr.sameNow]⟩
     · cases hg
   obtain ⟨dd, hu, hs⟩ := hd
   have e : (Instr.findKey t x es).run P w = (Instr.findAsking t x es).run P w := by
     cases es with
     | nil => simp [Instr.findKey, Vm.run_underlying w hu, Instr.findNow, Instr.findAsking]
     | cons e es => simp [Instr.findKey, Vm.run_underlying w hu, Instr.findNow, hs]
   rw [e]
   rcases c7K (w := w) hk hi hx es 0 hall with h | ⟨j, e', h1, h2, h3⟩
   · exact .inl h
   · exact .inr ⟨j, e', by simpa using h1, h2, h3⟩
 · have hg : b2O P t = false := by simpa using hg
   obtain ⟨k, rfl, hu⟩ := c4K hk hg
   have kd : ∀ v, skOf v = some (b2O P t, [k]) → kdOf v = some k := by
     intro v hv
     rw [hg] at hv
     rcases c0K hv with ⟨cs, _, h1, _⟩ | ⟨k', _, h2, h3, _⟩
     · cases h1
     · simp only [List.cons.injEq, and_true] at h2; subst h2; exact h3
   have e : ∀ r, Instr.findNow (c7J k) x es 0 = some r → (Instr.findKey t x es).run P w = .ok r w := by
     intro r hr
     simp only [Instr.findKey, Sem.run_bind, Vm.run_underlying w hu, Result.andThen_ok, hr, Sem.run_pure]
   rcases c9K (kd x hx) es 0 (fun e he => kd _ (hall e he)) with ⟨h1, h2⟩ | ⟨j, e', h1, h2, h3⟩
   · exact .inl ⟨e _ h1, h2⟩
   · exact .inr ⟨j, e', by rw [e _ h1, Nat.zero_add], h2, h3⟩
end
end Go.Vm
end

section
namespace Go.Vm
section
variable {P : Program} {w : World}
theorem b8M (em : Bool) : ∀ (d : Nat) (t : TypeId) (ks : List Kd), b3O P d t = some ks → ∀ (D : Nat), d ≤ D → ∀ (us : Array Value) (o : Nat), o + ks.length ≤ us.size →
   (b2O P t = true → b8N P t = some ks.length → (Instr.checkKey em D t (.agg (us.extract o (o + ks.length)))).run P w = .ok () w) ∧
   (b8N P t = some ks.length → ∃ X, (part t us o).run P w = .ok X w ∧ (Instr.checkKey em D t X).run P w = .ok () w) := by
 intro d
 induction d with
 | zero => intro t ks h; cases h
 | succ d ih =>
   intro t ks hks D hD us o l1
   obtain ⟨D, rfl⟩ : ∃ D', D = D' + 1 := ⟨D - 1, by omega⟩
   unfold b3O at hks
   have leaf : ∀ (k : Kd), P.underlying t = some (c7J k) → ks = [k] →
       (b2O P t = true → b8N P t = some ks.length → (Instr.checkKey em (D + 1) t (.agg (us.extract o (o + ks.length)))).run P w = .ok () w) ∧
       (b8N P t = some ks.length → ∃ X, (part t us o).run P w = .ok X w ∧ (Instr.checkKey em (D + 1) t X).run P w = .ok () w) := by
     rintro k hu rfl
     have hg : b2O P t = false := by unfold b2O; rw [hu]; cases k <;> rfl
     simp only [List.length_singleton] at l1 ⊢
     refine ⟨(by rw [hg]; intro h; cases h), fun _ => ⟨us.getD o undef, b3y hu hg (by omega) w, ?_⟩⟩
     rw [Instr.checkKey]
     simp only [Sem.run_bind, Vm.run_underlying w hu, Result.andThen_ok]
     cases k <;> rfl
   split at hks
   · rename_i hu; exact leaf .b hu (by simpa using hks.symm)
   · rename_i k hu; exact leaf (.i k) hu (by simpa using hks.symm)
   · rename_i hu; exact leaf .s hu (by simpa using hks.symm)
   · rename_i fs hu
     split at hks
     · cases hks
     · have hg : b2O P t = true := by unfold b2O; rw [hu]
       have fields : ∀ (l : List Field) (k0 ks : List Kd) (us : Array Value), ks.length ≤ us.size →
           l.foldlM (fun ks f => if f.name ≠ "_" ∧ f.offset = ks.length then (b3O P d f.type).bind fun q => if b8N P f.type = some q.length then some (ks ++ q) else none else none) k0 = some ks →
           (∃ k3, ks = k0 ++ k3) ∧ (forIn l () fun f _ => do
             if f.name ≠ "_" then Instr.checkKey em D f.type (← part f.type us f.offset)
             pure (ForInStep.yield ()) : Sem Unit).run P w = .ok () w := by
         intro l
         induction l with
         | nil =>
           intro k0 ks us _ hf
           simp only [List.foldlM_nil, Option.pure_def, Option.some.injEq] at hf
           subst hf
           exact ⟨⟨[], by simp⟩, by simp⟩
         | cons f l ihl =>
           intro k0 ks us hl1 hf
           rw [List.foldlM_cons] at hf
           by_cases hc : f.name ≠ "_" ∧ f.offset = k0.length
           · rw [if_pos hc] at hf
             cases hp : b3O P d f.type with
             | none => simp [hp] at hf
             | some q =>
               simp only [hp, Option.bind_some] at hf
               by_cases hq : b8N P f.type = some q.length
               · rw [if_pos hq] at hf
                 simp only [Option.bind_eq_bind, Option.bind_some] at hf
                 obtain ⟨⟨k3, hk3⟩, hrest⟩ := ihl (k0 ++ q) ks us hl1 hf
                 have hlen : k0.length + q.length ≤ us.size := by rw [hk3] at hl1; simp at hl1; omega
                 obtain ⟨X, p1, p2⟩ := (ih f.type q hp D (by omega) us k0.length hlen).2 hq
                 refine ⟨⟨q ++ k3, by rw [hk3, List.append_assoc]⟩, ?_⟩
                 simp only [List.forIn_cons, Sem.run_bind, hc.1, ne_eq, not_false_eq_true, if_true, hc.2, p1, p2, Result.andThen_ok, Sem.run_pure]
                 simpa using hrest
               · rw [if_neg hq] at hf; simp at hf
           · rw [if_neg hc] at hf; simp at hf
       have whole : b8N P t = some ks.length → (Instr.checkKey em (D + 1) t (.agg (us.extract o (o + ks.length)))).run P w = .ok () w := by
         intro _
         rw [Instr.checkKey]
         simp only [Sem.run_bind, Vm.run_underlying w hu, Result.andThen_ok]
         rw [← Array.forIn_toList]
         have := (fields fs.toList [] ks (us.extract o (o + ks.length)) (by simp; omega) (by simpa using hks)).2
         simp at this ⊢
         exact congrArg (fun (r : Result Unit) => r.andThen fun _ w' => Result.ok () w') this
       exact ⟨fun _ => whole, fun hi => ⟨_, b4y hu hg hi us o w, whole hi⟩⟩
   · cases hks
theorem b9M {t : TypeId} {ks : List Kd} (hk : b3O P 20 t = some ks) (hi : b8N P t = some ks.length) {x : Value} (hx : skOf x = some (b2O P t, ks)) (em : Bool) :
   (Instr.checkKey em 10000 t x).run P w = .ok () w := by
 rcases c0K hx with ⟨us, rfl, h1, h2, h3⟩ | ⟨k, h1, h2, h3, h4⟩
 · have hl := c5K h2
   have := (b8M (w := w) em 20 t ks hk 10000 (by omega) us 0 (by simp at hl; omega)).1 h1 hi
   rw [show us.extract 0 (0 + ks.length) = us from by rw [← hl]; simp] at this
   exact this
 · obtain ⟨k0, hk0, hu⟩ := c4K hk h1
   rw [show (10000 : Nat) = 9999 + 1 from rfl, Instr.checkKey]
   simp only [Sem.run_bind, Vm.run_underlying w hu, Result.andThen_ok]
   cases k0 <;> rfl
end
end Go.Vm
end

section
namespace Go.Vm
theorem b7R {P : Program} {w : World} {r : Nat} {es : Array MapEntry} {clock : Nat} (hb : w.heap[r]? = some (.map es clock)) : (getObj r).run P w = .ok (.map es clock) w := by
 simp [getObj, Sem.run, hb]
theorem b8R {P : Program} {w : World} {r : Nat} {es : Array MapEntry} {clock : Nat} (o : Obj) (hb : w.heap[r]? = some (.map es clock)) : (setObj r o).run P w = .ok () { w with heap := w.heap.setIfInBounds r o } := by
 simp [setObj, Sem.run, hb]
theorem b9R {u : Value} {k : Kd} (h : kdOf u = some k) : skOf u = some (false, [k]) ∧ c5v u = [u] := by
 have h1 := c9J h
 refine ⟨?_, by simp [c5v, h1.1]⟩
 cases u <;> simp_all [kdOf, skOf]
section
variable {A : Nat → Prop} {ψ : Pl} {H : Hp} {w : World}
theorem b0S : ∀ (cs : List AV) (L : List Value) (l : List (Kd × Value)), L.length = cs.length → (∀ i c, cs[i]? = some c → RAV A ψ H w c (L.getD i undef)) → cs.mapM b4O = some l →
   L.mapM kdOf = some (l.map (·.1)) ∧ L = l.map (·.2) := by
 intro cs
 induction cs with
 | nil =>
   intro L l hl _ hm
   simp at hm; subst hm
   have : L = [] := List.eq_nil_of_length_eq_zero (by simpa using hl)
   subst this
   exact ⟨by simp, by simp⟩
 | cons c cs ih =>
   intro L l hl hc hm
   cases L with
   | nil => simp at hl
   | cons v L =>
     rw [List.mapM_cons] at hm
     cases hk : b4O c with
     | none => simp [hk] at hm
     | some p =>
       cases hq : cs.mapM b4O with
       | none => simp [hk, hq] at hm
       | some q =>
         simp [hk, hq] at hm
         subst hm
         obtain ⟨g1, g2⟩ := ih L q (by simpa using hl) (fun i c h => by simpa using hc (i + 1) c (by simpa using h)) hq
         have h0 := hc 0 c rfl
         simp only [List.getD_cons_zero] at h0
         unfold b4O at hk
         split at hk
         · rename_i u
           simp only [Option.map_eq_some_iff] at hk
           obtain ⟨k, hk1, rfl⟩ := hk
           have := b2o h0
           subst this
           refine ⟨?_, by simp [← g2]⟩
           rw [List.mapM_cons]
           simp [hk1, g1]
         · cases hk
theorem b1S {x : AV} {v : Value} {sk2 : Bool × List Kd} {kk : List Value} (h : RAV A ψ H w x v) (hk : b5O x = some (sk2, kk)) : skOf v = some sk2 ∧ c5v v = kk := by
 unfold b5O at hk
 split at hk
 · rename_i u
   simp only [Option.map_eq_some_iff, Prod.mk.injEq] at hk
   obtain ⟨k, hk1, rfl, rfl⟩ := hk
   have := b2o h
   subst this
   exact b9R hk1
 · rename_i cs
   simp only [Option.map_eq_some_iff, Prod.mk.injEq] at hk
   obtain ⟨l, hl, rfl, rfl⟩ := hk
   obtain ⟨us, h1, h2, rfl⟩ := b6o h
   obtain ⟨g1, g2⟩ := b0S cs us.toList l (by simpa using h1) (fun i c hc => by rw [a7w]; exact h2 i c hc) hl
   exact ⟨by simp [skOf, g1], by simp only [c5v, Value.cells]; exact g2⟩
 · cases hk
theorem b2S {α β : Type} {f : α → β} : ∀ {l : List α}, (l.map f).Nodup → ∀ x ∈ l, ∀ y ∈ l, f x = f y → x = y := by
 intro l
 induction l with
 | nil => intro _ x hx; cases hx
 | cons a l ih =>
   intro h x hx y hy he
   rw [List.map_cons, List.nodup_cons] at h
   rcases List.mem_cons.1 hx with rfl | hx'
   · rcases List.mem_cons.1 hy with rfl | hy'
     · rfl
     · exact absurd (List.mem_map.2 ⟨y, hy', he.symm⟩) h.1
   · rcases List.mem_cons.1 hy with rfl | hy'
     · exact absurd (List.mem_map.2 ⟨x, hx', he⟩) h.1
     · exact ih h.2 x hx' y hy' he
end
section
variable {P : Program} {E : En} {n : Nat} {ψ : Pl} {s : St} {a : Act} {w : World}
variable {dst : Option Nat} {ty : TypeId} {pos : String} {af : Array Edge} {g : Option (Nat × Bool)} {r : Rhs} {d : Nat} {K : St → AV → Prop}
theorem b3S (h : SimAt E n ψ s a w) {x : AV} {v : Value} (hx : RAV (Im E ψ s.hp) ψ s.hp w x v) {sk : Sk} {gm : List Value → Option (List IV)} (hm : s.mapOf x = some (sk, gm)) :
   (v = .map none ∧ ∀ k, gm k = none) ∨ ∃ b es clock, v = .map (some b) ∧ w.heap[b]? = some (.map es clock) ∧ RMap (Im E ψ s.hp) w sk gm es := by
 unfold St.mapOf at hm
 split at hm
 · rename_i id
   split at hm
   · rename_i sk' g' ho
     simp only [Option.some.injEq, Prod.mk.injEq] at hm
     obtain ⟨rfl, rfl⟩ := hm
     cases hx with
     | mpr _ b k o ho' hb =>
       obtain ⟨b', es, clock, h1, h2, _, h3⟩ := h.obs id _ ho
       rw [h1] at hb; cases hb
       exact .inr ⟨b, es, clock, rfl, h2, h3⟩
   · rename_i sk' g' ns ks ho
     simp only [Option.some.injEq, Prod.mk.injEq] at hm
     obtain ⟨rfl, rfl⟩ := hm
     cases hx with
     | mpr _ b k o ho' hb =>
       obtain ⟨b', es, clock, h1, h2, _, h3, _⟩ := h.obs id _ ho
       rw [h1] at hb; cases hb
       exact .inr ⟨b, es, clock, rfl, h2, h3⟩
   · cases hm
 · rename_i sk' g'
   simp only [Option.some.injEq, Prod.mk.injEq] at hm
   obtain ⟨rfl, rfl⟩ := hm
   cases hx with
   | iv _ _ hr =>
     cases hr with
     | mp _ _ b clock es vs hA hh hsk hin hno _ hg hrr =>
       refine .inr ⟨b, es, clock, rfl, hh, hsk, hin, hno, fun k c hc => ?_⟩
       obtain ⟨e, he, g1, g2, g3⟩ := hg k c hc
       refine ⟨e, he, g1, g2, fun i y hy => ?_⟩
       have := g3 i y hy
       rw [show e.val.cells.getD i undef = vs k i from by simp [Array.getD_eq_getD_getElem?, this]]
       exact hrr k c hc i y hy
     | mnil _ _ hn => exact .inl ⟨rfl, hn⟩
 · cases hm
theorem b4S {k e : TypeId} {sk : Sk} (h : skT P k e = some sk) : b3O P 20 k = some sk.2.1 ∧ b8N P k = some sk.2.1.length ∧ sk.1 = b2O P k ∧ sk.2.2 = b2O P e := by
 unfold skT at h
 obtain ⟨l, hl, h⟩ := Option.bind_eq_some_iff.1 h
 split at h
 · rename_i hi
   split at h
   · simp only [Option.some.injEq] at h
     subst h
     exact ⟨hl, hi, rfl, rfl⟩
   · cases h
 · cases h
theorem b5S {t k e : TypeId} {sk : Sk} (hd : d < 1000) (h : SimAt E n ψ s a w) (hk : stp P d s K (.mkmap sk)) :
   Does P E n ⟨dst, .makeMap t none, ty, pos, af, g⟩ a w K := by
 simp only [stp] at hk
 have h1 := h.drop (id := d) hd
 have h2 := h1.new (o := .map sk fun _ => none) (p := some (w.heap.size, (0, 0))) hd (a9w s d) (Ext.alloc w (.map #[] 0)) (fun b k e => by cases e; exact Nat.le_refl _)
   ⟨w.heap.size, #[], 0, by simp [upd], a0x _ _, ⟨by simp, by simp⟩, by simp, by simp, by simp, fun k c hc => by cases hc⟩
 refine c8C (v := .map (some w.heap.size)) (w' := w.alloc (.map #[] 0)) ?_ hk h2 (.mpr d w.heap.size (0, 0) _ (by simp [c4G]; rfl) (by simp [upd]))
 simp [execOp, Instr.makeMap]
theorem b6S {A : Nat → Prop} {H : Hp} {cs : List AV} {v : Value} {ag : Bool} (hg : c6v v = ag) (hl : v.cells.size = cs.length) (hc : ∀ i x, cs[i]? = some x → RAV A ψ H w x (v.cells.getD i undef)) :
   RAV A ψ H w (b7O ag cs) v := by
 subst hg
 cases v with
 | agg us => exact .agg cs us hl hc
 | _ =>
   simp only [b7O, c6v, Bool.false_eq_true, if_false]
   match cs, hl, hc with
   | [x], _, hc => exact hc 0 x rfl
   | [], hl, _ => simp [Value.cells] at hl
   | x :: y :: r, hl, _ => simp [Value.cells] at hl
theorem b7S {t k' e' : TypeId} {m k : Operand} {ok : Bool} {sk : Sk} {z : List AV} (hu : P.underlying t = some (.map k' e')) (hsk : skT P k' e' = some sk) (hz : b1O P e' = some z)
   (hza : ((P.info? e').bind (·.zero)).map c6v = some (b2O P e')) (h : SimAt E n ψ s a w) (hk : match s.mapOf (s.ev m), b5O (s.ev k) with
     | some (sk1, g), some (sk2, kk) => sk1 = sk ∧ sk2 = (sk.1, sk.2.1) ∧ K s (lkR z sk.2.2 ok (g kk))
     | _, _ => False) :
   ∃ v av, (∀ u, Ext w u → (execOp a.eval ⟨dst, .lookup t m k ok, ty, pos, af, g⟩).run P u = .ok (.value v) u) ∧ K s av ∧ RAV (Im E ψ s.hp) ψ s.hp w av v := by
 obtain ⟨p1, p2, p3, p4⟩ := b4S hsk
 have hm := h.ev m
 have hkv := h.ev k
 split at hk
 · rename_i sk1 gm sk2 kk hmo hkey
   obtain ⟨rfl, rfl, hk⟩ := hk
   obtain ⟨hk1, hk2⟩ := b1S hkv hkey
   rw [p3] at hk1
   have found : ∀ es : Array MapEntry, (a.eval m = .map none ∧ es = #[] ∨ ∃ b clock, a.eval m = .map (some b) ∧ w.heap[b]? = some (.map es clock)) → RMap (Im E ψ s.hp) w sk1 gm es →
       ∃ v, (∀ u, Ext w u → (execOp a.eval ⟨dst, .lookup t m k ok, ty, pos, af, g⟩).run P u = .ok (.value v) u) ∧ RAV (Im E ψ s.hp) ψ s.hp w (lkR z sk1.2.2 ok (gm kk)) v := by
     intro es hes hr
     have hall : ∀ e ∈ es.toList, skOf e.key = some (b2O P k', sk1.2.1) := fun e he => by rw [← p3]; exact (hr.1 e he).1
     have fin : ∀ u, Ext w u → ∀ r v, (Instr.findKey k' (a.eval k) es.toList).run P u = .ok r u → (match r with | some (_, v') => v' = v ∧ True | none => (zeroValue e').run P u = .ok v u) →
         (execOp a.eval ⟨dst, .lookup t m k ok, ty, pos, af, g⟩).run P u = .ok (.value (if ok then .tuple #[v, .bool r.isSome] else v)) u := by
       intro u hx r v h1 h2
       simp only [execOp, Sem.run_bind]
       have : (Instr.lookup t (a.eval m) (a.eval k) ok).run P u = .ok (if ok then .tuple #[v, .bool r.isSome] else v) u := by
         unfold Instr.lookup
         rw [Sem.run_bind, Vm.run_underlying u hu, Result.andThen_ok]
         rcases hes with ⟨e1, rfl⟩ | ⟨b, clock, e1, e2⟩
         · rw [e1]
           simp only [Sem.run_bind, Sem.run_pure, b9M p1 p2 hk1, Result.andThen_ok, h1]
           cases r with
           | none => simp only [Sem.run_bind, h2, Result.andThen_ok, Sem.run_pure]; cases ok <;> rfl
           | some p => obtain ⟨i, v'⟩ := p; obtain ⟨rfl, _⟩ := h2; simp only [Sem.run_pure, Result.andThen_ok]; cases ok <;> rfl
         rw [e1]
         simp only [Sem.run_bind, Sem.run_pure, b7R (hx.heap e2), b9M p1 p2 hk1 es.isEmpty, Result.andThen_ok, h1]
         cases r with
         | none => simp only [Sem.run_bind, h2, Result.andThen_ok, Sem.run_pure]; cases ok <;> rfl
         | some p => obtain ⟨i, v'⟩ := p; obtain ⟨rfl, _⟩ := h2; simp only [Sem.run_pure, Result.andThen_ok]; cases ok <;> rfl
       rw [this]; rfl
     by_cases hex : ∃ e ∈ es.toList, e.key = a.eval k
     · obtain ⟨e, he, h3⟩ := hex
       obtain ⟨c, hc⟩ := hr.2.1 e he
       rw [h3, hk2] at hc
       obtain ⟨e2, he2, g1, g2, g3⟩ := hr.2.2.2 kk c hc
       have : e2 = e := b2S hr.2.2.1 e2 he2 e he (by rw [g1, h3, hk2])
       subst this
       refine ⟨if ok then .tuple #[e2.val, .bool true] else e2.val, fun u hx => ?_, ?_⟩
       · rcases c0L (w := u) p1 p2 hk1 es.toList hall with ⟨h1, h2⟩ | ⟨j, e, h1, h2, h4⟩
         · exact absurd h3 (h2 e2 he)
         · have : e = e2 := b2S hr.2.2.1 e (List.mem_of_getElem? h2) e2 he (by rw [h3, h4])
           subst this
           exact fin u hx (some (j, e.val)) e.val h1 ⟨rfl, trivial⟩
       rw [hc]
       have hp : RAV (Im E ψ s.hp) ψ s.hp w (b7O sk1.2.2 (c.map .iv)) e2.val :=
         b6S (hr.1 e2 he2).2 (by simpa using g2) fun i x hx => by
           rw [List.getElem?_map] at hx
           cases hi : c[i]? with
           | none => rw [hi] at hx; cases hx
           | some y => rw [hi] at hx; cases hx; exact .iv _ _ (g3 i y hi)
       cases ok
       · exact hp
       · refine .tup _ _ rfl fun i c hc => ?_
         match i, hc with
         | 0, hc => cases hc; exact hp
         | 1, hc => cases hc; exact c2D rfl
     · have hno : gm kk = none := by
         cases hc : gm kk with
         | none => rfl
         | some c =>
           obtain ⟨e, he, g1, _⟩ := hr.2.2.2 kk c hc
           exact absurd ⟨e, he, c1K (hall e he) hk1 (by rw [g1, hk2])⟩ hex
       obtain ⟨i, zv, z1, z2, rfl⟩ := a4x hz
       rw [z1] at hza
       simp only [Option.bind_some, z2, Option.map_some, Option.some.injEq] at hza
       refine ⟨if ok then .tuple #[zv, .bool false] else zv, fun u hx => ?_, ?_⟩
       · rcases c0L (w := u) p1 p2 hk1 es.toList hall with ⟨h1, h2⟩ | ⟨j, e, h1, h2, h4⟩
         · exact fin u hx none zv h1 (a5x z1 z2 u)
         · exact absurd ⟨e, List.mem_of_getElem? h2, h4⟩ hex
       rw [hno]
       have hp : RAV (Im E ψ s.hp) ψ s.hp w (b7O sk1.2.2 (b0O zv.cells.toList (b9N P 20 e'))) zv :=
         b6S (by rw [p4]; exact hza) (by rw [a5w]; simp) fun i x hx => by
           obtain ⟨sz, e⟩ := a6w _ _ _ _ hx
           rw [e, a7w]
           exact c2C _ _
       cases ok
       · exact hp
       · refine .tup _ _ rfl fun i c hc => ?_
         match i, hc with
         | 0, hc => cases hc; exact hp
         | 1, hc => cases hc; exact c2D rfl
   rcases b3S h hm hmo with ⟨hv, hn⟩ | ⟨b, es, clock, hv, hh, hr⟩
   · obtain ⟨v, h1, h2⟩ := found #[] (.inl ⟨hv, rfl⟩) ⟨by simp, by simp, by simp, fun k c hc => by rw [hn] at hc; cases hc⟩
     exact ⟨v, _, h1, hk, h2⟩
   · obtain ⟨v, h1, h2⟩ := found es (.inr ⟨b, clock, hv, hh⟩) hr
     exact ⟨v, _, h1, hk, h2⟩
 · exact hk.elim
end
end Go.Vm
end

section
namespace Go.Vm
theorem b8e {v : Value} {k : Kd} (h : kdOf v = some k) (n : Nat) : Instr.sameBits n v v = true := by
 cases v <;> simp [kdOf] at h <;> cases n <;> simp [Instr.sameBits, c8J]
theorem b9e {v : Value} {ag : Bool} {ks : List Kd} (h : skOf v = some (ag, ks)) : Instr.sameBits 10000 v v = true := by
 rcases c0K h with ⟨cs, rfl, h1, h2, h3⟩ | ⟨k, h1, h2, h3, h4⟩
 · rw [show (10000 : Nat) = 9999 + 1 from rfl]
   simp only [Instr.sameBits, beq_self_eq_true, Bool.true_and, List.all_eq_true]
   have aux : ∀ (l : List Value) (ks : List Kd), l.mapM kdOf = some ks → ∀ p ∈ l.zip l, Instr.sameBits 9999 p.1 p.2 = true := by
     intro l
     induction l with
     | nil => intro ks _ p hp; simp at hp
     | cons x r ih =>
       intro ks hm p hp
       rw [List.mapM_cons] at hm
       cases hx : kdOf x with
       | none => simp [hx] at hm
       | some kx =>
         cases hq : r.mapM kdOf with
         | none => simp [hx, hq] at hm
         | some q =>
           rw [List.zip_cons_cons] at hp
           rcases List.mem_cons.1 hp with rfl | hp
           · exact b8e hx _
           · exact ih q hq p hp
   exact fun p hp => aux _ _ h2 p hp
 · exact b8e h3 _
theorem b0f (g : List Value → Option (List IV)) (k : List Value) (c : Option (List IV)) : gset g k c k = c := by simp [gset]
theorem b1f (g : List Value → Option (List IV)) {k q : List Value} (c : Option (List IV)) (h : q ≠ k) : gset g k c q = g q := by simp [gset, h]
theorem Born.push {es : Array MapEntry} {clock : Nat} (h : Born es clock) (e : MapEntry) (he : e.born = clock) : Born (es.push e) (clock + 1) := by
 obtain ⟨h1, h2⟩ := h
 constructor
 · intro x hx
   rw [Array.toList_push, List.mem_append, List.mem_singleton] at hx
   rcases hx with hx | rfl
   · exact Nat.lt_succ_of_lt (h1 x hx)
   · omega
 · rw [Array.toList_push, List.map_append, List.nodup_append]
   refine ⟨h2, by simp, ?_⟩
   intro x hx y hy hxy
   rw [List.map_singleton, List.mem_singleton] at hy
   obtain ⟨z, hz, hzx⟩ := List.mem_map.1 hx
   have := h1 z hz
   omega
theorem b2f (es : Array MapEntry) (i : Nat) (f : MapEntry → MapEntry) (hf : ∀ e, (f e).born = e.born) : (es.modify i f).toList.map (·.born) = es.toList.map (·.born) := by
 apply List.ext_getElem?
 intro j
 rw [List.getElem?_map, List.getElem?_map, Array.getElem?_toList, Array.getElem?_modify, Array.getElem?_toList]
 split
 · cases es[j]? <;> simp [hf]
 · rfl
theorem Born.of_map {es es' : Array MapEntry} {clock : Nat} (h : Born es clock) (he : es'.toList.map (·.born) = es.toList.map (·.born)) : Born es' clock := by
 obtain ⟨h1, h2⟩ := h
 refine ⟨fun x hx => ?_, by rw [he]; exact h2⟩
 have : x.born ∈ es'.toList.map (·.born) := List.mem_map.2 ⟨x, hx, rfl⟩
 rw [he] at this
 obtain ⟨y, hy, e⟩ := List.mem_map.1 this
 rw [← e]; exact h1 y hy
theorem Born.modify {es : Array MapEntry} {clock : Nat} (h : Born es clock) (i : Nat) (f : MapEntry → MapEntry) (hf : ∀ e, (f e).born = e.born) : Born (es.modify i f) clock :=
 h.of_map (b2f es i f hf)
theorem Born.erase {es : Array MapEntry} {clock : Nat} (h : Born es clock) (i : Nat) : Born (es.eraseIdxIfInBounds i) clock := by
 by_cases hi : i < es.size
 · have htl : (es.eraseIdxIfInBounds i).toList = es.toList.eraseIdx i := by
     simp [Array.eraseIdxIfInBounds, hi, Array.toList_eraseIdx]
   refine ⟨fun x hx => ?_, ?_⟩
   · rw [htl] at hx; exact h.1 x (List.mem_of_mem_eraseIdx hx)
   · rw [htl]; exact h.2.sublist (List.Sublist.map _ (List.eraseIdx_sublist _ _))
 · have : es.eraseIdxIfInBounds i = es := by simp [Array.eraseIdxIfInBounds, hi]
   rw [this]; exact h
section
variable {A : Nat → Prop} {w : World}
theorem RMap.modify {A' : Nat → Prop} {w' : World} {sk : Sk} {g : List Value → Option (List IV)} {es : Array MapEntry} (h : RMap A w sk g es) (tr : ∀ x v, RIV A w x v → RIV A' w' x v) {j : Nat} {e : MapEntry} (he : es[j]? = some e) {val : Value} {c : List IV}
   (hv : c6v val = sk.2.2) (hl : val.cells.size = c.length) (hc : ∀ i x, c[i]? = some x → RIV A' w' x (val.cells.getD i undef)) :
   RMap A' w' sk (gset g (c5v e.key) (some c)) (es.modify j fun e => { e with val := val }) := by
 obtain ⟨h1, h2, h3, h4⟩ := h
 have hget : ∀ i, (es.modify j fun e => { e with val := val })[i]? = if j = i then (es[i]?).map (fun e => { e with val := val }) else es[i]? := by
   intro i
   rw [Array.getElem?_modify]
 have hmem : ∀ e' ∈ (es.modify j fun e => { e with val := val }).toList, (e' = { e with val := val }) ∨ (e' ∈ es.toList ∧ ∃ i, i ≠ j ∧ es[i]? = some e') := by
   intro e' he'
   obtain ⟨i, hi⟩ := List.getElem?_of_mem he'
   rw [Array.getElem?_toList, hget] at hi
   split at hi
   · rename_i hji
     subst hji
     rw [he] at hi
     simp only [Option.map_some, Option.some.injEq] at hi
     exact .inl hi.symm
   · rename_i hji
     exact .inr ⟨by rw [← Array.getElem?_toList] at hi; exact List.mem_of_getElem? hi, i, fun e => hji e.symm, hi⟩
 have hee : e ∈ es.toList := by rw [← Array.getElem?_toList] at he; exact List.mem_of_getElem? he
 have hnew : ({ e with val := val } : MapEntry) ∈ (es.modify j fun e => { e with val := val }).toList := by
   refine List.mem_of_getElem? (i := j) ?_
   rw [Array.getElem?_toList, hget, if_pos rfl, he]; rfl
 have hkeys : (es.modify j fun e => { e with val := val }).toList.map (fun e => c5v e.key) = es.toList.map (fun e => c5v e.key) := by
   apply List.ext_getElem?
   intro i
   rw [List.getElem?_map, List.getElem?_map, Array.getElem?_toList, hget, Array.getElem?_toList]
   split
   · cases es[i]? <;> rfl
   · rfl
 refine ⟨fun e' he' => ?_, fun e' he' => ?_, by rw [hkeys]; exact h3, fun k q hq => ?_⟩
 · rcases hmem e' he' with rfl | ⟨hm, _⟩
   · exact ⟨(h1 e hee).1, hv⟩
   · exact h1 e' hm
 · by_cases hk : c5v e'.key = c5v e.key
   · exact ⟨c, by rw [hk, b0f]⟩
   · rw [b1f _ _ hk]
     rcases hmem e' he' with rfl | ⟨hm, _⟩
     · exact absurd rfl hk
     · exact h2 e' hm
 · by_cases hk : k = c5v e.key
   · subst hk
     rw [b0f] at hq
     cases hq
     exact ⟨_, hnew, rfl, hl, hc⟩
   · rw [b1f _ _ hk] at hq
     obtain ⟨e', he', g1, g2, g3⟩ := h4 k q hq
     refine ⟨e', ?_, g1, g2, fun i x hx => tr _ _ (g3 i x hx)⟩
     obtain ⟨i, hi⟩ := List.getElem?_of_mem he'
     refine List.mem_of_getElem? (i := i) ?_
     rw [Array.getElem?_toList, hget]
     rw [Array.getElem?_toList] at hi
     rw [if_neg ?_]
     · exact hi
     · rintro rfl
       rw [he] at hi; cases hi
       exact hk g1.symm
theorem RMap.push {A' : Nat → Prop} {w' : World} {sk : Sk} {g : List Value → Option (List IV)} {es : Array MapEntry} (h : RMap A w sk g es) (tr : ∀ x v, RIV A w x v → RIV A' w' x v) {e : MapEntry} (hno : ∀ e' ∈ es.toList, c5v e'.key ≠ c5v e.key) {c : List IV}
   (hf : Fits sk e) (hl : e.val.cells.size = c.length) (hc : ∀ i x, c[i]? = some x → RIV A' w' x (e.val.cells.getD i undef)) :
   RMap A' w' sk (gset g (c5v e.key) (some c)) (es.push e) := by
 obtain ⟨h1, h2, h3, h4⟩ := h
 have hmem : ∀ e' ∈ (es.push e).toList, e' = e ∨ e' ∈ es.toList := by
   intro e' he'
   rw [Array.toList_push, List.mem_append, List.mem_singleton] at he'
   exact he'.symm
 refine ⟨fun e' he' => ?_, fun e' he' => ?_, ?_, fun k q hq => ?_⟩
 · rcases hmem e' he' with rfl | hm
   · exact hf
   · exact h1 e' hm
 · by_cases hk : c5v e'.key = c5v e.key
   · exact ⟨c, by rw [hk, b0f]⟩
   · rw [b1f _ _ hk]
     rcases hmem e' he' with rfl | hm
     · exact absurd rfl hk
     · exact h2 e' hm
 · rw [Array.toList_push, List.map_append, List.nodup_append]
   refine ⟨h3, by simp, ?_⟩
   intro x hx y hy hxy
   rw [List.map_singleton, List.mem_singleton] at hy
   subst hy; subst hxy
   obtain ⟨e', he', e2⟩ := List.mem_map.1 hx
   exact hno e' he' e2
 · by_cases hk : k = c5v e.key
   · subst hk
     rw [b0f] at hq
     cases hq
     exact ⟨e, by simp, rfl, hl, hc⟩
   · rw [b1f _ _ hk] at hq
     obtain ⟨e', he', g1, g2, g3⟩ := h4 k q hq
     exact ⟨e', by rw [Array.toList_push]; exact List.mem_append_left _ he', g1, g2, fun i x hx => tr _ _ (g3 i x hx)⟩
theorem RMap.erase {A' : Nat → Prop} {w' : World} {sk : Sk} {g : List Value → Option (List IV)} {es : Array MapEntry} (h : RMap A w sk g es) (tr : ∀ x v, RIV A w x v → RIV A' w' x v) {j : Nat} {e : MapEntry} (he : es[j]? = some e) :
   RMap A' w' sk (gset g (c5v e.key) none) (es.eraseIdxIfInBounds j) := by
 obtain ⟨h1, h2, h3, h4⟩ := h
 have hj : j < es.size := (Array.getElem?_eq_some_iff.1 he).1
 have htl : (es.eraseIdxIfInBounds j).toList = es.toList.eraseIdx j := by
   simp [Array.eraseIdxIfInBounds, hj, Array.toList_eraseIdx]
 have hsub : ∀ e' ∈ es.toList.eraseIdx j, e' ∈ es.toList := fun e' h => List.mem_of_mem_eraseIdx h
 have heg : es.toList[j]? = some e := by rw [Array.getElem?_toList]; exact he
 have hnk : ∀ e' ∈ es.toList.eraseIdx j, c5v e'.key ≠ c5v e.key := by
   intro e' he' hk
   obtain ⟨i, hij, hi⟩ := List.mem_eraseIdx_iff_getElem?.1 he'
   have hh := List.pairwise_iff_getElem.1 h3
   have a1 : (es.toList.map fun e => c5v e.key)[i]? = some (c5v e.key) := by rw [List.getElem?_map, hi]; simp [hk]
   have a2 : (es.toList.map fun e => c5v e.key)[j]? = some (c5v e.key) := by rw [List.getElem?_map, heg]; rfl
   obtain ⟨hil, e1⟩ := List.getElem?_eq_some_iff.1 a1
   obtain ⟨hjl, e2⟩ := List.getElem?_eq_some_iff.1 a2
   rcases Nat.lt_or_gt_of_ne hij with h | h
   · exact hh i j hil hjl h (e1.trans e2.symm)
   · exact hh j i hjl hil h (e2.trans e1.symm)
 refine ⟨fun e' he' => h1 e' (hsub e' (by rw [← htl]; exact he')), fun e' he' => ?_, ?_, fun k q hq => ?_⟩
 · rw [htl] at he'
   rw [b1f _ _ (hnk e' he')]
   exact h2 e' (hsub e' he')
 · rw [htl]
   exact h3.sublist (List.Sublist.map _ (List.eraseIdx_sublist _ _))
 · by_cases hk : k = c5v e.key
   · subst hk
     rw [b0f] at hq
     cases hq
   · rw [b1f _ _ hk] at hq
     obtain ⟨e', he', g1, g2, g3⟩ := h4 k q hq
     refine ⟨e', ?_, g1, g2, fun i x hx => tr _ _ (g3 i x hx)⟩
     rw [htl]
     obtain ⟨i, hi⟩ := List.getElem?_of_mem he'
     refine List.mem_eraseIdx_iff_getElem?.2 ⟨i, ?_, hi⟩
     rintro rfl
     rw [heg] at hi; cases hi
     exact hk g1.symm
theorem RMap.conv {A' : Nat → Prop} {w' : World} {sk : Sk} {g g' : List Value → Option (List IV)} {es : Array MapEntry} (h : RMap A w sk g es) (tr : ∀ x v, RIV A w x v → RIV A' w' x v) (hg : ∀ k, g' k = g k) : RMap A' w' sk g' es := by
 obtain ⟨h1, h2, h3, h4⟩ := h
 refine ⟨h1, fun e he => by rw [hg]; exact h2 e he, h3, fun k q hq => ?_⟩
 rw [hg] at hq
 obtain ⟨e', he', g1, g2, g3⟩ := h4 k q hq
 exact ⟨e', he', g1, g2, fun i x hx => tr _ _ (g3 i x hx)⟩
end
end Go.Vm
end

section
namespace Go.Vm
section
variable {P : Program} {E : En} {n : Nat} {ψ : Pl} {s : St} {a : Act} {w : World}
variable {dst : Option Nat} {ty : TypeId} {pos : String} {af : Array Edge} {g : Option (Nat × Bool)} {r : Rhs} {d : Nat} {K : St → AV → Prop}
theorem b3f (h : SimAt E n ψ s a w) {id : Nat} {sk : Sk} {gm gm' : List Value → Option (List IV)} (ho : look s.hp id = some (.map sk gm)) {b clock clock' : Nat} {es es' : Array MapEntry}
   (hb : ψ id = some (b, (0, 0))) (hh : w.heap[b]? = some (.map es clock)) (hbn : Born es' clock')
   (hm : ∀ {A' : Nat → Prop} {w' : World}, (∀ x v, RIV (Im E ψ s.hp) w x v → RIV A' w' x v) → RMap A' w' sk gm' es') :
   SimAt E n ψ (s.add id (.map sk gm')) a { w with heap := w.heap.setIfInBounds b (.map es' clock') } := by
 have hlt : b < w.heap.size := (Array.getElem?_eq_some_iff.1 hh).1
 refine h.chg (o' := .map sk gm') (k := (0, 0)) ho (Ob.le_none rfl) rfl (by simp [Ob.multi]) hb (fun i hi => ?_) (by simp) ⟨rfl, rfl, rfl, Nat.le_refl _⟩ (fun _ tr => ⟨b, es', clock', hb, ?_, hbn, hm tr⟩)
 · show (w.heap.setIfInBounds b _)[i]? = _
   rw [Array.getElem?_setIfInBounds_ne (Ne.symm hi)]
 · show (w.heap.setIfInBounds b _)[b]? = _
   simp [hlt]
theorem b4f {A : Nat → Prop} {H : Hp} {x : AV} {v : Value} (h : RAV A ψ H w x v) {cs : List AV} (hc : x.cellsOf = some cs) : c6v v = b6O x := by
 cases h with
 | agg => rfl
 | iv x v h => cases h with
   | v x h1 => cases v <;> simp_all [Value.oneCell', c6v, b6O]
   | _ => rfl
 | tup => cases hc
 | un => cases hc
 | junk => cases hc
 | _ => rfl
theorem b5f (h : SimAt E n ψ s a w) {x : AV} {v : Value} (hx : RAV (Im E ψ s.hp) ψ s.hp w x v) : RAV (Im E ψ s.hp) ψ s.hp w (s.unr x) v := by
 unfold St.unr
 split
 · rename_i u
   split
   · rename_i id hf
     obtain ⟨g, Z, vs, cs, i, h1, h2, h3⟩ := b1P hf
     have hv : v = u := b2o hx
     subst hv
     have := (h.obs g _ h1).2.2.2 i _ h3
     rw [List.getD_eq_getElem?_getD, h2] at this
     exact this
   · exact hx
 · exact hx
theorem b6f {t k' e' : TypeId} {m k x : Operand} {sk : Sk} (hu : P.underlying t = some (.map k' e')) (hsk : skT P k' e' = some sk) (h : SimAt E n ψ s a w) (hk : match (s.frz [s.ev x]).unr ((s.frz [s.ev x]).ev m), b5O ((s.frz [s.ev x]).ev k), ((s.frz [s.ev x]).ev x).cellsOf.bind fun cs => cs.mapM AV.iv? with
   | .mpr id, some (sk2, kk), some c => match look (s.frz [s.ev x]).hp id with
     | some (.map sk1 g) => sk1 = sk ∧ sk2 = (sk.1, sk.2.1) ∧ b6O ((s.frz [s.ev x]).ev x) = sk.2.2 ∧ K ((s.frz [s.ev x]).add id (.map sk (gset g kk (some c)))) .un
     | _ => False
   | _, _, _ => False)
   {o : Op} (hop : o = .mapUpdate t m k x ∨ o = .insert t m k x) : Does P E n ⟨dst, o, ty, pos, af, g⟩ a w K := by
 obtain ⟨p1, p2, p3, p4⟩ := b4S hsk
 have hf := h.frz [s.ev x]
 generalize s.frz [s.ev x] = s1 at hk hf
 have hm := b5f hf (hf.ev m)
 have hkv := hf.ev k
 have hx := hf.ev x
 split at hk
 · rename_i id sk2 kk c hme hkey hcs
   split at hk
   · rename_i sk1 gm ho
     obtain ⟨rfl, rfl, hag, hk⟩ := hk
     obtain ⟨hk1, hk2⟩ := b1S hkv hkey
     rw [p3] at hk1
     rw [hme] at hm
     obtain ⟨b, es, clock, hb, hh, hbn, hr⟩ := hf.obs id _ ho
     have hmv : a.eval m = .map (some b) := by
       generalize a.eval m = vm at hm
       cases hm with
       | mpr _ b' q o' ho' hb' => rw [hb] at hb'; cases hb'; rfl
     cases hc1 : (s1.ev x).cellsOf with
     | none => rw [hc1] at hcs; cases hcs
     | some cs =>
       rw [hc1] at hcs
       simp only [Option.bind_some] at hcs
       obtain ⟨g1, g2⟩ := a8w hx hc1
       obtain ⟨v1, v2⟩ := a9s hf (vs := (a.eval x).cells.toList) (by simpa using g1) (fun i y hy => by rw [a7w]; exact g2 i y hy) hcs
       have hl : (a.eval x).cells.size = c.length := by rw [v1]; exact g1
       have hv : c6v (a.eval x) = sk1.2.2 := by rw [b4f hx hc1]; exact hag
       have v2' : ∀ i y, c[i]? = some y → RIV (Im E ψ s1.hp) w y ((a.eval x).cells.getD i undef) := fun i y hy => by rw [← a7w]; exact v2 i y hy
       have hall : ∀ e ∈ es.toList, skOf e.key = some (b2O P k', sk1.2.1) := fun e he => by rw [← p3]; exact (hr.1 e he).1
       have run : ∀ w', (Instr.mapUpdate t (.map (some b)) (a.eval k) (a.eval x)).run P w = .ok () w' → (execOp a.eval ⟨dst, o, ty, pos, af, g⟩).run P w = .ok .skip w' := by
         intro w' hrun
         rcases hop with rfl | rfl <;> simp only [execOp, hmv, Sem.run_bind, hrun, Result.andThen_ok, Sem.run_pure]
       rcases c0L (w := w) p1 p2 hk1 es.toList hall with ⟨h1, h2⟩ | ⟨j, e, h1, h2, h3⟩
       · have hno : ∀ e ∈ es.toList, c5v e.key ≠ c5v (a.eval k) := fun e he hkk => h2 e he (c1K (hall e he) hk1 hkk)
         have hsim := b3f (clock' := clock + 1) hf ho hb hh (hbn.push _ rfl) (gm' := gset gm kk (some c)) (es' := es.push { key := a.eval k, val := a.eval x, born := clock }) (fun tr => by
           rw [← hk2]
           exact hr.push tr (e := { key := a.eval k, val := a.eval x, born := clock }) hno ⟨by rw [p3]; exact hk1, hv⟩ hl (fun i y hy => tr _ _ (v2' i y hy)))
         refine c9C (run _ ?_) hk hsim
         unfold Instr.mapUpdate
         simp only [Sem.run_bind, Vm.run_underlying w hu, Result.andThen_ok, b7R hh, b9M p1 p2 hk1, h1, b8R _ hh]
       · have he : e ∈ es.toList := List.mem_of_getElem? h2
         have heg : es[j]? = some e := by rw [← Array.getElem?_toList]; exact h2
         have hsim := b3f (clock' := clock) hf ho hb hh (hbn.modify _ _ fun _ => rfl) (gm' := gset gm kk (some c)) (es' := es.modify j fun e => { e with val := a.eval x }) (fun tr => by
           rw [← hk2, ← h3]
           exact hr.modify tr heg hv hl (fun i y hy => tr _ _ (v2' i y hy)))
         have hmod : (es.modify j fun e => { e with key := a.eval k, val := a.eval x }) = es.modify j fun e => { e with val := a.eval x } := by
           apply Array.ext'
           apply List.ext_getElem?
           intro i
           rw [Array.getElem?_toList, Array.getElem?_toList, Array.getElem?_modify, Array.getElem?_modify]
           split
           · rename_i hji
             subst hji
             rw [heg]
             simp [h3]
           · rfl
         refine c9C (run _ ?_) hk hsim
         unfold Instr.mapUpdate
         simp only [Sem.run_bind, Vm.run_underlying w hu, Result.andThen_ok, b7R hh, b9M p1 p2 hk1, h1]
         have hst : (Instr.keyThatStays (((es[j]?).map (·.key)).getD (a.eval k)) (a.eval k)).run P w = .ok (a.eval k) w := by
           unfold Instr.keyThatStays
           rw [heg]
           simp only [Option.map_some, Option.getD_some, h3, b9e hk1, if_true, Sem.run_pure]
         rw [hst]
         simp only [Result.andThen_ok, hmod, b8R _ hh]
   · exact hk.elim
 · exact hk.elim
theorem b7f {t k' e' : TypeId} {m k : Operand} {ts : Array TypeId} {sk : Sk} (h0 : ts[0]? = some t) (hu : P.underlying t = some (.map k' e')) (hsk : skT P k' e' = some sk) (h : SimAt E n ψ s a w)
   (hk : stp P d s K (.mdel sk m k)) : Does P E n ⟨dst, .call ⟨.builtin .delete, #[m, k], ts⟩, ty, pos, af, g⟩ a w K := by
 simp only [stp] at hk
 obtain ⟨p1, p2, p3, p4⟩ := b4S hsk
 have hm := h.ev m
 have hkv := h.ev k
 split at hk
 · rename_i id sk2 kk hme hkey
   split at hk
   · rename_i sk1 gm ho
     obtain ⟨rfl, rfl, hk⟩ := hk
     obtain ⟨hk1, hk2⟩ := b1S hkv hkey
     rw [p3] at hk1
     rw [hme] at hm
     obtain ⟨b, es, clock, hb, hh, hbn, hr⟩ := h.obs id _ ho
     have hmv : a.eval m = .map (some b) := by
       generalize a.eval m = vm at hm
       cases hm with
       | mpr _ b' q o' ho' hb' => rw [hb] at hb'; cases hb'; rfl
     have hall : ∀ e ∈ es.toList, skOf e.key = some (b2O P k', sk1.2.1) := fun e he => by rw [← p3]; exact (hr.1 e he).1
     have run : ∀ v w', (Builtin.delete_ ts ty #[.map (some b), a.eval k]).run P w = .ok v w' → (execOp a.eval ⟨dst, .call ⟨.builtin .delete, #[m, k], ts⟩, ty, pos, af, g⟩).run P w = .ok (.value v) w' := by
       intro v w' hrun
       simp only [execOp, resolve, Sem.run_bind, Sem.run_pure, Result.andThen_ok, invoke, builtin]
       simp [hmv, hrun]
     have tup0 : ∀ {A : Nat → Prop} {ψ : Pl} {H : Hp} {w : World}, RAV A ψ H w (.tup []) (.tuple #[]) := .tup _ _ rfl (by simp)
     rcases c0L (w := w) p1 p2 hk1 es.toList hall with ⟨h1, h2⟩ | ⟨j, e, h1, h2, h3⟩
     · have hnone : gm kk = none := by
         cases hc : gm kk with
         | none => rfl
         | some c =>
           obtain ⟨e, he, g1, _⟩ := hr.2.2.2 kk c hc
           exact absurd (c1K (hall e he) hk1 (by rw [g1, hk2])) (h2 e he)
       have hsim := b3f (clock' := clock) h ho hb hh hbn (gm' := gset gm kk none) (es' := es) (fun tr => hr.conv tr fun q => by
         by_cases hq : q = kk
         · subst hq; rw [b0f, hnone]
         · rw [b1f _ _ hq])
       refine c8C (run (.tuple #[]) _ ?_) hk hsim tup0
       unfold Builtin.delete_
       simp [h0, Vm.run_underlying w hu, b7R hh, b9M p1 p2 hk1, h1, b8R _ hh]
     · have heg : es[j]? = some e := by rw [← Array.getElem?_toList]; exact h2
       have hsim := b3f (clock' := clock) h ho hb hh (hbn.erase j) (gm' := gset gm kk none) (es' := es.eraseIdxIfInBounds j) (fun tr => by
         rw [← hk2, ← h3]
         exact hr.erase tr heg)
       refine c8C (run (.tuple #[]) _ ?_) hk hsim tup0
       unfold Builtin.delete_
       simp [h0, Vm.run_underlying w hu, b7R hh, b9M p1 p2 hk1, h1, b8R _ hh]
   · exact hk.elim
 · exact hk.elim
theorem b8f {t k' e' : TypeId} {x : Operand} {ts : Array TypeId} (h0 : ts[0]? = some t) (hu : P.underlying t = some (.map k' e')) (h : SimAt E n ψ s a w) (hk : stp P d s K (.lenm x)) :
   Does P E n ⟨dst, .call ⟨.builtin .len, #[x], ts⟩, ty, pos, af, g⟩ a w K := by
 simp only [stp] at hk
 have hx := h.ev x
 split at hk
 · rename_i sk gm hmo
   rcases b3S h hx hmo with ⟨hv, hn⟩ | ⟨b, es, clock, hv, hh, hr⟩
   · refine c0D h (v := .int .i64 0) (b9x ?_) (hk 0 (by simp [hn])) (c2D rfl)
     rw [hv]
     simp [Builtin.len_, h0, Vm.run_underlying w hu, goInt]
   · refine c0D h (v := .int .i64 es.size) (b9x ?_) (hk es.size ?_) (c2D rfl)
     · rw [hv]
       simp [Builtin.len_, h0, Vm.run_underlying w hu, goInt, b7R hh]
     · constructor
       · intro h0 k
         cases hc : gm k with
         | none => rfl
         | some c =>
           obtain ⟨e, he, _⟩ := hr.2.2.2 k c hc
           have : es = #[] := Array.eq_empty_of_size_eq_zero h0
           rw [this] at he; cases he
       · intro hn
         rcases Nat.eq_zero_or_pos es.size with h0 | h0
         · exact h0
         · have he : es[0] ∈ es.toList := by simp
           obtain ⟨c, hc⟩ := hr.2.1 _ he
           rw [hn] at hc; cases hc
 · exact hk.elim
end
end Go.Vm
end

section
namespace Go.Vm
theorem c9M (z : Array Value) (m i j : Nat) (hi : i < m) (hj : j < z.size) : (madeCells z (m * z.size)).getD (i * z.size + j) undef = z.getD j undef := by
 have hlt : i * z.size + j < m * z.size := by
   have h1 : (i + 1) * z.size ≤ m * z.size := Nat.mul_le_mul_right _ (by omega)
   rw [Nat.add_mul] at h1
   omega
 have hmod : (i * z.size + j) % z.size = j := by rw [Nat.add_comm, Nat.add_mul_mod_self_right, Nat.mod_eq_of_lt hj]
 unfold madeCells
 simp [Array.getD_eq_getD_getElem?, hlt, hmod, hj]
section
variable {P : Program} {E : En} {n : Nat} {ψ : Pl} {s : St} {a : Act} {w : World}
variable {dst : Option Nat} {ty : TypeId} {pos : String} {af : Array Edge} {g : Option (Nat × Bool)} {r : Rhs} {d : Nat} {K : St → AV → Prop}
theorem ivz : ∀ {z : List AV} {zi : List IV} {vs : List Value} {A : Nat → Prop} {H : Hp} {w : World}, z.mapM AV.iv? = some zi → vs.length = z.length → (∀ i x, z[i]? = some x → RAV A ψ H w x (vs.getD i undef)) →
   zi.length = z.length ∧ ∀ i x, zi[i]? = some x → RIV A w x (vs.getD i undef) := by
 intro z
 induction z with
 | nil => intro zi vs A H w h hl _; simp at h; subst h; exact ⟨rfl, by simp⟩
 | cons x z ih =>
   intro zi vs A H w h hl hc
   cases vs with
   | nil => simp at hl
   | cons v vs =>
     rw [List.mapM_cons] at h
     cases hx : x.iv? with
     | none => simp [hx] at h
     | some y =>
       cases hq : z.mapM AV.iv? with
       | none => simp [hx, hq] at h
       | some q =>
         simp [hx, hq] at h
         subst h
         obtain ⟨g1, g2⟩ := ih (vs := vs) hq (by simpa using hl) (fun i c hi => by simpa using hc (i + 1) c (by simpa using hi))
         refine ⟨by simp [g1], fun i c hi => ?_⟩
         cases i with
         | succ i => simp only [List.getElem?_cons_succ] at hi; simpa using g2 i c hi
         | zero =>
           simp at hi; subst hi
           have h0 := hc 0 x rfl
           simp only [List.getD_cons_zero] at h0 ⊢
           unfold AV.iv? at hx
           split at hx
           · cases hx; cases h0 with | iv _ _ h => exact h
           · cases hx; rw [b8o h0]; exact .lnil _
           · cases hx
theorem c0N {t e : TypeId} {l c : Operand} {i : TypeInfo} {z : List AV} (hu : P.underlying t = some (.slice e)) (hi : P.info? e = some i) (hz : b1O P e = some z) (hzl : z.length = i.size) (hp : 0 < i.size)
   (hd : d < 1000) (h : SimAt E n ψ s a w) (hk : stp P d s K (.mks i.size i.bytes z l c)) (hnil : b8K z = none) : Does P E n ⟨dst, .makeSlice t l c, ty, pos, af, g⟩ a w K := by
 simp only [stp, hnil] at hk
 have hl := h.ev l
 have hc := h.ev c
 split at hk
 · rename_i kl m kc q zi h1 h2 hzi
   obtain ⟨h0, rfl, h62, hb, hk⟩ := hk
   rw [h1] at hl
   rw [h2] at hc
   have el := b2o hl
   have ec := b2o hc
   obtain ⟨i', zv, z1, z2, rfl⟩ := a4x hz
   rw [hi] at z1; cases z1
   have hsz : zv.cells.size = i.size := by rw [a5w] at hzl; simpa using hzl
   have hd' := h.drop (id := d) hd
   obtain ⟨g1, g2⟩ := ivz (A := Im E ψ (s.drop d).hp) (ψ := ψ) (H := (s.drop d).hp) (w := w) (vs := zv.cells.toList) hzi (by rw [a5w]) (fun i x hx => by
     obtain ⟨sz, e⟩ := a6w _ _ _ _ hx
     rw [e]; exact c2C _ _)
   have hzil : zi.length = i.size := by rw [g1, hzl]
   have hrun := run_make (P := P) w t e i zv hu hi z2 kl kc q q h0 (Int.le_refl _) (by omega) (by omega)
   have hms : (madeCells zv.cells (q.toNat * i.size)).size = q.toNat * i.size := by rw [size_madeCells]
   refine c2E (sz := i.size) (xs := List.replicate q.toNat zi) (c := madeCells zv.cells (q.toNat * i.size)) (t := e) (cap := q.toNat) (w1 := w) hd hd' (a9w s d) (fun x hx => ?_) (by rw [hms, List.length_replicate]; exact Nat.le_refl _) (by simp) (by rw [hms]; exact Nat.le_refl _) (by omega) (fun j k x hx => ?_) (Ext.refl w) ?_ (by simpa using hk)
   · rw [List.eq_of_mem_replicate hx]; exact hzil
   · obtain ⟨row, hr1, hr2⟩ := c3e hx
     have hj : j < q.toNat := by have := (List.getElem?_eq_some_iff.1 hr1).1; simpa using this
     have hrow : row = zi := List.eq_of_mem_replicate (List.mem_of_getElem? hr1)
     subst hrow
     have hkl : k < i.size := by rw [← hzil]; exact (List.getElem?_eq_some_iff.1 hr2).1
     rw [← hsz, c9M _ _ _ _ hj (by omega), ← a7w]
     exact g2 k x hr2
   · simp only [execOp, el, ec, Sem.run_bind, hrun, Result.andThen_ok, Sem.run_pure, List.length_replicate]
 · exact hk.elim
theorem c1N {sz sz' : Nat} {v : Value} (h : zav sz' v = .nil sz) : v = .slice none 0 0 := by
 unfold zav at h
 split at h
 · rfl
 · cases h
 · cases h
 · cases h
theorem c2N {o : Oper} {sz m : Nat} {c : Array Value} {t : TypeId} (hd : d < 1000) (h : SimAt E n ψ s a w) (hno : look s.hp d = none)
   (hlen : c.size = m) (hcm : m < 2 ^ 63) (hc : ∀ i, i < m → c.getD i undef = .slice none 0 0)
   (hr : (execOp a.eval o).run P w = .ok (.value (.slice (some ⟨w.heap.size, 0, none⟩) m m)) (w.alloc (.cells c t)))
   (hk : K (s.add d (.listo sz (List.replicate m []) none)) (.sl d 1 0 m)) : Does P E n o a w K := by
 have hx2 : Ext w (w.alloc (.cells c t)) := Ext.alloc _ _
 have h2 := h.new (o := .listo sz (List.replicate m []) none) (p := some (w.heap.size, (0, c.size))) hd hno hx2 (fun b k e => by cases e; exact Nat.le_refl _)
   ⟨by simp, w.heap.size, (0, c.size), c, t, fun _ => none, by simp [upd], a0x _ _, by simp, by simp [hlen], fun i x hx' _ => (by
     rw [List.getElem?_replicate] at hx'
     split at hx'
     · rename_i him
       cases hx'
       exact ⟨by simp, .inl ⟨rfl, rfl, by rw [Nat.zero_add]; exact hc i him⟩⟩
     · cases hx'), by simp, by simp⟩
 refine c8C hr hk h2 (.sl d 1 0 m w.heap.size (0, c.size) m _ (.listo sz (List.replicate m []) none) m (by simp [c4G]) (by simp [Ob.dim]) (by omega) (by simp [upd]) (fun _ => by simp) (Nat.le_refl _) (by simp [hlen]) hcm)
theorem c3N {t e : TypeId} {l c : Operand} {i : TypeInfo} {z : List AV} (hu : P.underlying t = some (.slice e)) (hi : P.info? e = some i) (hz : b1O P e = some z) (hzl : z.length = i.size) (hp : 0 < i.size)
   (hd : d < 1000) (h : SimAt E n ψ s a w) (hk : stp P d s K (.mks i.size i.bytes z l c)) : Does P E n ⟨dst, .makeSlice t l c, ty, pos, af, g⟩ a w K := by
 cases hnil : b8K z with
 | some sz' =>
   simp only [stp, hnil] at hk
   have hz0 := b9K hnil
   have hl := h.ev l
   have hc := h.ev c
   split at hk
   · rename_i kl m kc q h1 h2
     obtain ⟨h0, rfl, h62, hb, hs1, hk⟩ := hk
     rw [h1] at hl
     rw [h2] at hc
     have el := b2o hl
     have ec := b2o hc
     obtain ⟨i', zv, z1, z2, hzz⟩ := a4x hz
     rw [hi] at z1; cases z1
     rw [hz0] at hzz
     have hsz : zv.cells.size = 1 := by
       have := congrArg List.length hzz
       rw [a5w] at this
       simpa using this.symm
     have hd' := h.drop (id := d) hd
     have hzv : zv.cells.toList = [.slice none 0 0] := by
       have hl1 : zv.cells.toList.length = 1 := by simpa using hsz
       match hv : zv.cells.toList, hl1 with
       | [v], _ =>
         rw [hv] at hzz
         cases hcs : b9N P 20 e with
         | nil => rw [hcs] at hzz; simp only [b0O, List.cons.injEq, and_true] at hzz; rw [c1N hzz.symm]
         | cons x y => rw [hcs] at hzz; simp only [b0O, List.cons.injEq, and_true] at hzz; rw [c1N hzz.symm]
     have hrun := run_make (P := P) w t e i zv hu hi z2 kl kc q q h0 (Int.le_refl _) (by omega) (by omega)
     rw [hs1] at hrun
     have hms : (madeCells zv.cells (q.toNat * 1)).size = q.toNat := by rw [size_madeCells]; omega
     refine c2N (sz := sz') (m := q.toNat) (c := madeCells zv.cells (q.toNat * 1)) (t := e) hd hd' (a9w s d) hms (by omega) (fun j hj => ?_) ?_ hk
     · have := c9M zv.cells q.toNat j 0 hj (by omega)
       rw [hsz, Nat.mul_one, Nat.mul_one, Nat.add_zero] at this
       rw [Nat.mul_one, this, ← a7w, hzv]; rfl
     · simp only [execOp, el, ec, Sem.run_bind, hrun, Result.andThen_ok, Sem.run_pure]
   · exact hk.elim
 | none => exact c0N hu hi hz hzl hp hd h hk hnil
end
end Go.Vm
end

section
namespace Go.Vm
section
variable {P : Program} {E : En} {n : Nat} {ψ : Pl} {s : St} {a : Act} {w : World}
variable {dst : Option Nat} {ty : TypeId} {pos : String} {af : Array Edge} {g : Option (Nat × Bool)} {r : Rhs} {d : Nat} {K : St → AV → Prop}
theorem b2w : ∀ (z : List AV) (l : List IV), allO AV.iv? z = some l → z.mapM AV.iv? = some l
 | [], l, h => by simpa [allO] using h
 | x :: r, l, h => by
   simp only [allO] at h
   split at h
   · rename_i y hy
     cases hr : allO AV.iv? r with
     | none => rw [hr] at h; cases h
     | some l' =>
       rw [hr] at h
       simp only [Option.map_some, Option.some.injEq] at h
       subst h
       rw [List.mapM_cons, hy, b2w r l' hr]; rfl
   · cases h
theorem b3w {A : Nat → Prop} {H : Hp} {c : List IV} {v : Value} {ag : Bool} (hg : c6v v = ag) (hl : v.cells.size = c.length) (hc : ∀ i x, c[i]? = some x → RIV A w x (v.cells.getD i undef)) :
   RAV A ψ H w (b7O ag (c.map .iv)) v :=
 b6S hg (by simpa using hl) fun i x hx => by
   rw [List.getElem?_map] at hx
   cases hi : c[i]? with
   | none => rw [hi] at hx; cases hx
   | some y => rw [hi] at hx; cases hx; exact .iv _ _ (hc i y hi)
theorem b4w {t k' e' : TypeId} {m k : Operand} {sk : Sk} {z : List AV} (hu : P.underlying t = some (.map k' e')) (hsk : skT P k' e' = some sk) (hz : b1O P e' = some z)
   (hza : ((P.info? e').bind (·.zero)).map c6v = some (b2O P e')) (h : SimAt E n ψ s a w) (hk : stp P d s K (.ment sk z m k)) :
   Does P E n ⟨dst, .mapEntry t m k, ty, pos, af, g⟩ a w K := by
 simp only [stp] at hk
 obtain ⟨p1, p2, p3, p4⟩ := b4S hsk
 have hm := h.ev m
 have hkv := h.ev k
 split at hk
 · rename_i id sk2 kk zi hme hkey hzi
   split at hk
   · rename_i sk1 gm ho
     obtain ⟨rfl, rfl, hk⟩ := hk
     obtain ⟨hk1, hk2⟩ := b1S hkv hkey
     rw [p3] at hk1
     rw [hme] at hm
     obtain ⟨b, es, clock, hb, hh, hbn, hr⟩ := h.obs id _ ho
     have hmv : a.eval m = .map (some b) := by
       generalize a.eval m = vm at hm
       cases hm with
       | mpr _ b' q o' ho' hb' => rw [hb] at hb'; cases hb'; rfl
     have hall : ∀ e ∈ es.toList, skOf e.key = some (b2O P k', sk1.2.1) := fun e he => by rw [← p3]; exact (hr.1 e he).1
     have run : ∀ v w', (Instr.mapEntry t (.map (some b)) (a.eval k)).run P w = .ok v w' → (execOp a.eval ⟨dst, .mapEntry t m k, ty, pos, af, g⟩).run P w = .ok (.value v) w' := by
       intro v w' hrun
       simp only [execOp, hmv, Sem.run_bind, hrun, Result.andThen_ok, Sem.run_pure]
     have tupw : ∀ {A : Nat → Prop} {ψ : Pl} {H : Hp} {w : World} {x : AV} {v : Value} {q : Nat}, RAV A ψ H w x v → RAV A ψ H w (.tup [x, .iv (.v (.int .i64 q))]) (.tuple #[v, goInt q]) := by
       intro A ψ H w x v q hx
       refine .tup _ _ rfl fun i c hc => ?_
       match i, hc with
       | 0, hc => cases hc; exact hx
       | 1, hc => cases hc; exact c2D rfl
     have hlt : b < w.heap.size := c7v hh
     have chg : ∀ (gm' : List Value → Option (List IV)) (es' : Array MapEntry) (clock' : Nat) (q : Int), Born es' clock' →
         (∀ {A' : Nat → Prop} {w' : World}, (∀ x v, RIV (Im E ψ s.hp) w x v → RIV A' w' x v) → RMap A' w' sk1 gm' es') → (∃ e ∈ es'.toList, (e.born : Int) = q ∧ c5v e.key = kk) →
         SimAt E n ψ (s.add id (.mapS sk1 gm' q kk)) a { w with heap := w.heap.setIfInBounds b (.map es' clock') } := by
       intro gm' es' clock' q h1 h2 h3
       refine h.chg (o' := .mapS sk1 gm' q kk) (k := (0, 0)) ho (Ob.le_none rfl) rfl (by simp [Ob.multi]) hb (fun i hi => ?_) (by simp) ⟨rfl, rfl, rfl, Nat.le_refl _⟩ (fun _ tr => ⟨b, es', clock', hb, ?_, h1, h2 tr, h3⟩)
       · show (w.heap.setIfInBounds b _)[i]? = _
         rw [Array.getElem?_setIfInBounds_ne (Ne.symm hi)]
       · show (w.heap.setIfInBounds b _)[b]? = _
         simp [hlt]
     rcases c0L (w := w) p1 p2 hk1 es.toList hall with ⟨h1, h2⟩ | ⟨j, e, h1, h2, h3⟩
     · have hno : ∀ e ∈ es.toList, c5v e.key ≠ c5v (a.eval k) := fun e he hkk => h2 e he (c1K (hall e he) hk1 hkk)
       have hgn : gm kk = none := by
         cases hc : gm kk with
         | none => rfl
         | some c =>
           obtain ⟨e, he, g1, _⟩ := hr.2.2.2 kk c hc
           exact absurd (g1.trans hk2.symm) (hno e he)
       obtain ⟨i, zv, z1, z2, rfl⟩ := a4x hz
       rw [z1] at hza
       simp only [Option.bind_some, z2, Option.map_some, Option.some.injEq] at hza
       have hzc : ∀ {A : Nat → Prop} {w : World}, zi.length = zv.cells.toList.length ∧ ∀ i x, zi[i]? = some x → RIV A w x (zv.cells.toList.getD i undef) := by
         intro A w
         have := ivz (A := A) (H := []) (w := w) (vs := zv.cells.toList) (b2w _ _ hzi) (by rw [a5w]) (fun i x hx => by
           obtain ⟨sz, e⟩ := a6w _ _ _ _ hx
           rw [e]
           exact c2C (ψ := ψ) _ _)
         rw [a5w] at this
         exact this
       have hl : zv.cells.size = zi.length := by rw [(hzc (A := fun _ => True) (w := w)).1]; simp
       have hzc' : ∀ {A : Nat → Prop} {w : World}, ∀ i x, zi[i]? = some x → RIV A w x (zv.cells.getD i undef) := fun {A w} i x hx => by rw [← a7w]; exact (hzc (A := A) (w := w)).2 i x hx
       rw [hgn, Option.getD_none] at hk
       have hsim := chg (gset gm kk (some zi)) (es.push { key := a.eval k, val := zv, born := clock }) (clock + 1) clock (hbn.push _ rfl)
         (fun tr => by
           rw [← hk2]
           exact hr.push tr (e := { key := a.eval k, val := zv, born := clock }) hno ⟨by rw [p3]; exact hk1, by rw [p4]; exact hza⟩ hl (fun i y hy => hzc' i y hy))
         ⟨{ key := a.eval k, val := zv, born := clock }, by simp, rfl, hk2⟩
       refine c8C (run (.tuple #[zv, goInt clock]) _ ?_) (hk clock) hsim (tupw (b3w (by rw [p4]; exact hza) hl (fun i y hy => hzc' i y hy)))
       unfold Instr.mapEntry
       simp only [Sem.run_bind, Vm.run_underlying w hu, Result.andThen_ok, b7R hh, b9M p1 p2 hk1, h1, a5x z1 z2, b8R _ hh, Sem.run_pure]
     · have he : e ∈ es.toList := List.mem_of_getElem? h2
       have heg : es[j]? = some e := by rw [← Array.getElem?_toList]; exact h2
       obtain ⟨c, hgc⟩ := hr.2.1 e he
       rw [h3, hk2] at hgc
       obtain ⟨e2, he2, g1, g2, g3⟩ := hr.2.2.2 kk c hgc
       have hee : e2 = e := b2S hr.2.2.1 e2 he2 e he (by rw [g1, h3, hk2])
       subst hee
       rw [hgc, Option.getD_some] at hk
       have hmod : (es.modify j fun e => { e with key := a.eval k }) = es := by
         apply Array.ext'
         apply List.ext_getElem?
         intro i
         rw [Array.getElem?_toList, Array.getElem?_toList, Array.getElem?_modify]
         split
         · rename_i hji
           subst hji
           rw [heg]
           simp [← h3]
         · rfl
       have hgs : gset gm kk (some c) = gm := by
         funext q
         by_cases hq : q = kk
         · subst hq; rw [b0f, hgc]
         · rw [b1f _ _ hq]
       rw [hgs] at hk
       have hsim := chg gm es clock e2.born hbn (fun tr => hr.conv tr fun _ => rfl) ⟨e2, he2, rfl, g1⟩
       refine c8C (run (.tuple #[e2.val, goInt e2.born]) _ ?_) (hk e2.born) hsim (tupw ?_)
       · unfold Instr.mapEntry
         have hst : (Instr.keyThatStays e2.key (a.eval k)).run P w = .ok (a.eval k) w := by
           unfold Instr.keyThatStays
           simp only [h3, b9e hk1, if_true, Sem.run_pure]
         simp only [Sem.run_bind, Vm.run_underlying w hu, Result.andThen_ok, b7R hh, b9M p1 p2 hk1, h1, heg, Option.map_some, Option.getD_some, hst, hmod, b8R _ hh, Sem.run_pure]
       · have := hsim.obs id _ (by rw [c4G, if_pos rfl])
         obtain ⟨b', es', clock', q1, q2, _, q3, _⟩ := this
         rw [hb] at q1; cases q1
         have : (w.heap.setIfInBounds b (.map es clock))[b]? = some (.map es clock) := by simp [hlt]
         rw [this] at q2; cases q2
         obtain ⟨e3, r1, r2, r3, r4⟩ := q3.2.2.2 kk c hgc
         have : e3 = e2 := b2S hr.2.2.1 e3 r1 e2 he2 (by rw [r2, g1])
         subst this
         exact b3w (by exact (hr.1 e3 he2).2) r3 r4
   · exact hk.elim
 · exact hk.elim
theorem b5w {t : TypeId} {m st x : Operand} (h : SimAt E n ψ s a w) (hk : stp P d s K (.est m st x)) : Does P E n ⟨dst, .entryStore t m st x, ty, pos, af, g⟩ a w K := by
 simp only [stp] at hk
 have hf := h.frz [s.ev x]
 generalize s.frz [s.ev x] = s1 at hk hf
 have hm := hf.ev m
 have hsv := hf.ev st
 have hx := hf.ev x
 split at hk
 · rename_i id ki n' c hme hst hcs
   split at hk
   · rename_i sk gm q kk ho
     obtain ⟨rfl, hag, hk⟩ := hk
     rw [hme] at hm
     rw [hst] at hsv
     have hsv := b2o hsv
     obtain ⟨b, es, clock, hb, hh, hbn, hr, e, he, hen, hek⟩ := hf.obs id _ ho
     have hmv : a.eval m = .map (some b) := by
       generalize a.eval m = vm at hm
       cases hm with
       | mpr _ b' q o' ho' hb' => rw [hb] at hb'; cases hb'; rfl
     cases hc1 : (s1.ev x).cellsOf with
     | none => rw [hc1] at hcs; cases hcs
     | some cs =>
       rw [hc1] at hcs
       simp only [Option.bind_some] at hcs
       obtain ⟨g1, g2⟩ := a8w hx hc1
       obtain ⟨v1, v2⟩ := a9s hf (vs := (a.eval x).cells.toList) (by simpa using g1) (fun i y hy => by rw [a7w]; exact g2 i y hy) hcs
       have hl : (a.eval x).cells.size = c.length := by rw [v1]; exact g1
       have hv : c6v (a.eval x) = sk.2.2 := by rw [b4f hx hc1]; exact hag
       have v2' : ∀ i y, c[i]? = some y → RIV (Im E ψ s1.hp) w y ((a.eval x).cells.getD i undef) := fun i y hy => by rw [← a7w]; exact v2 i y hy
       obtain ⟨j, hj⟩ := List.getElem?_of_mem he
       have heg : es[j]? = some e := by rw [← Array.getElem?_toList]; exact hj
       have hfind : es.findIdx? (fun e => (e.born : Int) == n') = some j := by
         rw [Array.findIdx?_eq_some_iff_getElem]
         obtain ⟨hjl, hje⟩ := List.getElem?_eq_some_iff.1 hj
         refine ⟨by simpa using hjl, by simp only [Array.getElem_toList] at hje; rw [hje]; simpa using hen, fun i hi => ?_⟩
         have hil : i < es.toList.length := by omega
         intro heq
         have h1 : (es.toList.map (·.born))[i]? = some e.born := by
           rw [List.getElem?_map, List.getElem?_eq_getElem hil]
           simp only [Option.map_some, Option.some.injEq]
           have : (es.toList[i].born : Int) = n' := by simpa using heq
           omega
         have h2 : (es.toList.map (·.born))[j]? = some e.born := by rw [List.getElem?_map, hj]; rfl
         obtain ⟨a1, a2⟩ := List.getElem?_eq_some_iff.1 h1
         obtain ⟨b1, b2⟩ := List.getElem?_eq_some_iff.1 h2
         exact List.pairwise_iff_getElem.1 hbn.2 i j a1 b1 hi (a2.trans b2.symm)
       have hlt : b < w.heap.size := c7v hh
       have hsim : SimAt E n ψ (s1.add id (.map sk (gset gm kk (some c)))) a { w with heap := w.heap.setIfInBounds b (.map (es.modify j fun e => { e with val := a.eval x }) clock) } := by
         refine hf.chg (o' := .map sk (gset gm kk (some c))) (k := (0, 0)) ho (Ob.le_none rfl) rfl (by simp [Ob.multi]) hb (fun i hi => ?_) (by simp) ⟨rfl, rfl, rfl, Nat.le_refl _⟩
           (fun _ tr => ⟨b, es.modify j fun e => { e with val := a.eval x }, clock, hb, ?_, hbn.modify j (fun e => { e with val := a.eval x }) (fun _ => rfl), by have hmm := hr.modify tr heg hv hl (fun i y hy => tr _ _ (v2' i y hy)); rw [hek] at hmm; exact hmm⟩)
         · show (w.heap.setIfInBounds b _)[i]? = _
           rw [Array.getElem?_setIfInBounds_ne (Ne.symm hi)]
         · show (w.heap.setIfInBounds b _)[b]? = _
           simp [hlt]
       refine c9C ?_ hk hsim
       simp only [execOp, hmv, hsv]
       have : (Instr.entryStore t (.map (some b)) (.int ki n') (a.eval x)).run P w = .ok () { w with heap := w.heap.setIfInBounds b (.map (es.modify j fun e => { e with val := a.eval x }) clock) } := by
         unfold Instr.entryStore
         simp only [Sem.run_bind, b7R hh, Result.andThen_ok]
         have : (asInt (.int ki n')).run P w = .ok n' w := rfl
         rw [this]
         simp only [Result.andThen_ok, hfind, b8R _ hh]
       rw [Sem.run_bind, this]; rfl
   · exact hk.elim
 · exact hk.elim
end
end Go.Vm
end

section
namespace Go.Vm
open Go.ChangeMaps (setBlock)
section
variable {P : Program} {E : En} {n : Nat} {ψ : Pl} {s : St} {a : Act} {w : World}
variable {dst : Option Nat} {ty : TypeId} {pos : String} {af : Array Edge} {g : Option (Nat × Bool)} {r : Rhs} {d : Nat} {K : St → AV → Prop}
theorem b6s {A : Nat → Prop} {sk : Sk} {gm : List Value → Option (List IV)} {v : Value} (h : RIV A w (.mp sk gm) v) :
   (v = .map none ∧ ∀ k, gm k = none) ∨ ∃ b es clock, v = .map (some b) ∧ A b ∧ w.heap[b]? = some (.map es clock) ∧ Born es clock ∧ RMap A w sk gm es := by
 cases h with
 | mp _ _ b clock es vs hA hh hsk hin hno hst hg hrr =>
   refine .inr ⟨b, es, clock, rfl, hA, hh, hst, hsk, hin, hno, fun k c hc => ?_⟩
   obtain ⟨e, he, g1, g2, g3⟩ := hg k c hc
   refine ⟨e, he, g1, g2, fun i y hy => ?_⟩
   have := g3 i y hy
   rw [show e.val.cells.getD i undef = vs k i from by simp [Array.getD_eq_getD_getElem?, this]]
   exact hrr k c hc i y hy
 | mnil _ _ hn => exact .inl ⟨rfl, hn⟩
theorem b7s {v : Value} {ag : Bool} {ks : List Kd} (h : skOf v = some (ag, ks)) : (c5v v).mapM kdOf = some ks := by
 rcases c0K h with ⟨cs, rfl, _, h1, h2⟩ | ⟨k, _, rfl, h1, h2⟩
 · rw [h2]; exact h1
 · rw [h2]; simp [h1]
theorem b8s {v : Value} {k : Kd} (h : kdOf v = some k) : v.oneCell' = true := (c9J h).2.1
theorem b9s : ∀ {l : List Value} {ks : List Kd}, l.mapM kdOf = some ks → ∀ x ∈ l, ∃ k, kdOf x = some k
 | [], _, _, x, hx => by cases hx
 | y :: r, ks, h, x, hx => by
   rw [List.mapM_cons] at h
   cases h1 : kdOf y with
   | none => rw [h1] at h; cases h
   | some k1 =>
     rw [h1] at h
     cases h2 : r.mapM kdOf with
     | none => rw [h2] at h; cases h
     | some k2 =>
       rcases List.mem_cons.1 hx with rfl | hx
       · exact ⟨k1, h1⟩
       · exact b9s h2 x hx
theorem b0t {A : Nat → Prop} {H : Hp} {v : Value} {ag : Bool} {ks : List Kd} (h : skOf v = some (ag, ks)) : RAV A ψ H w (b7O ag ((c5v v).map fun v => .iv (.v v))) v := by
 have hk := b7s h
 refine b6S ?_ (by simp [c5v]) fun i x hx => ?_
 · rcases c0K h with ⟨cs, rfl, rfl, _, _⟩ | ⟨k, rfl, _, h1, _⟩
   · rfl
   · cases v <;> first | rfl | simp [kdOf] at h1
 · rw [List.getElem?_map] at hx
   cases hi : (c5v v)[i]? with
   | none => rw [hi] at hx; cases hx
   | some y =>
     rw [hi] at hx; cases hx
     obtain ⟨k, hk'⟩ := b9s hk y (List.mem_of_getElem? hi)
     have e : v.cells.getD i undef = y := by
       rw [← a7w]
       have : v.cells.toList[i]? = some y := hi
       simp [List.getD, this]
     rw [e]
     exact c2D (b8s hk')
theorem b1t {t k' e' : TypeId} {x : Operand} {sk : Sk} (hu : P.underlying t = some (.map k' e')) (hd : d < 1000) (h : SimAt E n ψ s a w) (hk : stp P d s K (.rng sk x)) :
   Does P E n ⟨dst, .range t x, ty, pos, af, g⟩ a w K := by
 simp only [stp] at hk
 have hf := (h.frz [s.ev x]).drop (id := d) hd
 have hno := a9w (s.frz [s.ev x]) d
 generalize (s.frz [s.ev x]).drop d = s1 at hk hf hno
 have hx := hf.ev x
 split at hk
 · rename_i sk' gm hxe
   obtain ⟨rfl, hk⟩ := hk
   rw [hxe] at hx
   have hr : RIV (Im E ψ s1.hp) w (.mp sk' gm) (a.eval x) := by cases hx with | iv _ _ h => exact h
   rcases b6s hr with ⟨hv, hn⟩ | ⟨b, es, clock, hv, hA, hh, hbn, hm⟩
   · have h2 := hf.new (o := .iter sk' gm [] none) (p := some (w.heap.size, (0, 0))) hd hno (Ext.alloc w (.mapIter none 0 #[] 0)) (fun b k e => by cases e; exact Nat.le_refl _)
       ⟨w.heap.size, none, 0, #[], 0, by simp [upd], a0x _ _, .inl ⟨rfl, rfl, rfl, hn⟩⟩
     refine c8C (v := .pointer (some ⟨w.heap.size, 0, none⟩)) (w' := w.alloc (.mapIter none 0 #[] 0)) ?_ (hk [] (by simp) (by simp [hn]) (by simp)) h2 (.ptr d 0 w.heap.size (0, 0) _ (by simp [c4G]; rfl) (by simp [upd]))
     simp only [execOp, hv, Sem.run_bind, run_range_nilMap w t k' e' hu, Result.andThen_ok, Sem.run_pure]
   · have hmk : ∀ q, q ∈ es.toList.map (fun e => c5v e.key) ↔ gm q ≠ none := by
       intro q
       constructor
       · intro hq
         obtain ⟨e, he, rfl⟩ := List.mem_map.1 hq
         obtain ⟨c, hc⟩ := hm.2.1 e he
         rw [hc]; simp
       · intro hq
         cases hc : gm q with
         | none => exact absurd hc hq
         | some c =>
           obtain ⟨e, he, g1, _⟩ := hm.2.2.2 q c hc
           exact List.mem_map.2 ⟨e, he, g1⟩
     have hbl : b < w.heap.size := c7v hh
     have h2 := hf.new (o := .iter sk' gm (es.toList.map fun e => c5v e.key) none) (p := some (w.heap.size, (0, 0))) hd hno (Ext.alloc w (.mapIter (some b) clock #[] clock)) (fun b k e => by cases e; exact Nat.le_refl _)
       ⟨w.heap.size, some b, clock, #[], clock, by simp [upd], a0x _ _, .inr ⟨b, es, rfl, ⟨hbl, hA⟩, by rw [(Ext.alloc w _).block b hbl]; exact hh, rfl, hbn,
         hm.mono (fun b hb hi => ⟨hb, hi⟩) (fun b hb _ => (Ext.alloc w _).block b hb), hm.2.2.1, fun e he => ⟨fun _ => by simp, fun _ => List.mem_map.2 ⟨e, he, rfl⟩⟩, fun q hq => by
           obtain ⟨e, he, rfl⟩ := List.mem_map.1 hq
           exact ⟨e, he, rfl⟩, .inl rfl⟩⟩
     refine c8C (v := .pointer (some ⟨w.heap.size, 0, none⟩)) (w' := w.alloc (.mapIter (some b) clock #[] clock)) ?_
       (hk (es.toList.map fun e => c5v e.key) hm.2.2.1 hmk (fun q hq => by
         obtain ⟨e, he, rfl⟩ := List.mem_map.1 hq
         exact b7s (hm.1 e he).1)) h2 (.ptr d 0 w.heap.size (0, 0) _ (by simp [c4G]; rfl) (by simp [upd]))
     simp only [execOp, hv, Sem.run_bind, run_range_map w t k' e' b es clock hu hh, Result.andThen_ok, Sem.run_pure]
 · exact hk.elim
theorem b2t {k q : List Value} {l : List (List Value)} : q ∈ rmk k l ↔ q ∈ l ∧ q ≠ k := by
 classical
 simp [rmk]
theorem b3t {k : List Value} {l : List (List Value)} (h : l.Nodup) : (rmk k l).Nodup := h.sublist (List.filter_sublist)
theorem b4t {k : List Value} {l : List (List Value)} (h : k ∈ l) : (rmk k l).length < l.length := by
 classical
 unfold rmk
 rw [← List.countP_eq_length_filter]
 refine Nat.lt_of_le_of_ne List.countP_le_length fun e => ?_
 have := List.countP_eq_length.1 e k h
 simp at this
theorem b5t {A : Nat → Prop} {H : Hp} {x y : AV} {u v : Value} (hx : RAV A ψ H w x u) (hy : RAV A ψ H w y v) : RAV A ψ H w (.tup [x, y]) (.tuple #[u, v]) := by
 refine .tup _ _ rfl fun i c hc => ?_
 match i, hc with
 | 0, hc => cases hc; exact hx
 | 1, hc => cases hc; exact hy
theorem b6t {A : Nat → Prop} {H : Hp} {x y z : AV} {u v t : Value} (hx : RAV A ψ H w x u) (hy : RAV A ψ H w y v) (hz : RAV A ψ H w z t) : RAV A ψ H w (.tup [x, y, z]) (.tuple #[u, v, t]) := by
 refine .tup _ _ rfl fun i c hc => ?_
 match i, hc with
 | 0, hc => cases hc; exact hx
 | 1, hc => cases hc; exact hy
 | 2, hc => cases hc; exact hz
theorem b7t {x : Operand} (h : SimAt E n ψ s a w) (hk : stp P d s K (.nxt x)) : Does P E n ⟨dst, .next x false, ty, pos, af, g⟩ a w K := by
 simp only [stp] at hk
 have hx := h.ev x
 split at hk
 · rename_i id hxe
   rw [hxe] at hx
   obtain ⟨b0, k0, o0, hlo, hb0, hv⟩ := b3o hx
   split at hk
   · rename_i sk gm left last ho
     obtain ⟨hk0, hk1⟩ := hk
     obtain ⟨b, m, since, stamps, lastc, hb, hh, hcase⟩ := h.obs id _ ho
     have e0 : b0 = b := by rw [hb] at hb0; cases hb0; rfl
     rw [e0] at hv
     have run : ∀ v w', (Instr.next (.pointer (some ⟨b, 0, none⟩)) false ty).run P w = .ok v w' → (execOp a.eval ⟨dst, .next x false, ty, pos, af, g⟩).run P w = .ok (.value v) w' := by
       intro v w' hrun
       simp only [execOp, hv, Sem.run_bind, hrun, Result.andThen_ok, Sem.run_pure]
     have one : ∀ {A : Nat → Prop} {ψ : Pl} {H : Hp} {w : World}, RAV A ψ H w (.tup [.iv (.v (.bool false))]) (.tuple #[.bool false]) := by
       intro A ψ H w
       refine .tup _ _ rfl fun i c hc => ?_
       match i, hc with
       | 0, hc => cases hc; exact c2D rfl
     rcases hcase with ⟨rfl, rfl, rfl, hn⟩ | ⟨bm, es, rfl, hA, hm, rfl, hbn, hr, hnd, hl1, hl2, hl3⟩
     · refine c8C (run _ w ?_) (hk0 rfl) h one
       simp only [Instr.next, getObj, Sem.run_bind, Sem.run, hh, Result.andThen]
       rfl
     · rcases run_next_at (P := P) w ty b bm lastc lastc stamps es lastc hh hm hbn.1 (Nat.le_refl _) with ⟨h0, hrun⟩ | ⟨e, he, w1, hw1, hrun⟩
       · have hleft : left = [] := by
           cases hlc : left with
           | nil => rfl
           | cons q r =>
             exfalso
             obtain ⟨e, he, hq⟩ := hl2 q (by rw [hlc]; simp)
             have := (hl1 e he).1 (by rw [hq, hlc]; simp)
             have hmem : e ∈ leftOf es stamps := by
               unfold leftOf
               simp only [Array.mem_filter, Bool.not_eq_true', Array.contains_eq_mem, decide_eq_false_iff_not]
               exact ⟨by simpa using he, by simpa using this⟩
             have := Array.size_pos_of_mem hmem
             omega
         subst hleft
         exact c8C (run _ w hrun) (hk0 rfl) h one
       · have he' : e ∈ es.toList ∧ e.born ∉ stamps.toList := by
           have : e ∈ leftOf es stamps := by simpa using he
           unfold leftOf at this
           simp only [Array.mem_filter, Bool.not_eq_true', Array.contains_eq_mem, decide_eq_false_iff_not] at this
           exact ⟨by simpa using this.1, by simpa using this.2⟩
         obtain ⟨he1, he2⟩ := he'
         have hin : c5v e.key ∈ left := (hl1 e he1).2 he2
         obtain ⟨c, hc⟩ := hr.2.1 e he1
         obtain ⟨e2, q1, q2, q3, q4⟩ := hr.2.2.2 _ c hc
         have : e2 = e := b2S hr.2.2.1 e2 q1 e he1 q2
         subst this
         have hkk := hk1 (c5v e2.key) c hin hc (b7s (hr.1 e2 he1).1)
         have hblt : b < w.heap.size := c7v hh
         have hw1s : w1.heap = w.heap ∧ w1.os = w.os ∧ w1.tape = w.tape ∧ w1.output = w.output ∧ w.drawn ≤ w1.drawn := by rcases hw1 with rfl | rfl <;> first | exact ⟨rfl, rfl, rfl, rfl, Nat.le_refl _⟩ | exact ⟨rfl, rfl, rfl, rfl, Nat.le_succ _⟩
         have hne : bm ≠ b := by rintro rfl; rw [hh] at hm; cases hm
         have hsim : SimAt E n ψ (s.add id (.iter sk gm (rmk (c5v e2.key) left) (some (c5v e2.key)))) a (setBlock w1 b (.mapIter (some bm) lastc (stamps.push e2.born) lastc)) := by
           refine h.chg (o' := .iter sk gm (rmk (c5v e2.key) left) (some (c5v e2.key))) (k := (0, 0)) ho (Ob.le_none rfl) rfl (by simp [Ob.multi]) hb (fun i hi => ?_) (by simp [setBlock, hw1s.1]) ⟨hw1s.2.1, hw1s.2.2.1, hw1s.2.2.2⟩
             (fun _ tr => ⟨b, some bm, lastc, stamps.push e2.born, lastc, hb, ?_, .inr ⟨bm, es, rfl, ?_, ?_, rfl, hbn, hr.conv tr fun _ => rfl, b3t hnd, fun e he => ?_, fun q hq => hl2 q (b2t.1 hq).1, .inr ⟨e2, he1, stamps, rfl, rfl⟩⟩⟩)
           · show (w1.heap.setIfInBounds b _)[i]? = _
             rw [Array.getElem?_setIfInBounds_ne (Ne.symm hi), hw1s.1]
           · show (w1.heap.setIfInBounds b _)[b]? = _
             rw [hw1s.1]; simp [hblt]
           · refine ⟨hA.1, ?_⟩
             rintro ⟨j, ob, hj, hq⟩
             rw [c4G] at hj
             by_cases e : id = j
             · subst e; exact hA.2 ⟨id, _, ho, hq⟩
             · rw [if_neg e] at hj; exact hA.2 ⟨j, ob, hj, hq⟩
           · show (w1.heap.setIfInBounds b _)[bm]? = _
             rw [Array.getElem?_setIfInBounds_ne (Ne.symm hne), hw1s.1]; exact hm
           · rw [b2t, hl1 e he, Array.toList_push, List.mem_append, List.mem_singleton]
             constructor
             · rintro ⟨h1, h2⟩ (h3 | h3)
               · exact h1 h3
               · have : (es.toList.map (·.born)).Nodup := hbn.2
                 exact h2 (congrArg (fun e => c5v e.key) (b2S this e he e2 he1 h3))
             · intro h1
               refine ⟨fun h2 => h1 (.inl h2), fun h2 => h1 (.inr ?_)⟩
               rw [b2S hr.2.2.1 e he e2 he1 h2]
         have hvals : ∀ i y, c[i]? = some y → RIV (Im E ψ (s.add id (.iter sk gm (rmk (c5v e2.key) left) (some (c5v e2.key)))).hp) (setBlock w1 b (.mapIter (some bm) lastc (stamps.push e2.born) lastc)) y (e2.val.cells.getD i undef) := by
           obtain ⟨b', m', si', st', lc', r1, r2, r3⟩ := hsim.obs id _ (by rw [c4G, if_pos rfl])
           rcases r3 with ⟨_, _, r3, _⟩ | ⟨bm', es', r4, _, r5, _, _, r6, _⟩
           · cases r3
           · rw [hb] at r1; cases r1
             have e1 : (setBlock w1 b (.mapIter (some bm) lastc (stamps.push e2.born) lastc)).heap[b]? = some (.mapIter (some bm) lastc (stamps.push e2.born) lastc) := by
               show (w1.heap.setIfInBounds b _)[b]? = _
               rw [hw1s.1]; simp [hblt]
             rw [e1] at r2; cases r2
             cases r4
             have e3 : (setBlock w1 b (.mapIter (some bm) lastc (stamps.push e2.born) lastc)).heap[bm]? = some (.map es lastc) := by
               show (w1.heap.setIfInBounds b _)[bm]? = _
               rw [Array.getElem?_setIfInBounds_ne (Ne.symm hne), hw1s.1]; exact hm
             rw [e3] at r5; cases r5
             obtain ⟨e4, t1, t2, t3, t4⟩ := r6.2.2.2 _ c hc
             have : e4 = e2 := b2S hr.2.2.1 e4 t1 e2 he1 t2
             subst this
             exact t4
         exact c8C (run _ _ hrun) hkk hsim (b6t (c2D rfl) (b0t (hr.1 e2 he1).1) (b3w (hr.1 e2 he1).2 q3 hvals))
   · exact hk.elim
 · exact hk.elim
theorem b8t {x : Operand} (h : SimAt E n ψ s a w) (hk : stp P d s K (.ent x)) : Does P E n ⟨dst, .entry x, ty, pos, af, g⟩ a w K := by
 simp only [stp] at hk
 have hx := h.ev x
 split at hk
 · rename_i id hxe
   rw [hxe] at hx
   obtain ⟨b0, k0, o0, hlo, hb0, hv⟩ := b3o hx
   split at hk
   · rename_i sk gm left k ho
     obtain ⟨b, m, since, stamps, lastc, hb, hh, hcase⟩ := h.obs id _ ho
     have e0 : b0 = b := by rw [hb] at hb0; cases hb0; rfl
     rw [e0] at hv
     rcases hcase with ⟨_, _, hl, _⟩ | ⟨bm, es, rfl, hA, hm, rfl, hbn, hr, hnd, hl1, hl2, hl3⟩
     · cases hl
     · rcases hl3 with hl3 | ⟨e, he, seen, rfl, hke⟩
       · cases hl3
       · simp only [Option.some.injEq] at hke
         subst hke
         obtain ⟨c, hc⟩ := hr.2.1 e he
         obtain ⟨e2, q1, q2, q3, q4⟩ := hr.2.2.2 _ c hc
         have : e2 = e := b2S hr.2.2.1 e2 q1 e he q2
         subst this
         refine c0D h ?_ (hk c hc) (b5t (b0t (hr.1 e2 he).1) (b3w (hr.1 e2 he).2 q3 q4))
         simp only [execOp, hv, Sem.run_bind, run_entry_at (P := P) w b bm lastc seen es lastc e2 hh hm he hbn.2, Result.andThen_ok, Sem.run_pure]
   · exact hk.elim
 · exact hk.elim
end
end Go.Vm
end

section
namespace Go.Vm
open Go.ChangeMaps (setBlock)
section
variable {P : Program} {E : En} {n : Nat} {ψ : Pl} {s : St} {a : Act} {w : World}
variable {dst : Option Nat} {ty : TypeId} {pos : String} {af : Array Edge} {g : Option (Nat × Bool)} {r : Rhs} {d : Nat} {K : St → AV → Prop}
theorem Subs.not_main {H : Hp} (h : Subs ψ H w) {id b : Nat} {o : Ob} (ho : look H id = some o) (hb : ψ.sub id b) (k : Nat × Nat) : ψ id ≠ some (b, k) := (h id o b ho hb).2.2 k
theorem b2V {β : Type} (g : List Value → Option β) (k : List Value) (c : Option β) : gset g k c k = c := by simp [gset]
theorem b3V {β : Type} (g : List Value → Option β) {k q : List Value} (c : Option β) (h : q ≠ k) : gset g k c q = g q := by simp [gset, h]
theorem SimAt.takeOut (h : SimAt E n ψ s a w) {id d : Nat} (hd : d < 1000) (hno : look s.hp d = none) {sk : Sk} {sz : Nat} {g : List Value → Option (List (List IV))}
   (ho : look s.hp id = some (.mapo sk sz g none)) {kk : List Value} {xs : List (List IV)} (hg : g kk = some xs) {b0 clock0 : Nat} {es0 : Array MapEntry} (hb0 : ψ id = some (b0, (0, 0))) (hh0 : w.heap[b0]? = some (.map es0 clock0))
   {e0 : MapEntry} (he0 : e0 ∈ es0.toList) (hk0 : c5v e0.key = kk) :
   ∃ ψ2, SimAt E n ψ2 ((s.add id (.mapo sk sz (gset g kk none) (some kk))).add d (.lent id sz xs)) a w ∧
     RAV (Im E ψ2 ((s.add id (.mapo sk sz (gset g kk none) (some kk))).add d (.lent id sz xs)).hp) ψ2 ((s.add id (.mapo sk sz (gset g kk none) (some kk))).add d (.lent id sz xs)).hp w (.sl d sz 0 xs.length) e0.val := by
 obtain ⟨b, es, clock, pl, h1, h2, h3, h4, h5, h6, h7, h8, h9, h10, h11⟩ := h.obs id _ ho
 rw [h1] at hb0; cases hb0
 rw [h2] at hh0; cases hh0
 obtain ⟨e9, he9, hk9, hsub⟩ := h9 kk xs hg
 have : e9 = e0 := b2S h6 e9 he9 e0 he0 (by rw [hk9, hk0])
 subst this
 have hne : id ≠ d := by rintro rfl; rw [ho] at hno; cases hno
 generalize hp : pl kk = p at hsub
 have hps : ∀ b q, p = some (b, q) → ψ.sub id b := fun b q e => h10 kk xs b q hg (hp.trans e)
 let ψ2 : Pl := ⟨fun j => if j = d then p else ψ j, fun j b => if j = id then ψ.sub id b ∧ ∀ q, p ≠ some (b, q) else j ≠ d ∧ ψ.sub j b⟩
 generalize hs2 : (s.add id (.mapo sk sz (gset g kk none) (some kk))).add d (.lent id sz xs) = s2
 have hlk : ∀ j, look s2.hp j = if d = j then some (.lent id sz xs) else if id = j then some (.mapo sk sz (gset g kk none) (some kk)) else look s.hp j := by
   intro j; rw [← hs2, c4G, c4G]
 have o1 : ∀ {b}, Owns ψ2 d b → ∃ q, p = some (b, q) := by
   intro b hb
   rcases hb with ⟨q, hb⟩ | hb
   · exact ⟨q, by simpa [ψ2] using hb⟩
   · simp [ψ2, Ne.symm hne] at hb
 have o2 : ∀ {b}, Owns ψ2 id b ↔ (∃ k, ψ id = some (b, k)) ∨ (ψ.sub id b ∧ ∀ q, p ≠ some (b, q)) := by
   intro b; simp [Owns, ψ2, hne]
 have o3 : ∀ {j b}, j ≠ d → j ≠ id → (Owns ψ2 j b ↔ Owns ψ j b) := by
   intro j b hj1 hj2; simp [Owns, ψ2, hj1, hj2]
 have oid : ∀ {b}, Owns ψ2 id b → Owns ψ id b := by
   intro b hb
   rcases o2.1 hb with h | h
   · exact .inl h
   · exact .inr h.1
 have od : ∀ {b}, Owns ψ2 d b → Owns ψ id b := by
   intro b hb
   obtain ⟨q, hq⟩ := o1 hb
   exact .inr (hps b q hq)
 have back : ∀ {j o b}, look s2.hp j = some o → Owns ψ2 j b → ∃ j' o', look s.hp j' = some o' ∧ Owns ψ j' b ∧ (j' = if j = d then id else j) := by
   intro j o b hj hb
   rw [hlk] at hj
   by_cases e1 : d = j
   · subst e1; exact ⟨id, _, ho, od hb, by simp⟩
   · rw [if_neg e1] at hj
     by_cases e2 : id = j
     · subst e2; exact ⟨id, _, ho, oid hb, by simp [hne]⟩
     · rw [if_neg e2] at hj; exact ⟨j, o, hj, (o3 (Ne.symm e1) (Ne.symm e2)).1 hb, by simp [Ne.symm e1]⟩
 have held : ∀ b, Held ψ2 s2.hp b → Held ψ s.hp b := by
   rintro b ⟨j, o, hj, hb⟩
   obtain ⟨j', o', q1, q2, _⟩ := back hj hb
   exact ⟨j', o', q1, q2⟩
 have hI : ∀ b, b < w.heap.size → Im E ψ s.hp b → Im E ψ2 s2.hp b := fun b _ hi => ⟨hi.1, fun hh => hi.2 (held b hh)⟩
 have hkeep : c9v ψ ψ2 s.hp s2.hp := by
   intro j o hj
   have hjd : j ≠ d := by rintro rfl; rw [hno] at hj; cases hj
   refine ⟨?_, by simp [ψ2, hjd]⟩
   by_cases e2 : id = j
   · subst e2
     rw [ho] at hj; cases hj
     exact ⟨_, by rw [hlk, if_neg (Ne.symm hjd), if_pos rfl], Ob.le_none rfl⟩
   · exact ⟨o, by rw [hlk, if_neg (Ne.symm hjd), if_neg e2]; exact hj, o.le_refl⟩
 have hψd : ψ2 d = p := by simp [ψ2]
 have hlkd : look s2.hp d = some (.lent id sz xs) := by rw [hlk, if_pos rfl]
 refine ⟨ψ2, { size := h.size, defers := h.defers.mono hI (fun _ _ _ => rfl), frame := fun t => ?_, obs := ?_, inj := ?_, own := ?_, subs := ?_, par := ?_, old := h.old, grow := h.grow, same := h.same }, ?_⟩
 · have : s2.get t = s.get t := by rw [← hs2]; rfl
   rw [this]
   exact (h.frame t).mono hI (fun _ _ _ => rfl) hkeep
 · intro j o hj
   rw [hlk] at hj
   by_cases e1 : d = j
   · subst e1
     rw [if_pos rfl] at hj; cases hj
     obtain ⟨hs0, ⟨q1, q2, q3⟩ | ⟨b', k', cap, ad, q1, q2, q3, q4, q5, q6, c, e, r1, r2, r3, r4⟩⟩ := hsub
     · exact ⟨hs0, .inl ⟨by rw [hψd]; exact q1, q2⟩⟩
     · exact ⟨hs0, .inr ⟨b', k', c, e, by rw [hψd]; exact q1, r1, r2, r3, fun i j x hx => (r4 i j x hx).mono hI (fun _ _ _ => rfl)⟩⟩
   · rw [if_neg e1] at hj
     by_cases e2 : id = j
     · subst e2
       rw [if_pos rfl] at hj; cases hj
       refine ⟨b0, es0, clock0, pl, by simp [ψ2, hne]; exact h1, h2, h3, h4, h5, h6, fun e he => ?_, fun k hk => ?_, fun k ys hk => ?_, fun k ys b' q hk hq => ?_, fun k ys k' ys' b' q q' hk hk' hq hq' => ?_⟩
       · by_cases hek : c5v e.key = kk
         · exact .inl (by rw [hek])
         · rcases h7 e he with h | ⟨ys, h⟩
           · cases h
           · exact .inr ⟨ys, by rw [b3V _ _ hek]; exact h⟩
       · simp only [Option.some.injEq] at hk
         subst hk
         exact ⟨b2V _ _ _, e9, he9, hk9⟩
       · have hkk : k ≠ kk := by rintro rfl; rw [b2V] at hk; cases hk
         rw [b3V _ _ hkk] at hk
         obtain ⟨e, q1, q2, q3⟩ := h9 k ys hk
         exact ⟨e, q1, q2, q3.mono hI (fun _ _ _ => rfl) (fun _ _ _ => rfl)⟩
       · have hkk : k ≠ kk := by rintro rfl; rw [b2V] at hk; cases hk
         rw [b3V _ _ hkk] at hk
         simp only [ψ2, if_true]
         exact ⟨h10 k ys b' q hk hq, fun q' e => hkk (h11 k ys kk xs b' q q' hk hg hq (hp.trans e))⟩
       · have hkk : k ≠ kk := by rintro rfl; rw [b2V] at hk; cases hk
         have hkk' : k' ≠ kk := by rintro rfl; rw [b2V] at hk'; cases hk'
         rw [b3V _ _ hkk] at hk
         rw [b3V _ _ hkk'] at hk'
         exact h11 k ys k' ys' b' q q' hk hk' hq hq'
     · rw [if_neg e2] at hj
       exact (h.obs j o hj).mono hI (fun _ _ _ => rfl) hkeep ⟨by simp [ψ2, Ne.symm e1], fun b hb => by simp only [ψ2, if_neg (Ne.symm e2)]; exact ⟨Ne.symm e1, hb⟩⟩ (fun _ _ => rfl)
 · intro i i' oi oi' b hi hi' hb hb'
   obtain ⟨j, oj, q1, q2, q3⟩ := back hi hb
   obtain ⟨j', oj', q1', q2', q3'⟩ := back hi' hb'
   have hjj := h.inj j j' oj oj' b q1 q1' q2 q2'
   have cross : ∀ {b}, Owns ψ2 d b → Owns ψ2 id b → False := by
     intro b h1 h2
     obtain ⟨q, hq⟩ := o1 h1
     rcases o2.1 h2 with ⟨k, h2⟩ | ⟨_, h2⟩
     · exact h.subs.not_main ho (hps b q hq) k h2
     · exact h2 q hq
   by_cases e1 : i = d
   · by_cases e2 : i' = d
     · rw [e1, e2]
     · rw [if_pos e1] at q3
       rw [if_neg e2] at q3'
       have : i' = id := by rw [← q3', ← hjj, q3]
       subst e1; subst this
       exact (cross hb hb').elim
   · by_cases e2 : i' = d
     · rw [if_neg e1] at q3
       rw [if_pos e2] at q3'
       have : i = id := by rw [← q3, hjj, q3']
       subst e2; subst this
       exact (cross hb' hb).elim
     · rw [if_neg e1] at q3
       rw [if_neg e2] at q3'
       rw [← q3, ← q3', hjj]
 · intro i oi b hi hb
   rw [hlk] at hi
   by_cases e1 : d = i
   · subst e1
     rw [if_pos rfl] at hi; cases hi
     have := h.own id _ b ho (od hb)
     exact this
   · rw [if_neg e1] at hi
     by_cases e2 : id = i
     · subst e2
       rw [if_pos rfl] at hi; cases hi
       have := h.own id _ b ho (oid hb)
       exact this
     · rw [if_neg e2] at hi
       exact h.own i oi b hi ((o3 (Ne.symm e1) (Ne.symm e2)).1 hb)
 · intro i oi b hi hb
   rw [hlk] at hi
   by_cases e1 : d = i
   · subst e1; simp [ψ2, Ne.symm hne] at hb
   · rw [if_neg e1] at hi
     by_cases e2 : id = i
     · subst e2
       rw [if_pos rfl] at hi; cases hi
       have hb : ψ.sub id b := by simp only [ψ2, if_true] at hb; exact hb.1
       obtain ⟨_, r2, r3⟩ := h.subs id _ b ho hb
       exact ⟨rfl, r2, fun k => by simp only [ψ2, if_neg hne]; exact r3 k⟩
     · rw [if_neg e2] at hi
       have hb : ψ.sub i b := by simp only [ψ2, if_neg (Ne.symm e2)] at hb; exact hb.2
       obtain ⟨r1, r2, r3⟩ := h.subs i oi b hi hb
       exact ⟨r1, r2, fun k => by simp only [ψ2, if_neg (Ne.symm e1)]; exact r3 k⟩
 · intro i hi
   have : i ≠ d := by have := E.big i hi; omega
   simp only [ψ2, if_neg this]
   exact h.par i hi
 · obtain ⟨hs0, ⟨q1, q2, q3⟩ | ⟨b', k', cap, ad, q1, q2, q3, q4, q5, q6, _⟩⟩ := hsub
   · subst q2; rw [q3]; exact .sl0 d sz _ 0 hlkd rfl (by rw [hψd]; exact q1)
   · rw [q2]
     exact .sl d sz 0 xs.length b' k' cap ad _ xs.length hlkd rfl (by omega) (by rw [hψd]; exact q1) (fun hc => by rw [q3 hc]; simp) q4 (by simpa using q5) q6
theorem b4V {A : Nat → Prop} {H : Hp} {id sz : Nat} {xs : List (List IV)} {o : Ob} {v : Value} (he : o.els = some (sz, xs)) (hl : look H id = some o) (ho : ROb A ψ H w id o)
   (hv : RAV A ψ H w (.sl id sz 0 xs.length) v) : RSub A w sz xs (ψ id) v := by
 obtain ⟨h0, hcase⟩ := b3P he ho
 refine ⟨h0, ?_⟩
 obtain ⟨o', m, q1, q2, q3, hc⟩ := b0p hv
 rcases hc with ⟨p1, p2, p3, p4⟩ | ⟨b, k, cap, ad, p1, p2, p3, p4, p5⟩
 · exact .inl ⟨p1, List.eq_nil_of_length_eq_zero p3, p4⟩
 · rcases hcase with ⟨r1, _⟩ | ⟨b', k', c, e, r1, r2, r3, r4, r5⟩
   · rw [r1] at p1; cases p1
   · rw [r1] at p1; cases p1
     refine .inr ⟨b, k, cap, ad, r1, p5, fun hc => by rw [p2 hc]; simp, p3, by simpa using p4, ?_, c, e, r2, r3, r4, r5⟩
     rw [p5] at hv; exact b2p hv
theorem b5V (d k : Nat) : look (s.kill d).hp k = if k = d then none else (look s.hp k).map (Ob.mapc (AV.kc (· == d))) := by
 show look ((s.mapc (AV.kc (· == d))).hp.filter (·.1 != d)) k = _
 rw [b7H, c0e]
theorem SimAt.putIn (h : SimAt E n ψ s a w) {id d : Nat} (hd : d < 1000) (hne : d ≠ id) {sk : Sk} {sz : Nat} {g : List Value → Option (List (List IV))} {hole : Option (List Value)}
   (ho : look s.hp id = some (.mapo sk sz g hole)) {kk : List Value} {xs : List (List IV)} {o : Ob} (hod : look s.hp d = some o) (hels : o.els = some (sz, xs)) (horg : o.org? = none ∨ o.org? = some id)
   (hcase : hole = some kk ∨ (hole = none ∧ g kk = none)) {v : Value} (hv : RAV (Im E ψ s.hp) ψ s.hp w (.sl d sz 0 xs.length) v) {b clock clock' : Nat} {es es' : Array MapEntry} (hb : ψ id = some (b, (0, 0))) (hh : w.heap[b]? = some (.map es clock))
   (hbn : Born es' clock') (hnd : (es'.toList.map fun e => c5v e.key).Nodup) (hfit : ∀ e ∈ es'.toList, Fits sk e) (hnew : ∃ e ∈ es'.toList, c5v e.key = kk ∧ e.val = v)
   (hold : ∀ e ∈ es'.toList, c5v e.key ≠ kk → e ∈ es.toList) (hall : ∀ e ∈ es.toList, c5v e.key ≠ kk → e ∈ es'.toList) :
   ∃ ψ2, SimAt E n ψ2 ((s.kill d).add id (.mapo sk sz (gset g kk (some xs)) none)) a (setBlock w b (.map es' clock')) := by
 obtain ⟨b1, es1, clock1, pl, h1, h2, h3, h4, h5, h6, h7, h8, h9, h10, h11⟩ := h.obs id _ ho
 rw [h1] at hb; cases hb
 rw [h2] at hh; cases hh
 have hsub := b4V hels hod (h.obs d o hod) hv
 have hmul : o.multi = false := b8P hels
 let ψ2 : Pl := ⟨fun j => ψ j, fun j b => (j = id ∧ ∃ k, ψ d = some (b, k)) ∨ ψ.sub j b⟩
 generalize hs2 : (s.kill d).add id (.mapo sk sz (gset g kk (some xs)) none) = s2
 have hlk : ∀ j, look s2.hp j = if id = j then some (.mapo sk sz (gset g kk (some xs)) none) else if j = d then none else (look s.hp j).map (Ob.mapc (AV.kc (· == d))) := by
   intro j; rw [← hs2, c4G, b5V]
 have oid : ∀ {b}, Owns ψ2 id b ↔ Owns ψ id b ∨ ∃ k, ψ d = some (b, k) := by
   intro b
   simp only [Owns, ψ2, true_and]
   constructor
   · rintro (h | h | h)
     · exact .inl (.inl h)
     · exact .inr h
     · exact .inl (.inr h)
   · rintro ((h | h) | h)
     · exact .inl h
     · exact .inr (.inr h)
     · exact .inr (.inl h)
 have o3 : ∀ {j b}, j ≠ id → (Owns ψ2 j b ↔ Owns ψ j b) := by
   intro j b hj; simp [Owns, ψ2, hj]
 have back : ∀ {j o2 b}, look s2.hp j = some o2 → Owns ψ2 j b → j ≠ d ∧ ((∃ o', look s.hp j = some o' ∧ Owns ψ j b) ∨ (j = id ∧ Owns ψ d b)) := by
   intro j o2 b hj hb
   rw [hlk] at hj
   by_cases e1 : id = j
   · subst e1
     refine ⟨Ne.symm hne, ?_⟩
     rcases oid.1 hb with hb | ⟨k, hb⟩
     · exact .inl ⟨_, ho, hb⟩
     · exact .inr ⟨rfl, .inl ⟨k, hb⟩⟩
   · rw [if_neg e1] at hj
     split at hj
     · cases hj
     · rename_i hjd
       cases hl : look s.hp j with
       | none => rw [hl] at hj; cases hj
       | some o' => exact ⟨hjd, .inl ⟨o', rfl, (o3 (Ne.symm e1)).1 hb⟩⟩
 have held : ∀ b, Held ψ2 s2.hp b → Held ψ s.hp b := by
   rintro b ⟨j, o2, hj, hb⟩
   obtain ⟨_, ⟨o', q1, q2⟩ | ⟨_, q2⟩⟩ := back hj hb
   · exact ⟨j, o', q1, q2⟩
   · exact ⟨d, o, hod, q2⟩
 have hB : Held ψ s.hp b := ⟨id, _, ho, .inl ⟨_, h1⟩⟩
 have hwb : ∀ i, i ≠ b → (setBlock w b (.map es' clock')).heap[i]? = w.heap[i]? := fun i hi => by
   show (w.heap.setIfInBounds b _)[i]? = _
   rw [Array.getElem?_setIfInBounds_ne (Ne.symm hi)]
 have hwB : (setBlock w b (.map es' clock')).heap[b]? = some (.map es' clock') := by
   show (w.heap.setIfInBounds b _)[b]? = _
   simp [c7v h2]
 have hsz : (setBlock w b (.map es' clock')).heap.size = w.heap.size := by simp [setBlock]
 have hI : ∀ i, i < w.heap.size → Im E ψ s.hp i → Im E ψ2 s2.hp i := fun i _ hi => ⟨hi.1, fun hh => hi.2 (held i hh)⟩
 have hw' : ∀ i, i < w.heap.size → Im E ψ s.hp i → (setBlock w b (.map es' clock')).heap[i]? = w.heap[i]? := fun i _ hi => hwb i (fun e => hi.2 (e ▸ hB))
 have hk : b9H (· == d) ψ ψ2 s.hp s2.hp := by
   intro j oj hj hoj
   have hjd : j ≠ d := by simpa using hj
   refine ⟨?_, rfl⟩
   by_cases e1 : id = j
   · subst e1
     rw [ho] at hoj; cases hoj
     exact ⟨_, by rw [hlk, if_pos rfl], Ob.le_none rfl⟩
   · exact ⟨_, by rw [hlk, if_neg e1, if_neg hjd, hoj]; rfl, Ob.le_mapc _ oj⟩
 have hf := b0I (p := (· == d)) hI hw' hk
 have hpd : ∀ k ys b' q q', g k = some ys → pl k = some (b', q) → ψ d = some (b', q') → False := by
   intro k ys b' q q' hk hq hq'
   exact hne (h.inj d id o _ b' hod ho (.inl ⟨q', hq'⟩) (.inr (h10 k ys b' q hk hq)))
 classical
 refine ⟨ψ2, { size := h.size, defers := h.defers.mono hI hw', frame := fun t => ?_, obs := ?_, inj := ?_, own := ?_, subs := ?_, par := h.par, old := ?_, grow := ?_, same := h.same }⟩
 · have e : s2.get t = (s.get t).mapc (AV.kc (· == d)) := by rw [← hs2]; exact St.get_mapc _ rfl t
   rw [e]
   exact (h.frame t).mapc hf (fun _ => rfl) (fun _ => rfl)
 · intro j oj hj
   rw [hlk] at hj
   by_cases e1 : id = j
   · subst e1
     rw [if_pos rfl] at hj; cases hj
     have hgk : ∀ k ys, k ≠ kk → gset g kk (some xs) k = some ys → g k = some ys := fun k ys hk hq => by rw [b3V _ _ hk] at hq; exact hq
     obtain ⟨pl2, hpl1, hpl2⟩ : ∃ pl2 : List Value → Option (Nat × (Nat × Nat)), pl2 kk = ψ d ∧ ∀ k, k ≠ kk → pl2 k = pl k := ⟨fun k => if k = kk then ψ d else pl k, by simp, fun k hk => by simp [hk]⟩
     refine ⟨b, es', clock', pl2, h1, hwB, hbn, hfit, h5, hnd, fun e he => ?_, (fun k hk => by cases hk), fun k ys hk => ?_, fun k ys b' q hk hq => ?_, fun k ys k' ys' b' q q' hk hk' hq hq' => ?_⟩
     · right
       by_cases hek : c5v e.key = kk
       · exact ⟨xs, by rw [hek, b2V]⟩
       · rcases h7 e (hold e he hek) with h | ⟨ys, h⟩
         · rcases hcase with hc | ⟨hc, _⟩
           · rw [hc] at h; cases h; exact absurd rfl hek
           · rw [hc] at h; cases h
         · exact ⟨ys, by rw [b3V _ _ hek]; exact h⟩
     · by_cases hkk : k = kk
       · subst hkk
         rw [b2V] at hk; cases hk
         obtain ⟨e, q1, q2, q3⟩ := hnew
         refine ⟨e, q1, q2, ?_⟩
         rw [hpl1, q3]
         exact hsub.mono hI hw' fun b' q hq => hwb b' (by
           rintro rfl
           exact hne (h.inj d id o _ b' hod ho (.inl ⟨q, hq⟩) (.inl ⟨_, h1⟩)))
       · obtain ⟨e, q1, q2, q3⟩ := h9 k ys (hgk k ys hkk hk)
         refine ⟨e, hall e q1 (by rw [q2]; exact hkk), q2, ?_⟩
         rw [hpl2 _ hkk]
         exact q3.mono hI hw' fun b' q hq => hwb b' (by
           rintro rfl
           exact h.subs.not_main ho (h10 k ys b' q (hgk k ys hkk hk) hq) _ h1)
     · by_cases hkk : k = kk
       · rw [hkk, hpl1] at hq; exact .inl ⟨rfl, q, hq⟩
       · rw [hpl2 _ hkk] at hq; exact .inr (h10 k ys b' q (hgk k ys hkk hk) hq)
     · by_cases hkk : k = kk <;> by_cases hkk' : k' = kk
       · rw [hkk, hkk']
       · rw [hkk, hpl1] at hq; rw [hpl2 _ hkk'] at hq'
         exact (hpd k' ys' b' q' q (hgk k' ys' hkk' hk') hq' hq).elim
       · rw [hpl2 _ hkk] at hq; rw [hkk', hpl1] at hq'
         exact (hpd k ys b' q q' (hgk k ys hkk hk) hq hq').elim
       · rw [hpl2 _ hkk] at hq; rw [hpl2 _ hkk'] at hq'
         exact h11 k ys k' ys' b' q q' (hgk k ys hkk hk) (hgk k' ys' hkk' hk') hq hq'
   · rw [if_neg e1] at hj
     split at hj
     · cases hj
     · rename_i hjd
       cases hl : look s.hp j with
       | none => rw [hl] at hj; cases hj
       | some o1 =>
         rw [hl] at hj
         simp only [Option.map_some, Option.some.injEq] at hj
         subst hj
         have hblk : ∀ i, Owns ψ j i → (setBlock w b (.map es' clock')).heap[i]? = w.heap[i]? := fun i hi => hwb i (by
           rintro rfl
           exact e1 (h.inj id j _ o1 i ho hl (.inl ⟨_, h1⟩) hi))
         cases o1 with
         | box cs =>
           obtain ⟨b2, c, e, g1, g2, g3, g4⟩ := h.obs j _ hl
           refine ⟨b2, c, e, g1, by rw [hblk b2 (.inl ⟨_, g1⟩)]; exact g2, by simpa using g3, fun i x hx => ?_⟩
           rw [List.getElem?_map] at hx
           cases hci : cs[i]? with
           | none => rw [hci] at hx; cases hx
           | some c0 =>
             rw [hci] at hx; cases hx
             have h6 := g4 i c0 hci
             cases c0 with
             | agg l => exact .junk _
             | tup l => exact .junk _
             | _ => exact hf _ _ h6 (by simp) (by simp)
         | gh Z vs cs =>
           obtain ⟨g1, g2, g3, g4⟩ := h.obs j _ hl
           refine ⟨g1, g2.mono hI (fun b hb => .inr hb) hw' (fun b hb => hblk b (.inr hb)), by simpa using g3, fun i x hx => ?_⟩
           rw [List.getElem?_map] at hx
           cases hci : cs[i]? with
           | none => rw [hci] at hx; cases hx
           | some c0 => rw [hci] at hx; cases hx; exact (g4 i c0 hci).mapc hf (fun _ => rfl) (fun _ => rfl)
         | _ => exact (h.obs j _ hl).move (by constructor <;> (intros; intro e; cases e)) hI hw' ⟨rfl, fun b hb => .inr hb⟩ hblk
 · intro i i' oi oi' x hi hi' hx hx'
   obtain ⟨n1, q⟩ := back hi hx
   obtain ⟨n2, q'⟩ := back hi' hx'
   rcases q with ⟨u, q1, q2⟩ | ⟨q1, q2⟩ <;> rcases q' with ⟨u', q1', q2'⟩ | ⟨q1', q2'⟩
   · exact h.inj i i' u u' x q1 q1' q2 q2'
   · exact absurd (h.inj i d u o x q1 hod q2 q2') n1
   · exact absurd (h.inj i' d u' o x q1' hod q2' q2) n2
   · rw [q1, q1']
 · intro i oi x hi hx
   rw [hlk] at hi
   by_cases e1 : id = i
   · subst e1
     rw [if_pos rfl] at hi; cases hi
     rcases oid.1 hx with hx | ⟨k, hx⟩
     · have := h.own id _ x ho hx
       exact this
     · rcases h.own d o x hod (.inl ⟨k, hx⟩) with ⟨q1, q2⟩ | q1
       · left
         have e : o.org d = id := by
           cases o with
           | lent org z ys =>
             rcases horg with h | h
             · cases h
             · simp only [Ob.org?, Option.some.injEq] at h; exact h
           | list z ys =>
             have := E.big d q1
             omega
           | _ => cases hels
         rw [e] at q1 q2
         exact ⟨q1, q2⟩
       · exact .inr q1
   · rw [if_neg e1] at hi
     split at hi
     · cases hi
     · cases hl : look s.hp i with
       | none => rw [hl] at hi; cases hi
       | some o1 =>
         rw [hl] at hi
         simp only [Option.map_some, Option.some.injEq] at hi
         subst hi
         rw [Ob.org_mapc]
         exact h.own i o1 x hl ((o3 (Ne.symm e1)).1 hx)
 · intro i oi x hi hx
   rw [hlk] at hi
   rw [hsz]
   by_cases e1 : id = i
   · subst e1
     rw [if_pos rfl] at hi; cases hi
     rcases hx with ⟨_, k, hx⟩ | hx
     · refine ⟨rfl, (h.obs d o hod).lt hx, fun k' e => ?_⟩
       exact hne (h.inj d id o _ x hod ho (.inl ⟨k, hx⟩) (.inl ⟨k', e⟩))
     · obtain ⟨_, q2, q3⟩ := h.subs id _ x ho hx
       exact ⟨rfl, q2, q3⟩
   · rw [if_neg e1] at hi
     split at hi
     · cases hi
     · cases hl : look s.hp i with
       | none => rw [hl] at hi; cases hi
       | some o1 =>
         rw [hl] at hi
         simp only [Option.map_some, Option.some.injEq] at hi
         subst hi
         rw [Ob.multi_mapc]
         have hx : ψ.sub i x := by
           rcases hx with ⟨h, _⟩ | h
           · exact absurd h.symm e1
           · exact h
         exact h.subs i o1 x hl hx
 · intro i hi hm
   rw [hwb i ?_]
   · exact h.old i hi hm
   · rintro rfl
     rcases h.own id _ i ho (.inl ⟨_, h1⟩) with ⟨q1, q2⟩ | q1
     · exact hm (.inl ⟨_, q1, q2⟩)
     · exact E.no hi hm q1
 · rw [hsz]; exact h.grow
end
end Go.Vm
end

section
namespace Go.Vm
open Go.ChangeMaps (setBlock)
section
variable {P : Program} {E : En} {n : Nat} {ψ : Pl} {s : St} {a : Act} {w : World}
variable {dst : Option Nat} {ty : TypeId} {pos : String} {af : Array Edge} {g : Option (Nat × Bool)} {r : Rhs} {d : Nat} {K : St → AV → Prop}
theorem c3L {x : AV} {id : Nat} {sk : Sk} {sz : Nat} {gm : List Value → Option (List (List IV))} {hole : Option (List Value)} (hx : s.moOf x = some (id, sk, sz, gm, hole)) :
   x = .mpr id ∧ look s.hp id = some (.mapo sk sz gm hole) := by
 unfold St.moOf at hx
 split at hx
 · split at hx
   · rename_i h
     simp only [Option.some.injEq, Prod.mk.injEq] at hx
     obtain ⟨rfl, rfl, rfl, rfl, rfl⟩ := hx
     exact ⟨rfl, h⟩
   · cases hx
 · cases hx
theorem c4L {t k' e' : TypeId} {m k : Operand} {sk : Sk} (hu : P.underlying t = some (.map k' e')) (p1 : b3O P 20 k' = some sk.2.1) (p2 : b8N P k' = some sk.2.1.length)
   (hk1 : skOf (a.eval k) = some (b2O P k', sk.2.1)) {b clock : Nat} {es : Array MapEntry} (hm : a.eval m = .map (some b)) (hh : w.heap[b]? = some (.map es clock)) {r : Option (Nat × Value)} {v : Value}
   (h1 : (Instr.findKey k' (a.eval k) es.toList).run P w = .ok r w) (h2 : match r with | some (_, v') => v' = v | none => (zeroValue e').run P w = .ok v w) :
   (execOp a.eval ⟨dst, .lookup t m k false, ty, pos, af, g⟩).run P w = .ok (.value v) w := by
 simp only [execOp, Sem.run_bind]
 have : (Instr.lookup t (a.eval m) (a.eval k) false).run P w = .ok v w := by
   unfold Instr.lookup
   rw [Sem.run_bind, Vm.run_underlying w hu, Result.andThen_ok, hm]
   simp only [Sem.run_bind, Sem.run_pure, b7R hh, b9M p1 p2 hk1 es.isEmpty, Result.andThen_ok, h1]
   cases r with
   | none => simp only [Sem.run_bind, h2, Result.andThen_ok, Sem.run_pure]; rfl
   | some p => obtain ⟨i, v'⟩ := p; simp only at h2; subst h2; simp only [Sem.run_pure, Result.andThen_ok]; rfl
 rw [this]; rfl
theorem c5L {sz sz' : Nat} {v : Value} (h : zav sz' v = .nil sz) : v = .slice none 0 0 := by
 unfold zav at h
 split at h
 · rfl
 · cases h
 · cases h
 · cases h
theorem c6L {t k' e' : TypeId} {m k : Operand} {ok : Bool} {sk : Sk} {z : List AV} (hu : P.underlying t = some (.map k' e')) (hsk : skT P k' e' = some sk) (hz : b1O P e' = some z)
   (hza : ((P.info? e').bind (·.zero)).map c6v = some (b2O P e')) (hd : d < 1000) (h : SimAt E n ψ s a w) (hk : stp P d s K (.lkp sk z m k ok)) :
   ∃ v, (∀ u, Ext w u → (execOp a.eval ⟨dst, .lookup t m k ok, ty, pos, af, g⟩).run P u = .ok (.value v) u) ∧ ∃ ψ' s' av, SimAt E n ψ' s' a w ∧ K s' av ∧ RAV (Im E ψ' s'.hp) ψ' s'.hp w av v := by
 simp only [stp] at hk
 cases hmo : (s.drop d).moOf ((s.drop d).ev m) with
 | none =>
   rw [hmo] at hk
   obtain ⟨v, av, h1, h2, h3⟩ := b7S (dst := dst) (ty := ty) (pos := pos) (af := af) (g := g) hu hsk hz hza h hk
   exact ⟨v, h1, ψ, s, av, h, h2, h3⟩
 | some q =>
   obtain ⟨id, sk1, sz, gm, hole⟩ := q
   rw [hmo] at hk
   obtain ⟨p1, p2, p3, p4⟩ := b4S hsk
   have hf := h.drop (id := d) hd
   have hno := a9w s d
   generalize s.drop d = s1 at hk hf hno hmo
   obtain ⟨hme, ho⟩ := c3L hmo
   have hm := hf.ev m
   have hkv := hf.ev k
   dsimp only at hk
   split at hk
   · rename_i sk2 kk sz' hkey
     obtain ⟨rfl, rfl, rfl, rfl, rfl, hk⟩ := hk
     obtain ⟨hk1, hk2⟩ := b1S hkv hkey
     rw [p3] at hk1
     rw [hme] at hm
     obtain ⟨b, es, clock, pl, h1, h2, h3, h4, h5, h6, h7, h8, h9, h10, h11⟩ := hf.obs id _ ho
     have hmv : a.eval m = .map (some b) := by
       generalize a.eval m = vm at hm
       cases hm with
       | mpr _ b' q o' ho' hb' => rw [h1] at hb'; cases hb'; rfl
     have hall : ∀ e ∈ es.toList, skOf e.key = some (b2O P k', sk1.2.1) := fun e he => by rw [← p3]; exact (h4 e he).1
     by_cases hex : ∃ e ∈ es.toList, e.key = a.eval k
     · obtain ⟨e, he, q3⟩ := hex
       have hrun : ∀ u, Ext w u → (execOp a.eval ⟨dst, .lookup t m k false, ty, pos, af, g⟩).run P u = .ok (.value e.val) u := by
         intro u hx
         rcases c0L (w := u) p1 p2 hk1 es.toList hall with ⟨q1, q2⟩ | ⟨j, e', q1, q2, q4⟩
         · exact absurd q3 (q2 e he)
         · have : e' = e := b2S h6 e' (List.mem_of_getElem? q2) e he (by rw [q3, q4])
           subst this
           exact c4L hu p1 p2 hk1 hmv (hx.heap h2) q1 rfl
       rcases h7 e he with hc | ⟨xs, hc⟩
       · cases hc
       · rw [q3, hk2] at hc
         rw [hc] at hk
         obtain ⟨ψ2, r1, r2⟩ := hf.takeOut hd hno ho hc h1 h2 he (by rw [q3]; exact hk2)
         exact ⟨_, hrun, ψ2, _, _, r1, hk, r2⟩
     · have hgn : gm kk = none := by
         cases hc : gm kk with
         | none => rfl
         | some c =>
           obtain ⟨e, he, g1, _⟩ := h9 kk c hc
           exact absurd ⟨e, he, c1K (hall e he) hk1 (by rw [g1, hk2])⟩ hex
       rw [hgn] at hk
       obtain ⟨i, zv, z1, z2, hzz⟩ := a4x hz
       rw [z1] at hza
       simp only [Option.bind_some, z2, Option.map_some, Option.some.injEq] at hza
       have hzv : zv = .slice none 0 0 := by
         have hone := c5f (hza.trans (p4.symm.trans h5))
         rw [hone] at hzz
         have hzz : [AV.nil sz'] = b0O [zv] (b9N P 20 e') := hzz
         cases hcs : b9N P 20 e' with
         | nil => rw [hcs] at hzz; simp only [b0O, List.cons.injEq, and_true] at hzz; exact c5L hzz.symm
         | cons x y => rw [hcs] at hzz; simp only [b0O, List.cons.injEq, and_true] at hzz; exact c5L hzz.symm
       subst hzv
       refine ⟨_, fun u hx => ?_, ψ, s1, _, hf, hk, .nil _⟩
       rcases c0L (w := u) p1 p2 hk1 es.toList hall with ⟨q1, q2⟩ | ⟨j, e', q1, q2, q4⟩
       · exact c4L hu p1 p2 hk1 hmv (hx.heap h2) q1 (a5x z1 z2 u)
       · exact absurd ⟨e', List.mem_of_getElem? q2, q4⟩ hex
   · exact hk.elim
theorem c7L {t k' e' : TypeId} {m k : Operand} {ok : Bool} {sk : Sk} {z : List AV} (hu : P.underlying t = some (.map k' e')) (hsk : skT P k' e' = some sk) (hz : b1O P e' = some z)
   (hza : ((P.info? e').bind (·.zero)).map c6v = some (b2O P e')) (hd : d < 1000) (h : SimAt E n ψ s a w) (hk : stp P d s K (.lkp sk z m k ok)) :
   Does P E n ⟨dst, .lookup t m k ok, ty, pos, af, g⟩ a w K := by
 obtain ⟨v, h1, ψ', s', av, h2, h3, h4⟩ := c6L (dst := dst) (ty := ty) (pos := pos) (af := af) (g := g) hu hsk hz hza hd h hk
 exact c8C (h1 w (Ext.refl w)) h3 h2 h4
theorem c8L {t k' e' : TypeId} {m k x : Operand} {sk : Sk} (hu : P.underlying t = some (.map k' e')) (hsk : skT P k' e' = some sk) (h : SimAt E n ψ s a w) (hk : stp P d s K (.mset sk m k x))
   {o : Op} (hop : o = .mapUpdate t m k x ∨ o = .insert t m k x) : Does P E n ⟨dst, o, ty, pos, af, g⟩ a w K := by
 simp only [stp] at hk
 cases hmo : s.moOf (s.ev m) with
 | none => rw [hmo] at hk; exact b6f hu hsk h hk hop
 | some q =>
   obtain ⟨id, sk1, sz, gm, hole⟩ := q
   rw [hmo] at hk
   obtain ⟨p1, p2, p3, p4⟩ := b4S hsk
   obtain ⟨hme, ho⟩ := c3L hmo
   have hm := h.ev m
   have hkv := h.ev k
   have hx := h.ev x
   dsimp only at hk
   split at hk
   · rename_i sk2 kk d' sz' len hkey hxe
     split at hk
     · rename_i o' hod
       split at hk
       · rename_i z0 xs hels
         obtain ⟨rfl, rfl, rfl, hd', hne, rfl, horg, hcase, hk⟩ := hk
         obtain ⟨hk1, hk2⟩ := b1S hkv hkey
         rw [p3] at hk1
         rw [hme] at hm
         rw [hxe] at hx
         obtain ⟨b, es, clock, pl, h1, h2, h3, h4, h5, h6, h7, h8, h9, h10, h11⟩ := h.obs id _ ho
         have hels' : o'.els = some (sz', xs) := by
           obtain ⟨o2, m2, q1, q2, _⟩ := b0p hx
           rw [hod] at q1; cases q1
           have := b5P hels
           rw [q2] at this
           simp only [Option.some.injEq, Prod.mk.injEq] at this
           rw [hels, this.1]
         have hmv : a.eval m = .map (some b) := by
           generalize a.eval m = vm at hm
           cases hm with
           | mpr _ b' q o' ho' hb' => rw [h1] at hb'; cases hb'; rfl
         have hall : ∀ e ∈ es.toList, skOf e.key = some (b2O P k', sk1.2.1) := fun e he => by rw [← p3]; exact (h4 e he).1
         have run : ∀ w', (Instr.mapUpdate t (.map (some b)) (a.eval k) (a.eval x)).run P w = .ok () w' → (execOp a.eval ⟨dst, o, ty, pos, af, g⟩).run P w = .ok .skip w' := by
           intro w' hrun
           rcases hop with rfl | rfl <;> simp only [execOp, hmv, Sem.run_bind, hrun, Result.andThen_ok, Sem.run_pure]
         have hvag : c6v (a.eval x) = sk1.2.2 := by
           rw [h5]
           have : ∀ L v, RAV (Im E ψ s.hp) ψ s.hp w (.sl d' sz' 0 L) v → c6v v = false := by intro L v h; cases h <;> rfl
           exact this _ _ hx
         rcases c0L (w := w) p1 p2 hk1 es.toList hall with ⟨q1, q2⟩ | ⟨j, e, q1, q2, q3⟩
         · have hno : ∀ e ∈ es.toList, c5v e.key ≠ kk := fun e he hkk => q2 e he (c1K (hall e he) hk1 (by rw [hkk, hk2]))
           obtain ⟨ψ2, hsim⟩ := h.putIn (clock' := clock + 1) (es' := es.push { key := a.eval k, val := a.eval x, born := clock }) hd' hne ho hod hels' horg hcase hx h1 h2 (h3.push _ rfl)
             (by
               rw [Array.toList_push, List.map_append, List.nodup_append]
               refine ⟨h6, by simp, ?_⟩
               intro u hu v hv huv
               rw [List.map_singleton, List.mem_singleton] at hv
               obtain ⟨e', he', e2⟩ := List.mem_map.1 hu
               exact hno e' he' (by rw [e2, huv, hv]; exact hk2))
             (fun e he => by
               rw [Array.toList_push, List.mem_append, List.mem_singleton] at he
               rcases he with he | rfl
               · exact h4 e he
               · exact ⟨by rw [p3]; exact hk1, hvag⟩)
             ⟨{ key := a.eval k, val := a.eval x, born := clock }, by simp, hk2, rfl⟩
             (fun e he hek => by
               rw [Array.toList_push, List.mem_append, List.mem_singleton] at he
               rcases he with he | rfl
               · exact he
               · exact absurd hk2 hek)
             (fun e he _ => by rw [Array.toList_push]; exact List.mem_append_left _ he)
           refine c9C (run _ ?_) hk hsim
           unfold Instr.mapUpdate
           simp only [Sem.run_bind, Vm.run_underlying w hu, Result.andThen_ok, b7R h2, b9M p1 p2 hk1, q1, b8R _ h2]
           rfl
         · have he : e ∈ es.toList := List.mem_of_getElem? q2
           have heg : es[j]? = some e := by rw [← Array.getElem?_toList]; exact q2
           have hek : c5v e.key = kk := by rw [q3]; exact hk2
           have hget : ∀ i, (es.modify j fun e => { e with val := a.eval x })[i]? = if j = i then (es[i]?).map (fun e => { e with val := a.eval x }) else es[i]? := by
             intro i
             rw [Array.getElem?_modify]
           have hmem : ∀ e' ∈ (es.modify j fun e => { e with val := a.eval x }).toList, e' = { e with val := a.eval x } ∨ e' ∈ es.toList := by
             intro e' he'
             obtain ⟨i, hi⟩ := List.getElem?_of_mem he'
             rw [Array.getElem?_toList, hget] at hi
             split at hi
             · rename_i hji
               subst hji
               rw [heg] at hi
               simp only [Option.map_some, Option.some.injEq] at hi
               exact .inl hi.symm
             · right
               rw [← Array.getElem?_toList] at hi; exact List.mem_of_getElem? hi
           have hkeys : (es.modify j fun e => { e with val := a.eval x }).toList.map (fun e => c5v e.key) = es.toList.map (fun e => c5v e.key) := by
             apply List.ext_getElem?
             intro i
             rw [List.getElem?_map, List.getElem?_map, Array.getElem?_toList, hget, Array.getElem?_toList]
             split
             · cases es[i]? <;> rfl
             · rfl
           obtain ⟨ψ2, hsim⟩ := h.putIn (clock' := clock) (es' := es.modify j fun e => { e with val := a.eval x }) hd' hne ho hod hels' horg hcase hx h1 h2 (h3.modify j (fun e => { e with val := a.eval x }) (fun _ => rfl))
             (by rw [hkeys]; exact h6)
             (fun e' he' => by
               rcases hmem e' he' with rfl | he'
               · exact ⟨(h4 e he).1, hvag⟩
               · exact h4 e' he')
             ⟨{ e with val := a.eval x }, by
               refine List.mem_of_getElem? (i := j) ?_
               rw [Array.getElem?_toList, hget, if_pos rfl, heg]; rfl, hek, rfl⟩
             (fun e' he' hek' => by
               rcases hmem e' he' with rfl | he'
               · exact absurd hek hek'
               · exact he')
             (fun e' he' hek' => by
               obtain ⟨i, hi⟩ := List.getElem?_of_mem he'
               refine List.mem_of_getElem? (i := i) ?_
               rw [Array.getElem?_toList] at hi ⊢
               rw [hget, if_neg ?_]
               · exact hi
               · rintro rfl
                 rw [heg] at hi; cases hi
                 exact hek' hek)
           have hmod : (es.modify j fun e => { e with key := a.eval k, val := a.eval x }) = es.modify j fun e => { e with val := a.eval x } := by
             apply Array.ext'
             apply List.ext_getElem?
             intro i
             rw [Array.getElem?_toList, Array.getElem?_toList, Array.getElem?_modify, Array.getElem?_modify]
             split
             · rename_i hji
               subst hji
               rw [heg]
               simp [q3]
             · rfl
           have hst : (Instr.keyThatStays e.key (a.eval k)).run P w = .ok (a.eval k) w := by
             unfold Instr.keyThatStays
             simp only [q3, b9e hk1, if_true, Sem.run_pure]
           refine c9C (run _ ?_) hk hsim
           unfold Instr.mapUpdate
           simp only [Sem.run_bind, Vm.run_underlying w hu, Result.andThen_ok, b7R h2, b9M p1 p2 hk1, q1, heg, Option.map_some, Option.getD_some, hst, hmod, b8R _ h2]
           rfl
       · exact hk.elim
     · exact hk.elim
   · exact hk.elim
theorem c9L (s : St) {id : Nat} {sk : Sk} (sz : Nat) (hsk : sk.2.2 = false) (ho : look s.hp id = some (.map sk fun _ => none)) : Le s (s.add id (.mapo sk sz (fun _ => none) none)) := by
 rintro E n a w ⟨ψ, h⟩
 obtain ⟨b, es, clock, h1, h2, h3, m1, m2, m3, m4⟩ := h.obs id _ ho
 have hes : es.toList = [] := by
   cases hc : es.toList with
   | nil => rfl
   | cons e r => obtain ⟨c, hc'⟩ := m2 e (by rw [hc]; simp); cases hc'
 refine ⟨ψ, h.chg (o' := .mapo sk sz (fun _ => none) none) (k := (0, 0)) ho (Ob.le_none rfl) rfl (by simp [Ob.multi]) h1 (fun _ _ => rfl) rfl ⟨rfl, rfl, rfl, Nat.le_refl _⟩
   (fun _ _ => ⟨b, es, clock, fun _ => none, h1, h2, h3, m1, hsk, m3, ?_, by simp, by simp, by simp, by simp⟩)⟩
 intro e he
 rw [hes] at he; cases he
end
end Go.Vm
end

section
namespace Go.Vm
open Go.ChangeMaps (setBlock)
section
variable {P : Program} {E : En} {n : Nat} {ψ : Pl} {s : St} {a : Act} {w : World}
variable {dst : Option Nat} {ty : TypeId} {pos : String} {af : Array Edge} {g : Option (Nat × Bool)} {r : Rhs} {d : Nat} {K : St → AV → Prop}
theorem SimAt.takeOutL (h : SimAt E n ψ s a w) {id d : Nat} (hd : d < 1000) (hno : look s.hp d = none) {sz : Nat} {xs : List (List (List IV))}
   (ho : look s.hp id = some (.listo sz xs none)) {i0 : Nat} {ys : List (List IV)} (hg : xs[i0]? = some ys) {b : Nat} {k : Nat × Nat} (hb : ψ id = some (b, k)) :
   ∃ c e, w.heap[b]? = some (.cells c e (0, 0)) ∧ k.1 + i0 < c.size ∧ ∃ ψ2, SimAt E n ψ2 ((s.add id (.listo sz xs (some i0))).add d (.lent id sz ys)) a w ∧
     RAV (Im E ψ2 ((s.add id (.listo sz xs (some i0))).add d (.lent id sz ys)).hp) ψ2 ((s.add id (.listo sz xs (some i0))).add d (.lent id sz ys)).hp w (.sl d sz 0 ys.length) (c.getD (k.1 + i0) undef) := by
 obtain ⟨h0, b0, k0, c0, e0, pl, h1, h2, h3, h4, h9, h10, h11⟩ := h.obs id _ ho
 rw [h1] at hb; cases hb
 have hsub := h9 i0 ys hg (by simp)
 have hil := (List.getElem?_eq_some_iff.1 hg).1
 refine ⟨c0, e0, h2, by omega, ?_⟩
 have hne : id ≠ d := by rintro rfl; rw [ho] at hno; cases hno
 generalize hp : pl i0 = p at hsub
 have hps : ∀ b q, p = some (b, q) → ψ.sub id b := fun b q e => h10 i0 ys b q hg (by simp) (hp.trans e)
 let ψ2 : Pl := ⟨fun j => if j = d then p else ψ j, fun j b => if j = id then ψ.sub id b ∧ ∀ q, p ≠ some (b, q) else j ≠ d ∧ ψ.sub j b⟩
 generalize hs2 : (s.add id (.listo sz xs (some i0))).add d (.lent id sz ys) = s2
 have hlk : ∀ j, look s2.hp j = if d = j then some (.lent id sz ys) else if id = j then some (.listo sz xs (some i0)) else look s.hp j := by
   intro j; rw [← hs2, c4G, c4G]
 have o1 : ∀ {b}, Owns ψ2 d b → ∃ q, p = some (b, q) := by
   intro b hb
   rcases hb with ⟨q, hb⟩ | hb
   · exact ⟨q, by simpa [ψ2] using hb⟩
   · simp [ψ2, Ne.symm hne] at hb
 have o2 : ∀ {b}, Owns ψ2 id b ↔ (∃ k, ψ id = some (b, k)) ∨ (ψ.sub id b ∧ ∀ q, p ≠ some (b, q)) := by
   intro b; simp [Owns, ψ2, hne]
 have o3 : ∀ {j b}, j ≠ d → j ≠ id → (Owns ψ2 j b ↔ Owns ψ j b) := by
   intro j b hj1 hj2; simp [Owns, ψ2, hj1, hj2]
 have oid : ∀ {b}, Owns ψ2 id b → Owns ψ id b := by
   intro b hb
   rcases o2.1 hb with h | h
   · exact .inl h
   · exact .inr h.1
 have od : ∀ {b}, Owns ψ2 d b → Owns ψ id b := by
   intro b hb
   obtain ⟨q, hq⟩ := o1 hb
   exact .inr (hps b q hq)
 have back : ∀ {j o b}, look s2.hp j = some o → Owns ψ2 j b → ∃ j' o', look s.hp j' = some o' ∧ Owns ψ j' b ∧ (j' = if j = d then id else j) := by
   intro j o b hj hb
   rw [hlk] at hj
   by_cases e1 : d = j
   · subst e1; exact ⟨id, _, ho, od hb, by simp⟩
   · rw [if_neg e1] at hj
     by_cases e2 : id = j
     · subst e2; exact ⟨id, _, ho, oid hb, by simp [hne]⟩
     · rw [if_neg e2] at hj; exact ⟨j, o, hj, (o3 (Ne.symm e1) (Ne.symm e2)).1 hb, by simp [Ne.symm e1]⟩
 have held : ∀ b, Held ψ2 s2.hp b → Held ψ s.hp b := by
   rintro b ⟨j, o, hj, hb⟩
   obtain ⟨j', o', q1, q2, _⟩ := back hj hb
   exact ⟨j', o', q1, q2⟩
 have hI : ∀ b, b < w.heap.size → Im E ψ s.hp b → Im E ψ2 s2.hp b := fun b _ hi => ⟨hi.1, fun hh => hi.2 (held b hh)⟩
 have hkeep : c9v ψ ψ2 s.hp s2.hp := by
   intro j o hj
   have hjd : j ≠ d := by rintro rfl; rw [hno] at hj; cases hj
   refine ⟨?_, by simp [ψ2, hjd]⟩
   by_cases e2 : id = j
   · subst e2
     rw [ho] at hj; cases hj
     exact ⟨_, by rw [hlk, if_neg (Ne.symm hjd), if_pos rfl], Ob.le_of rfl rfl (Nat.le_refl _)⟩
   · exact ⟨o, by rw [hlk, if_neg (Ne.symm hjd), if_neg e2]; exact hj, o.le_refl⟩
 have hψd : ψ2 d = p := by simp [ψ2]
 have hlkd : look s2.hp d = some (.lent id sz ys) := by rw [hlk, if_pos rfl]
 refine ⟨ψ2, { size := h.size, defers := h.defers.mono hI (fun _ _ _ => rfl), frame := fun t => ?_, obs := ?_, inj := ?_, own := ?_, subs := ?_, par := ?_, old := h.old, grow := h.grow, same := h.same }, ?_⟩
 · have : s2.get t = s.get t := by rw [← hs2]; rfl
   rw [this]
   exact (h.frame t).mono hI (fun _ _ _ => rfl) hkeep
 · intro j o hj
   rw [hlk] at hj
   by_cases e1 : d = j
   · subst e1
     rw [if_pos rfl] at hj; cases hj
     obtain ⟨hs0, ⟨q1, q2, q3⟩ | ⟨b', k', cap, ad, q1, q2, q3, q4, q5, q6, c, e, r1, r2, r3, r4⟩⟩ := hsub
     · exact ⟨hs0, .inl ⟨by rw [hψd]; exact q1, q2⟩⟩
     · exact ⟨hs0, .inr ⟨b', k', c, e, by rw [hψd]; exact q1, r1, r2, r3, fun i j x hx => (r4 i j x hx).mono hI (fun _ _ _ => rfl)⟩⟩
   · rw [if_neg e1] at hj
     by_cases e2 : id = j
     · subst e2
       rw [if_pos rfl] at hj; cases hj
       refine ⟨fun j hj => by cases hj; exact (List.getElem?_eq_some_iff.1 hg).1, b, k, c0, e0, pl, by simp [ψ2, hne]; exact h1, h2, h3, h4, fun i x hx hh => ?_, fun i x b' q hx hh hq => ?_, fun i x i' x' b' q q' hx hh hx' hh' hq hq' => ?_⟩
       · exact (h9 i x hx (by simp)).mono hI (fun _ _ _ => rfl) (fun _ _ _ => rfl)
       · have hne2 : i ≠ i0 := by rintro rfl; exact hh rfl
         simp only [ψ2, if_true]
         exact ⟨h10 i x b' q hx (by simp) hq, fun q' e => hne2 (h11 i x i0 ys b' q q' hx (by simp) hg (by simp) hq (hp.trans e))⟩
       · exact h11 i x i' x' b' q q' hx (by simp) hx' (by simp) hq hq'
     · rw [if_neg e2] at hj
       exact (h.obs j o hj).mono hI (fun _ _ _ => rfl) hkeep ⟨by simp [ψ2, Ne.symm e1], fun b hb => by simp only [ψ2, if_neg (Ne.symm e2)]; exact ⟨Ne.symm e1, hb⟩⟩ (fun _ _ => rfl)
 · intro i i' oi oi' b hi hi' hb hb'
   obtain ⟨j, oj, q1, q2, q3⟩ := back hi hb
   obtain ⟨j', oj', q1', q2', q3'⟩ := back hi' hb'
   have hjj := h.inj j j' oj oj' b q1 q1' q2 q2'
   have cross : ∀ {b}, Owns ψ2 d b → Owns ψ2 id b → False := by
     intro b h1 h2
     obtain ⟨q, hq⟩ := o1 h1
     rcases o2.1 h2 with ⟨k, h2⟩ | ⟨_, h2⟩
     · exact h.subs.not_main ho (hps b q hq) k h2
     · exact h2 q hq
   by_cases e1 : i = d
   · by_cases e2 : i' = d
     · rw [e1, e2]
     · rw [if_pos e1] at q3
       rw [if_neg e2] at q3'
       have : i' = id := by rw [← q3', ← hjj, q3]
       subst e1; subst this
       exact (cross hb hb').elim
   · by_cases e2 : i' = d
     · rw [if_neg e1] at q3
       rw [if_pos e2] at q3'
       have : i = id := by rw [← q3, hjj, q3']
       subst e2; subst this
       exact (cross hb' hb).elim
     · rw [if_neg e1] at q3
       rw [if_neg e2] at q3'
       rw [← q3, ← q3', hjj]
 · intro i oi b hi hb
   rw [hlk] at hi
   by_cases e1 : d = i
   · subst e1
     rw [if_pos rfl] at hi; cases hi
     have := h.own id _ b ho (od hb)
     exact this
   · rw [if_neg e1] at hi
     by_cases e2 : id = i
     · subst e2
       rw [if_pos rfl] at hi; cases hi
       have := h.own id _ b ho (oid hb)
       exact this
     · rw [if_neg e2] at hi
       exact h.own i oi b hi ((o3 (Ne.symm e1) (Ne.symm e2)).1 hb)
 · intro i oi b hi hb
   rw [hlk] at hi
   by_cases e1 : d = i
   · subst e1; simp [ψ2, Ne.symm hne] at hb
   · rw [if_neg e1] at hi
     by_cases e2 : id = i
     · subst e2
       rw [if_pos rfl] at hi; cases hi
       have hb : ψ.sub id b := by simp only [ψ2, if_true] at hb; exact hb.1
       obtain ⟨_, r2, r3⟩ := h.subs id _ b ho hb
       exact ⟨rfl, r2, fun k => by simp only [ψ2, if_neg hne]; exact r3 k⟩
     · rw [if_neg e2] at hi
       have hb : ψ.sub i b := by simp only [ψ2, if_neg (Ne.symm e2)] at hb; exact hb.2
       obtain ⟨r1, r2, r3⟩ := h.subs i oi b hi hb
       exact ⟨r1, r2, fun k => by simp only [ψ2, if_neg (Ne.symm e1)]; exact r3 k⟩
 · intro i hi
   have : i ≠ d := by have := E.big i hi; omega
   simp only [ψ2, if_neg this]
   exact h.par i hi
 · obtain ⟨hs0, ⟨q1, q2, q3⟩ | ⟨b', k', cap, ad, q1, q2, q3, q4, q5, q6, _⟩⟩ := hsub
   · subst q2; rw [q3]; exact .sl0 d sz _ 0 hlkd rfl (by rw [hψd]; exact q1)
   · rw [q2]
     exact .sl d sz 0 ys.length b' k' cap ad _ ys.length hlkd rfl (by omega) (by rw [hψd]; exact q1) (fun hc => by rw [q3 hc]; simp) q4 (by simpa using q5) q6
theorem SimAt.putInL (h : SimAt E n ψ s a w) {id d : Nat} (hd : d < 1000) (hne : d ≠ id) {sz : Nat} {xs : List (List (List IV))} {i0 : Nat}
   (ho : look s.hp id = some (.listo sz xs (some i0))) {ys : List (List IV)} {o : Ob} (hod : look s.hp d = some o) (hels : o.els = some (sz, ys)) (horg : o.org? = none ∨ o.org? = some id)
   {v : Value} (hv : RAV (Im E ψ s.hp) ψ s.hp w (.sl d sz 0 ys.length) v) {b : Nat} {k : Nat × Nat} {c c' : Array Value} {e : TypeId} (hb : ψ id = some (b, k)) (hh : w.heap[b]? = some (.cells c e (0, 0)))
   {w' : World} (hwb : ∀ i, i ≠ b → w'.heap[i]? = w.heap[i]?) (hsz : w'.heap.size = w.heap.size) (hsame : w'.os = w.os ∧ w'.tape = w.tape ∧ w'.output = w.output ∧ w.drawn ≤ w'.drawn)
   (hwB : w'.heap[b]? = some (.cells c' e (0, 0))) (hcs : c'.size = c.size) (hc0 : c'.getD (k.1 + i0) undef = v) (hcn : ∀ i, i ≠ i0 → c'.getD (k.1 + i) undef = c.getD (k.1 + i) undef) :
   ∃ ψ2, SimAt E n ψ2 ((s.kill d).add id (.listo sz (xs.set i0 ys) none)) a w' := by
 obtain ⟨h0, b1, k1, c1, e1', pl, h1, h2, h3, h4, h9, h10, h11⟩ := h.obs id _ ho
 rw [h1] at hb; cases hb
 rw [h2] at hh; cases hh
 have hil := h0 i0 rfl
 have hsub := b4V hels hod (h.obs d o hod) hv
 have hmul : o.multi = false := b8P hels
 let ψ2 : Pl := ⟨fun j => ψ j, fun j b => (j = id ∧ ∃ k, ψ d = some (b, k)) ∨ ψ.sub j b⟩
 generalize hs2 : (s.kill d).add id (.listo sz (xs.set i0 ys) none) = s2
 have hlk : ∀ j, look s2.hp j = if id = j then some (.listo sz (xs.set i0 ys) none) else if j = d then none else (look s.hp j).map (Ob.mapc (AV.kc (· == d))) := by
   intro j; rw [← hs2, c4G, b5V]
 have oid : ∀ {b}, Owns ψ2 id b ↔ Owns ψ id b ∨ ∃ k, ψ d = some (b, k) := by
   intro b
   simp only [Owns, ψ2, true_and]
   constructor
   · rintro (h | h | h)
     · exact .inl (.inl h)
     · exact .inr h
     · exact .inl (.inr h)
   · rintro ((h | h) | h)
     · exact .inl h
     · exact .inr (.inr h)
     · exact .inr (.inl h)
 have o3 : ∀ {j b}, j ≠ id → (Owns ψ2 j b ↔ Owns ψ j b) := by
   intro j b hj; simp [Owns, ψ2, hj]
 have back : ∀ {j o2 b}, look s2.hp j = some o2 → Owns ψ2 j b → j ≠ d ∧ ((∃ o', look s.hp j = some o' ∧ Owns ψ j b) ∨ (j = id ∧ Owns ψ d b)) := by
   intro j o2 b hj hb
   rw [hlk] at hj
   by_cases e1 : id = j
   · subst e1
     refine ⟨Ne.symm hne, ?_⟩
     rcases oid.1 hb with hb | ⟨k, hb⟩
     · exact .inl ⟨_, ho, hb⟩
     · exact .inr ⟨rfl, .inl ⟨k, hb⟩⟩
   · rw [if_neg e1] at hj
     split at hj
     · cases hj
     · rename_i hjd
       cases hl : look s.hp j with
       | none => rw [hl] at hj; cases hj
       | some o' => exact ⟨hjd, .inl ⟨o', rfl, (o3 (Ne.symm e1)).1 hb⟩⟩
 have held : ∀ b, Held ψ2 s2.hp b → Held ψ s.hp b := by
   rintro b ⟨j, o2, hj, hb⟩
   obtain ⟨_, ⟨o', q1, q2⟩ | ⟨_, q2⟩⟩ := back hj hb
   · exact ⟨j, o', q1, q2⟩
   · exact ⟨d, o, hod, q2⟩
 have hB : Held ψ s.hp b := ⟨id, _, ho, .inl ⟨_, h1⟩⟩
 have hI : ∀ i, i < w.heap.size → Im E ψ s.hp i → Im E ψ2 s2.hp i := fun i _ hi => ⟨hi.1, fun hh => hi.2 (held i hh)⟩
 have hw' : ∀ i, i < w.heap.size → Im E ψ s.hp i → w'.heap[i]? = w.heap[i]? := fun i _ hi => hwb i (fun e => hi.2 (e ▸ hB))
 have hk : b9H (· == d) ψ ψ2 s.hp s2.hp := by
   intro j oj hj hoj
   have hjd : j ≠ d := by simpa using hj
   refine ⟨?_, rfl⟩
   by_cases e1 : id = j
   · subst e1
     rw [ho] at hoj; cases hoj
     exact ⟨_, by rw [hlk, if_pos rfl], Ob.le_of rfl rfl (by simp)⟩
   · exact ⟨_, by rw [hlk, if_neg e1, if_neg hjd, hoj]; rfl, Ob.le_mapc _ oj⟩
 have hf := b0I (p := (· == d)) hI hw' hk
 have hpd : ∀ i x b' q q', xs[i]? = some x → i ≠ i0 → pl i = some (b', q) → ψ d = some (b', q') → False := by
   intro i x b' q q' hx hi hq hq'
   exact hne (h.inj d id o _ b' hod ho (.inl ⟨q', hq'⟩) (.inr (h10 i x b' q hx (by simp [Ne.symm hi]) hq)))
 classical
 refine ⟨ψ2, { size := h.size, defers := h.defers.mono hI hw', frame := fun t => ?_, obs := ?_, inj := ?_, own := ?_, subs := ?_, par := h.par, old := ?_, grow := ?_, same := ⟨hsame.1.trans h.same.1, hsame.2.1.trans h.same.2.1, hsame.2.2.1.trans h.same.2.2.1, Nat.le_trans h.same.2.2.2 hsame.2.2.2⟩ }⟩
 · have e : s2.get t = (s.get t).mapc (AV.kc (· == d)) := by rw [← hs2]; exact St.get_mapc _ rfl t
   rw [e]
   exact (h.frame t).mapc hf (fun _ => rfl) (fun _ => rfl)
 · intro j oj hj
   rw [hlk] at hj
   by_cases e1 : id = j
   · subst e1
     rw [if_pos rfl] at hj; cases hj
     have hgk : ∀ i x, i ≠ i0 → (xs.set i0 ys)[i]? = some x → xs[i]? = some x := fun i x hi hx => by rw [List.getElem?_set] at hx; rw [if_neg (Ne.symm hi)] at hx; exact hx
     have hg0 : ∀ x, (xs.set i0 ys)[i0]? = some x → x = ys := fun x hx => by rw [List.getElem?_set, if_pos rfl, if_pos hil] at hx; exact (Option.some.inj hx).symm
     have hne3 : ∀ i, i ≠ i0 → (some i0 : Option Nat) ≠ some i := fun i hi e => hi (Option.some.inj e).symm
     refine ⟨(fun j hj => by cases hj), b, k, c', e, (fun i => if i = i0 then ψ d else pl i), h1, hwB, by rw [hcs]; exact h3, by rw [List.length_set]; exact h4, fun i x hx _ => ?_, fun i x b' q hx _ hq => ?_, fun i x i' x' b' q q' hx _ hx' _ hq hq' => ?_⟩
     · by_cases hi : i = i0
       · subst hi
         rw [hg0 x hx]
         simp only [if_true]
         rw [hc0]
         exact hsub.mono hI hw' fun b' q hq => hwb b' (by
           rintro rfl
           exact hne (h.inj d id o _ b' hod ho (.inl ⟨q, hq⟩) (.inl ⟨_, h1⟩)))
       · simp only [if_neg hi]
         rw [hcn i hi]
         exact (h9 i x (hgk i x hi hx) (hne3 i hi)).mono hI hw' fun b' q hq => hwb b' (by
           rintro rfl
           exact h.subs.not_main ho (h10 i x b' q (hgk i x hi hx) (hne3 i hi) hq) _ h1)
     · by_cases hi : i = i0
       · simp only [if_pos hi] at hq; exact .inl ⟨rfl, q, hq⟩
       · simp only [if_neg hi] at hq; exact .inr (h10 i x b' q (hgk i x hi hx) (hne3 i hi) hq)
     · by_cases hi : i = i0 <;> by_cases hi' : i' = i0
       · rw [hi, hi']
       · simp only [if_pos hi] at hq; simp only [if_neg hi'] at hq'
         exact (hpd i' x' b' q' q (hgk i' x' hi' hx') hi' hq' hq).elim
       · simp only [if_neg hi] at hq; simp only [if_pos hi'] at hq'
         exact (hpd i x b' q q' (hgk i x hi hx) hi hq hq').elim
       · simp only [if_neg hi] at hq; simp only [if_neg hi'] at hq'
         exact h11 i x i' x' b' q q' (hgk i x hi hx) (hne3 i hi) (hgk i' x' hi' hx') (hne3 i' hi') hq hq'
   · rw [if_neg e1] at hj
     split at hj
     · cases hj
     · rename_i hjd
       cases hl : look s.hp j with
       | none => rw [hl] at hj; cases hj
       | some o1 =>
         rw [hl] at hj
         simp only [Option.map_some, Option.some.injEq] at hj
         subst hj
         have hblk : ∀ i, Owns ψ j i → w'.heap[i]? = w.heap[i]? := fun i hi => hwb i (by
           rintro rfl
           exact e1 (h.inj id j _ o1 i ho hl (.inl ⟨_, h1⟩) hi))
         cases o1 with
         | box cs =>
           obtain ⟨b2, c, e, g1, g2, g3, g4⟩ := h.obs j _ hl
           refine ⟨b2, c, e, g1, by rw [hblk b2 (.inl ⟨_, g1⟩)]; exact g2, by simpa using g3, fun i x hx => ?_⟩
           rw [List.getElem?_map] at hx
           cases hci : cs[i]? with
           | none => rw [hci] at hx; cases hx
           | some c0 =>
             rw [hci] at hx; cases hx
             have h6 := g4 i c0 hci
             cases c0 with
             | agg l => exact .junk _
             | tup l => exact .junk _
             | _ => exact hf _ _ h6 (by simp) (by simp)
         | gh Z vs cs =>
           obtain ⟨g1, g2, g3, g4⟩ := h.obs j _ hl
           refine ⟨g1, g2.mono hI (fun b hb => .inr hb) hw' (fun b hb => hblk b (.inr hb)), by simpa using g3, fun i x hx => ?_⟩
           rw [List.getElem?_map] at hx
           cases hci : cs[i]? with
           | none => rw [hci] at hx; cases hx
           | some c0 => rw [hci] at hx; cases hx; exact (g4 i c0 hci).mapc hf (fun _ => rfl) (fun _ => rfl)
         | _ => exact (h.obs j _ hl).move (by constructor <;> (intros; intro e; cases e)) hI hw' ⟨rfl, fun b hb => .inr hb⟩ hblk
 · intro i i' oi oi' x hi hi' hx hx'
   obtain ⟨n1, q⟩ := back hi hx
   obtain ⟨n2, q'⟩ := back hi' hx'
   rcases q with ⟨u, q1, q2⟩ | ⟨q1, q2⟩ <;> rcases q' with ⟨u', q1', q2'⟩ | ⟨q1', q2'⟩
   · exact h.inj i i' u u' x q1 q1' q2 q2'
   · exact absurd (h.inj i d u o x q1 hod q2 q2') n1
   · exact absurd (h.inj i' d u' o x q1' hod q2' q2) n2
   · rw [q1, q1']
 · intro i oi x hi hx
   rw [hlk] at hi
   by_cases e1 : id = i
   · subst e1
     rw [if_pos rfl] at hi; cases hi
     rcases oid.1 hx with hx | ⟨k, hx⟩
     · have := h.own id _ x ho hx
       exact this
     · rcases h.own d o x hod (.inl ⟨k, hx⟩) with ⟨q1, q2⟩ | q1
       · left
         have e : o.org d = id := by
           cases o with
           | lent org z ys =>
             rcases horg with h | h
             · cases h
             · simp only [Ob.org?, Option.some.injEq] at h; exact h
           | list z ys =>
             have := E.big d q1
             omega
           | _ => cases hels
         rw [e] at q1 q2
         exact ⟨q1, q2⟩
       · exact .inr q1
   · rw [if_neg e1] at hi
     split at hi
     · cases hi
     · cases hl : look s.hp i with
       | none => rw [hl] at hi; cases hi
       | some o1 =>
         rw [hl] at hi
         simp only [Option.map_some, Option.some.injEq] at hi
         subst hi
         rw [Ob.org_mapc]
         exact h.own i o1 x hl ((o3 (Ne.symm e1)).1 hx)
 · intro i oi x hi hx
   rw [hlk] at hi
   rw [hsz]
   by_cases e1 : id = i
   · subst e1
     rw [if_pos rfl] at hi; cases hi
     rcases hx with ⟨_, k, hx⟩ | hx
     · refine ⟨rfl, (h.obs d o hod).lt hx, fun k' e => ?_⟩
       exact hne (h.inj d id o _ x hod ho (.inl ⟨k, hx⟩) (.inl ⟨k', e⟩))
     · obtain ⟨_, q2, q3⟩ := h.subs id _ x ho hx
       exact ⟨rfl, q2, q3⟩
   · rw [if_neg e1] at hi
     split at hi
     · cases hi
     · cases hl : look s.hp i with
       | none => rw [hl] at hi; cases hi
       | some o1 =>
         rw [hl] at hi
         simp only [Option.map_some, Option.some.injEq] at hi
         subst hi
         rw [Ob.multi_mapc]
         have hx : ψ.sub i x := by
           rcases hx with ⟨h, _⟩ | h
           · exact absurd h.symm e1
           · exact h
         exact h.subs i o1 x hl hx
 · intro i hi hm
   rw [hwb i ?_]
   · exact h.old i hi hm
   · rintro rfl
     rcases h.own id _ i ho (.inl ⟨_, h1⟩) with ⟨q1, q2⟩ | q1
     · exact hm (.inl ⟨_, q1, q2⟩)
     · exact E.no hi hm q1
 · rw [hsz]; exact h.grow
theorem ldL {t : TypeId} {x : Operand} (hc : comp P ⟨dst, .load t x, ty, pos, af, g⟩ = some r) (hd : d < 1000) (h : SimAt E n ψ s a w) (hk : stp P d s K r)
   {id sz i off z : Nat} {xs : List (List (List IV))} {hole : Option Nat} (hx : s.ev x = .ep id sz i off) (ho : look s.hp id = some (.listo z xs hole)) :
   ∃ v, (∀ u, Ext w u → (Instr.loadAt t (a.eval x)).run P u = .ok v u) ∧ ∃ ψ' s' av, SimAt E n ψ' s' a w ∧ K s' av ∧ RAV (Im E ψ' s'.hp) ψ' s'.hp w av v := by
 simp only [comp] at hc
 cases hu : P.underlying t with
 | none => rw [hu] at hc; cases hc
 | some dd =>
   simp only [hu, Option.bind_eq_bind, Option.bind_some] at hc
   by_cases hg : b2O P t = true
   · rw [if_pos hg] at hc
     cases hi : b8N P t with
     | none => rw [hi] at hc; cases hc
     | some k =>
       rw [hi] at hc
       simp only [Option.map_some, Option.some.injEq] at hc
       subst hc
       simp only [stp, hx, ho] at hk
   · have hg : b2O P t = false := by simpa using hg
     simp only [hg, Bool.false_eq_true, if_false] at hc
     have hc : Rhs.ld x none = r := by simpa using hc
     subst hc
     simp only [stp, hx, ho] at hk
     obtain ⟨rfl, rfl, hid, he, hl, hk⟩ := hk
     split at hk
     · rename_i ys hys
       have hf := h.drop (id := d) hd
       have hno := a9w s d
       generalize s.drop d = s1 at hk hf hno he hl
       have hx1 := hf.ev x
       rw [he] at hx1
       obtain ⟨b, k, o, m, q1, q2, q3, q4, q5⟩ := b4o hx1
       obtain ⟨c, e, p1, p2, ψ2, p3, p4⟩ := hf.takeOutL hd hno hl hys q4
       refine ⟨_, fun u hu2 => ?_, ψ2, _, _, p3, hk, p4⟩
       rw [q5]
       have e3 : k.1 + (i * 1 + 0) = k.1 + i := by omega
       rw [e3]
       exact c7D u hu hg (hu2.cell (c6e p1 p2))
     · exact hk.elim
theorem b1k {t : TypeId} {x : Operand} (hc : comp P ⟨dst, .load t x, ty, pos, af, g⟩ = some r) (hd : d < 1000) (h : SimAt E n ψ s a w) (hk : stp P d s K r) :
   ∃ v, (∀ u, Ext w u → (Instr.loadAt t (a.eval x)).run P u = .ok v u) ∧ ∃ ψ' s' av, SimAt E n ψ' s' a w ∧ K s' av ∧ RAV (Im E ψ' s'.hp) ψ' s'.hp w av v := by
 by_cases hex : ∃ id sz i off z xs hole, s.ev x = .ep id sz i off ∧ look s.hp id = some (.listo z xs hole)
 · obtain ⟨id, sz, i, off, z, xs, hole, hx, ho⟩ := hex
   exact ldL hc hd h hk hx ho
 · obtain ⟨v, av, h1, h2, h3⟩ := c0E hc h hk fun id sz i off z xs hole hx ho => hex ⟨id, sz, i, off, z, xs, hole, hx, ho⟩
   exact ⟨v, h1, ψ, s, av, h, h2, h3⟩
theorem b2k {t : TypeId} {x : Operand} (hc : comp P ⟨dst, .load t x, ty, pos, af, g⟩ = some r) (hd : d < 1000) (h : SimAt E n ψ s a w) (hk : stp P d s K r) : Does P E n ⟨dst, .load t x, ty, pos, af, g⟩ a w K := by
 obtain ⟨v, h1, ψ', s', av, h2, h3, h4⟩ := b1k hc hd h hk
 refine c8C (v := v) ?_ h3 h2 h4
 simp only [execOp, Sem.run_bind, h1 w (Ext.refl w), Result.andThen_ok, Sem.run_pure]
theorem b3k {t : TypeId} {x : Operand} (hc : comp P ⟨dst, .load t x, ty, pos, af, g⟩ = some r) (hd : d < 1000) (h : SimAt E n ψ s a w) (hk : stp P d s K r) :
   ∃ v, ∀ u, Ext w u → (execOp a.eval ⟨dst, .load t x, ty, pos, af, g⟩).run P u = .ok (.value v) u := by
 obtain ⟨v, h1, _⟩ := b1k hc hd h hk
 refine ⟨v, fun u hu => ?_⟩
 simp only [execOp, Sem.run_bind, h1 u hu, Result.andThen_ok, Sem.run_pure]
theorem b4k {t : TypeId} {x y : Operand} {q : Nat} (hq : b8N P t = some q) (h : SimAt E n ψ s a w) (hk : stp P d s K (.st x y q)) :
   Does P E n ⟨dst, .store t x y, ty, pos, af, g⟩ a w K := by
 by_cases hex : ∃ id sz i off z xs hole, s.ev x = .ep id sz i off ∧ look (s.frz [s.ev y]).hp id = some (.listo z xs hole)
 · obtain ⟨id, sz, i, off, z, xs, hole, hx, ho⟩ := hex
   simp only [stp, hx, ho] at hk
   split at hk
   · rename_i d' sz' len hye
     split at hk
     · rename_i o hod
       split at hk
       · rename_i z0 ys hels
         obtain ⟨hl, ⟨rfl, rfl⟩, rfl, hd', hne, rfl, horg, rfl, hk⟩ := hk
         have hx1 := h.ev x
         rw [hx] at hx1
         obtain ⟨b, k, o1, m, q1, q2, q3, q4, q5⟩ := b4o hx1
         rw [hl] at q1; cases q1
         simp only [Ob.dim, Option.some.injEq, Prod.mk.injEq] at q2
         obtain ⟨rfl, rfl⟩ := q2
         have hy1 := h.ev y
         rw [hye] at hy1
         have hels' : o.els = some (sz', ys) := by
           obtain ⟨o2, m2, r1, r2, _⟩ := b0p hy1
           rw [hod] at r1; cases r1
           have := b5P hels
           rw [r2] at this
           simp only [Option.some.injEq, Prod.mk.injEq] at this
           rw [hels, this.1]
         obtain ⟨h0, b1, k1, c, e, pl, h1, h2, h3, h4, h9, h10, h11⟩ := h.obs id _ hl
         rw [h1] at q4; cases q4
         have hcells : (a.eval y).cells.toList = [a.eval y] ∧ (a.eval y).oneCell' = true := by
           have : ∀ L v, RAV (Im E ψ s.hp) ψ s.hp w (.sl d' sz' 0 L) v → v.cells.toList = [v] ∧ v.oneCell' = true := by
             intro L v hv; cases hv <;> exact ⟨rfl, rfl⟩
           exact this _ _ hy1
         have e3 : k.1 + (i * 1 + 0) = k.1 + i := by omega
         rw [e3] at q5
         obtain ⟨w', r1, r2, r3, r4, r5⟩ := a7s (P := P) b (k.1 + i) (a.eval y).cells.toList 0 w c e h2 (by rw [hcells.1]; intro v hv; simp only [List.mem_singleton] at hv; subst hv; exact hcells.2) (by rw [hcells.1]; simp; omega)
         have hrun := a1l (dst := dst) (ty := ty) (pos := pos) (af := af) (g := g) hq q5 (by rw [← Array.length_toList, hcells.1]; rfl) r1
         obtain ⟨ψ2, hsim⟩ := h.putInL (c' := putA c (k.1 + i) (a.eval y).cells.toList) hd' hne hl hod hels' horg hy1 h1 h2 r2 r3 r4 r5 (a8r _ _ _) (by rw [a9r _ _ _ _ (by omega), if_pos ⟨Nat.le_refl _, by rw [hcells.1]; simp⟩, hcells.1]; simp)
           (fun j hj => by
             by_cases hjs : k.1 + j < c.size
             · rw [a9r _ _ _ _ hjs, if_neg (by rw [hcells.1]; simp; omega)]
             · rw [Array.getD_eq_getD_getElem?, Array.getD_eq_getD_getElem?, Array.getElem?_eq_none (by rw [a8r]; omega), Array.getElem?_eq_none (by omega)])
         exact c9C hrun hk hsim
       · exact hk.elim
     · exact hk.elim
   · exact hk.elim
 · exact a2l hq h hk fun id sz i off z xs hole hx ho => hex ⟨id, sz, i, off, z, xs, hole, hx, ho⟩
end
end Go.Vm
end

section
namespace Go.Vm
section
variable {P : Program} {E : En} {n : Nat} {ψ : Pl} {s : St} {a : Act} {w : World}
variable {dst : Option Nat} {ty : TypeId} {pos : String} {af : Array Edge} {g : Option (Nat × Bool)}
variable {d : Nat} {K : St → AV → Prop}
theorem b6w {x y : Operand} {ts : Array TypeId} {v : Value} {w' : World} (hv : (Builtin.copy_ ts ty #[a.eval x, a.eval y]).run P w = .ok v w') :
   (execOp a.eval ⟨dst, .call ⟨.builtin .copy, #[x, y], ts⟩, ty, pos, af, g⟩).run P w = .ok (.value v) w' := by
 simp only [execOp, resolve, Sem.run_bind, Sem.run_pure, Result.andThen_ok, invoke, builtin]
 simp [hv]
theorem b7w {ts : Array TypeId} {t e : TypeId} {sz m cap ny capy : Nat} {ad : Addr} {ady : Option Addr} {vs : List Value} {w' : World} (h0 : ts[0]? = some t) (hu : P.underlying t = some (.slice e)) (hsz : b8N P e = some sz) (hm : ny = m)
   (h1 : (Builtin.firstCells sz ny (.slice ady ny capy)).run P w = .ok vs.toArray w) (h2 : (storeCells ad vs).run P w = .ok () w') :
   (Builtin.copy_ ts ty #[.slice (some ad) m cap, .slice ady ny capy]).run P w = .ok (.int .i64 m) w' := by
 subst hm
 simp only [Builtin.copy_, h0, List.getElem?_toArray, List.getElem?_cons_zero, List.getElem?_cons_succ, Sem.run_bind, run_underlying w hu, run_sizeOf w hsz, Result.andThen_ok, Builtin.lenOf, Sem.run_pure, Nat.min_self, h1, h2]
 rfl
theorem b8w {x y : Operand} {t e : TypeId} {ts : Array TypeId} {sz : Nat} (h0 : ts[0]? = some t) (hu : P.underlying t = some (.slice e)) (hsz : b8N P e = some sz) (h : SimAt E n ψ s a w) (hk : stp P d s K (.cpy sz x y)) :
   Does P E n ⟨dst, .call ⟨.builtin .copy, #[x, y], ts⟩, ty, pos, af, g⟩ a w K := by
 have hx := h.ev x
 have hy := h.ev y
 simp only [stp] at hk
 generalize hax : s.ev x = ax at hx hk
 split at hk
 · rename_i id sq lo m sz2 ys he
   split at hk
   · rename_i sz3 xs ho
     obtain ⟨⟨hxs, rfl⟩, ⟨hz1, hz2, hz3⟩, rfl, hyl, hk⟩ := hk
     subst hz1 hz2 hz3
     obtain ⟨o', xm, q1, q1', q2, hcase⟩ := b0p hx
     rw [ho] at q1; cases q1
     have hpos := List.length_pos_iff.2 hxs
     rcases hcase with ⟨p1, _, p3, _⟩ | ⟨b, k, cap, ad, p1, p2, p3, p4, hvx⟩
     · omega
     · obtain ⟨hs0, hob⟩ := h.obs id _ ho
       rcases hob with ⟨h1', _⟩ | ⟨b', k', c, e', g1, g2, g3, g3', g4⟩
       · rw [h1'] at p1; cases p1
       rw [g1] at p1; cases p1
       obtain ⟨vs, y1, y2, y3, y4, y5, ady, cy, hvy⟩ := b9g h hy he (.inl rfl)
       obtain ⟨w', r1, r2, r3, r4, r5⟩ := a7s (P := P) b k.1 vs 0 w c e' g2 y5 (by rw [y1, hyl]; omega)
       have p2 := p2 (by omega)
       rw [Nat.zero_mul, Nat.add_zero] at p2
       subst p2
       have hr := b7w (P := P) (ty := ty) (w := w) (cap := cap) (capy := cy) (ady := ady) h0 hu hsz hyl (by rw [← hvy]; exact y2 w rfl) r1
       have h2 := h.chg (o' := .list sz2 ys) ho (Ob.le_of rfl rfl (by omega)) rfl (fun h => h) g1 r2 r3 r4 fun _ hm => by
         refine ⟨y3, .inr ⟨b, k, _, e', g1, r5, ?_, by rw [hyl]; exact g3', fun i j x hx => ?_⟩⟩
         · rw [show (vs.zipIdx 0).foldl (fun cs (x, j) => cs.setIfInBounds (k.1 + j) x) c = putA c k.1 vs from rfl, a8r]; exact g3
         · have hb := c8w y3 hx
           rw [show (vs.zipIdx 0).foldl (fun cs (x, j) => cs.setIfInBounds (k.1 + j) x) c = putA c k.1 vs from rfl, a9r _ _ _ _ (by rw [hyl] at hb; omega), if_pos (by omega)]
           have := hm _ _ (y4 i j x hx)
           rw [show k.1 + (i * sz2 + j) - k.1 = i * sz2 + j from by omega]
           exact this
       exact c8C (b6w (by rw [hvx, hvy]; exact hr)) hk h2 (c2D rfl)
   · exact hk.elim
 · exact hk.elim
end
end Go.Vm
end

section
namespace Go.Vm
theorem a7K (z : Array Value) (m : Nat) : (Builtin.zeroCells z m).toList.length = m * z.size := by simp [Builtin.zeroCells]
theorem a8K (z : Array Value) (m i j : Nat) (hi : i < m) (hj : j < z.size) : (Builtin.zeroCells z m).toList.getD (i * z.size + j) undef = z.getD j undef := by
 have hlt : i * z.size + j < m * z.size := by
   have h1 : (i + 1) * z.size ≤ m * z.size := Nat.mul_le_mul_right _ (by omega)
   rw [Nat.add_mul] at h1
   omega
 have hmod : (i * z.size + j) % z.size = j := by rw [Nat.add_comm, Nat.add_mul_mod_self_right, Nat.mod_eq_of_lt hj]
 rw [a7w]
 unfold Builtin.zeroCells
 simp [Array.getD_eq_getD_getElem?, hlt, hmod, hj]
theorem a9K {z : Array Value} {m : Nat} {v : Value} (h : v ∈ (Builtin.zeroCells z m).toList) : v ∈ z.toList := by
 unfold Builtin.zeroCells at h
 rw [Array.toList_map, List.mem_map] at h
 obtain ⟨i, hi, rfl⟩ := h
 have hlt : i < m * z.size := by simpa using hi
 have hz : 0 < z.size := by
   rcases Nat.eq_zero_or_pos z.size with e | e
   · rw [e] at hlt; omega
   · exact e
 rw [getElem!_pos z _ (Nat.mod_lt _ hz)]
 simp
section
variable {P : Program} {E : En} {n : Nat} {ψ : Pl} {s : St} {a : Act} {w : World}
variable {dst : Option Nat} {ty : TypeId} {pos : String} {af : Array Edge} {g : Option (Nat × Bool)}
variable {d : Nat} {K : St → AV → Prop}
theorem a0L {x : Operand} {ts : Array TypeId} {v : Value} {w' : World} (hv : (Builtin.clear_ ts ty #[a.eval x]).run P w = .ok v w') :
   (execOp a.eval ⟨dst, .call ⟨.builtin .clear, #[x], ts⟩, ty, pos, af, g⟩).run P w = .ok (.value v) w' := by
 simp only [execOp, resolve, Sem.run_bind, Sem.run_pure, Result.andThen_ok, invoke, builtin]
 simp [hv]
theorem a1L {ts : Array TypeId} {t e : TypeId} {i : TypeInfo} {zv : Value} {m cap : Nat} {ad : Addr} {w' : World} (h0 : ts[0]? = some t) (hu : P.underlying t = some (.slice e)) (hi : P.info? e = some i) (hz : i.zero = some zv) (hm : 0 < m)
   (h2 : (storeCells ad (Builtin.zeroCells zv.cells m).toList).run P w = .ok () w') :
   (Builtin.clear_ ts ty #[.slice (some ad) m cap]).run P w = .ok (.tuple #[]) w' := by
 obtain ⟨q, rfl⟩ : ∃ q, m = q + 1 := ⟨m - 1, by omega⟩
 simp only [Builtin.clear_, h0, List.getElem?_toArray, List.getElem?_cons_zero, Sem.run_bind, run_underlying w hu, Result.andThen_ok, a5x hi hz, h2, Sem.run_pure]
theorem a2L {xs : List (List IV)} {zi : List IV} {lo m : Nat} (h : lo + m ≤ xs.length) : (xs.take lo ++ List.replicate m zi ++ xs.drop (lo + m)).length = xs.length := by simp; omega
theorem a3L {xs : List (List IV)} {zi : List IV} {lo m : Nat} (h : lo + m ≤ xs.length) (i : Nat) :
   (xs.take lo ++ List.replicate m zi ++ xs.drop (lo + m))[i]? = if lo ≤ i ∧ i < lo + m then some zi else xs[i]? := by
 by_cases h1 : i < lo
 · rw [List.append_assoc, List.getElem?_append_left (by simp; omega), if_neg (by omega), List.getElem?_take, if_pos h1]
 · by_cases h2 : i < lo + m
   · rw [List.getElem?_append_left (by simp; omega), List.getElem?_append_right (by simp; omega), if_pos (by omega), List.getElem?_replicate, if_pos (by simp; omega)]
   · rw [List.getElem?_append_right (by simp; omega), if_neg (by omega), List.getElem?_drop]
     congr 1; simp; omega
theorem a4L {x : Operand} {t e : TypeId} {ts : Array TypeId} {i : TypeInfo} {z : List AV} (h0 : ts[0]? = some t) (hu : P.underlying t = some (.slice e)) (hi : P.info? e = some i) (hz : b1O P e = some z) (hzl : z.length = i.size)
   (h : SimAt E n ψ s a w) (hk : stp P d s K (.clr i.size z x)) : Does P E n ⟨dst, .call ⟨.builtin .clear, #[x], ts⟩, ty, pos, af, g⟩ a w K := by
 have hx := h.ev x
 simp only [stp] at hk
 generalize hax : s.ev x = ax at hx hk
 split at hk
 · rename_i id sq lo m zi hzi
   split at hk
   · rename_i sz3 xs ho
     obtain ⟨⟨hz1, hz2⟩, ⟨hm, hle⟩, hk⟩ := hk
     subst hz1 hz2
     obtain ⟨i', zv, z1, z2, rfl⟩ := a4x hz
     rw [hi] at z1; cases z1
     have hsz : zv.cells.size = i.size := by rw [a5w] at hzl; simpa using hzl
     obtain ⟨g1, g2⟩ := ivz (A := Im E ψ s.hp) (ψ := ψ) (H := s.hp) (w := w) (vs := zv.cells.toList) hzi (by rw [a5w]) (fun i x hx => by
       obtain ⟨sz, e⟩ := a6w _ _ _ _ hx
       rw [e]; exact c2C _ _)
     have hzil : zi.length = i.size := by rw [g1, hzl]
     have hone : ∀ v ∈ zv.cells.toList, v.oneCell' = true := by
       intro v hv
       obtain ⟨j, hj, rfl⟩ := List.getElem_of_mem hv
       have hj' : j < zi.length := by rw [hzil, ← hsz]; simpa using hj
       have := (g2 j _ (List.getElem?_eq_getElem hj')).one
       rw [List.getD_eq_getElem?_getD, List.getElem?_eq_getElem hj] at this
       exact this
     obtain ⟨o', xm, q1, q1', q2, hcase⟩ := b0p hx
     rw [ho] at q1; cases q1
     rcases hcase with ⟨p1, _, p3, _⟩ | ⟨b, k, cap, ad, p1, p2, p3, p4, hvx⟩
     · omega
     · obtain ⟨hs0, hob⟩ := h.obs id _ ho
       rcases hob with ⟨h1', _⟩ | ⟨b', k', c, e', q1, q2', q3, q3', q4⟩
       · rw [h1'] at p1; cases p1
       rw [q1] at p1; cases p1
       have hvl := a7K zv.cells m
       rw [hsz] at hvl
       have hmul : lo * i.size + m * i.size ≤ k.2 := by
         rw [← Nat.add_mul]
         exact Nat.le_trans (Nat.mul_le_mul_right _ (by omega)) p4
       obtain ⟨w', r1, r2, r3, r4, r5⟩ := a7s (P := P) b (k.1 + lo * i.size) (Builtin.zeroCells zv.cells m).toList 0 w c e' q2' (fun v hv => hone v (a9K hv)) (by rw [hvl]; omega)
       have p2 := p2 (by omega)
       subst p2
       have hr := a1L (P := P) (ty := ty) (w := w) (cap := cap) h0 hu hi z2 hm r1
       have hll := a2L (zi := zi) hle
       have h2 := h.chg (o' := .list i.size (xs.take lo ++ List.replicate m zi ++ xs.drop (lo + m))) ho (Ob.le_of rfl rfl (by rw [hll]; exact Nat.le_refl _)) rfl (fun h => h) q1 r2 r3 r4 fun _ hm' => by
         refine ⟨fun x hx => ?_, .inr ⟨b, k, _, e', q1, r5, ?_, by rw [hll]; exact q3', fun i' j x hx => ?_⟩⟩
         · rw [List.mem_append, List.mem_append] at hx
           rcases hx with (hx | hx) | hx
           · exact hs0 x (List.mem_of_mem_take hx)
           · rw [List.eq_of_mem_replicate hx]; exact hzil
           · exact hs0 x (List.mem_of_mem_drop hx)
         · rw [show ((Builtin.zeroCells zv.cells m).toList.zipIdx 0).foldl (fun cs (x, j) => cs.setIfInBounds (k.1 + lo * i.size + j) x) c = putA c (k.1 + lo * i.size) (Builtin.zeroCells zv.cells m).toList from rfl, a8r]; exact q3
         · rw [show ((Builtin.zeroCells zv.cells m).toList.zipIdx 0).foldl (fun cs (x, j) => cs.setIfInBounds (k.1 + lo * i.size + j) x) c = putA c (k.1 + lo * i.size) (Builtin.zeroCells zv.cells m).toList from rfl]
           obtain ⟨row, y1, y2⟩ := c3e hx
           rw [a3L hle] at y1
           by_cases hin : lo ≤ i' ∧ i' < lo + m
           · rw [if_pos hin] at y1
             cases y1
             have hj : j < i.size := by rw [← hzil]; exact (List.getElem?_eq_some_iff.1 y2).1
             obtain ⟨i2, rfl⟩ : ∃ i2, i' = lo + i2 := ⟨i' - lo, by omega⟩
             have hi2 : i2 < m := by omega
             have hb1 : i2 * i.size + j < m * i.size := by
               have h1 : (i2 + 1) * i.size ≤ m * i.size := Nat.mul_le_mul_right _ (by omega)
               rw [Nat.add_mul] at h1
               omega
             have he : k.1 + ((lo + i2) * i.size + j) = k.1 + lo * i.size + (i2 * i.size + j) := by rw [Nat.add_mul]; omega
             rw [he, a9r _ _ _ _ (by omega), if_pos (by rw [hvl]; omega), show k.1 + lo * i.size + (i2 * i.size + j) - (k.1 + lo * i.size) = i2 * zv.cells.size + j from by rw [hsz]; omega, a8K _ _ _ _ hi2 (by omega), ← a7w]
             exact hm' _ _ (g2 j x y2)
           · rw [if_neg hin] at y1
             have hat := c4e y1 y2
             have hb := c8w hs0 hat
             have hout : ¬(k.1 + lo * i.size ≤ k.1 + (i' * i.size + j) ∧ k.1 + (i' * i.size + j) < k.1 + lo * i.size + (Builtin.zeroCells zv.cells m).toList.length) := by
               rw [hvl]
               rintro ⟨u1, u2⟩
               apply hin
               constructor
               · apply Nat.le_of_not_lt
                 intro hlt
                 have h1 : (i' + 1) * i.size ≤ lo * i.size := Nat.mul_le_mul_right _ (by omega)
                 rw [Nat.add_mul] at h1
                 omega
               · apply Nat.lt_of_not_le
                 intro hge
                 have h1 : (lo + m) * i.size ≤ i' * i.size := Nat.mul_le_mul_right _ hge
                 rw [Nat.add_mul] at h1
                 omega
             rw [a9r _ _ _ _ (by omega), if_neg hout]
             exact hm' _ _ (q4 i' j x hat)
       exact c8C (a0L (by rw [hvx]; exact hr)) hk h2 (.tup [] #[] rfl (fun i c hc => by simp at hc))
   · exact hk.elim
 · exact hk.elim
end
end Go.Vm
end

section
namespace Go.Vm
section
variable {P : Program} {E : En} {n : Nat} {ψ : Pl} {s : St} {a : Act} {w : World}
variable {d : Nat} {K : St → AV → Prop} {r : Rhs}
theorem bind_some {α β : Type} {x : Option α} {f : α → Option β} {y : β} (h : (x >>= f) = some y) : ∃ z, x = some z ∧ f z = some y := by
 cases x with
 | none => cases h
 | some z => exact ⟨z, rfl, h⟩
theorem b5m {α β : Type} {x : Option α} {f : α → β} {y : β} (h : x.map f = some y) : ∃ z, x = some z ∧ f z = y := by
 cases x with
 | none => cases h
 | some z => exact ⟨z, rfl, by simpa using h⟩
theorem arr1 {α : Type} {xs : Array α} {x : α} (h : xs.toList = [x]) : xs = #[x] := by apply Array.ext'; simpa using h
theorem arr2 {α : Type} {xs : Array α} {x y : α} (h : xs.toList = [x, y]) : xs = #[x, y] := by apply Array.ext'; simpa using h
theorem b6m {o : Oper} (hc : comp P o = some r) (hd : d < 1000) (h : SimAt E n ψ s a w) (hk : stp P d s K r) : Does P E n o a w K := by
 obtain ⟨dst, op, ty, pos, af, g⟩ := o
 have hc0 := hc
 unfold comp at hc
 split at hc
 · rename_i x heq; cases heq
   split at hc
   · simp only [Option.some.injEq] at hc; subst hc; exact a2x (.inl rfl) hd h hk
   · simp only [Option.some.injEq] at hc; subst hc; exact (a1x (.inl rfl) h hk).does
 · rename_i x heq; cases heq
   split at hc
   · simp only [Option.some.injEq] at hc; subst hc; exact a2x (.inr rfl) hd h hk
   · simp only [Option.some.injEq] at hc; subst hc; exact (a1x (.inr rfl) h hk).does
 · rename_i heq; cases heq; exact (b3p hc0 h hk).does
 · rename_i heq; cases heq
   obtain ⟨z, hz, rfl⟩ := b5m hc
   exact a6x hz hd h hk
 · rename_i heq; cases heq
   simp only [Option.some.injEq] at hc; subst hc; exact a7x hd h hk
 · rename_i t parts heq; cases heq
   split at hc
   · rename_i fs hu
     split at hc
     · rename_i hall
       obtain ⟨z, hz, hc⟩ := bind_some hc
       obtain ⟨l, hl, hc⟩ := bind_some hc
       simp only [Option.pure_def, Option.some.injEq] at hc
       subst hc
       exact (a5s hu hz (fun f hf => by simpa using (Array.all_eq_true'.1 hall) f hf) hl h hk).does
     · cases hc
   · rename_i hu
     obtain ⟨q, hq, hc⟩ := bind_some hc
     obtain ⟨z, hz, hc⟩ := bind_some hc
     simp only [Option.pure_def, Option.some.injEq] at hc
     subst hc
     exact (a6s hu hq hz h hk).does
   · cases hc
 · rename_i t len parts heq; cases heq
   split at hc
   · rename_i e hu
     obtain ⟨sz, hsz, hc⟩ := bind_some hc
     split at hc
     · rename_i hp
       obtain ⟨z, hz, hc⟩ := bind_some hc
       simp only [Option.pure_def, Option.some.injEq] at hc
       subst hc
       exact c3E hu hsz hp.1 hp.2.1 hp.2.2.1 hp.2.2.2 hz hd h hk
     · cases hc
   · cases hc
 · rename_i heq; cases heq; exact b2k hc0 hd h hk
 · rename_i heq; cases heq
   obtain ⟨q, hq, rfl⟩ := b5m hc
   exact b4k hq h hk
 · rename_i heq; cases heq; exact (b4p hc0 h hk).does
 · rename_i op xt x y yt heq; cases heq
   split at hc
   · simp only [Option.some.injEq] at hc; subst hc; exact (b7p h hk).does
   · simp only [Option.some.injEq] at hc; subst hc; exact (b7p h hk).does
   · rename_i hu
     split at hc
     · simp only [Option.some.injEq] at hc; subst hc; exact (b0q hu rfl h hk).does
     · simp only [Option.some.injEq] at hc; subst hc; exact (b0q hu rfl h hk).does
     · cases hc
   · rename_i hu
     split at hc
     · simp only [Option.some.injEq] at hc; subst hc; exact (b3q hu rfl h hk).does
     · simp only [Option.some.injEq] at hc; subst hc; exact (b3q hu rfl h hk).does
     · cases hc
   · rename_i hu
     split at hc
     · simp only [Option.some.injEq] at hc; subst hc; exact (b6q hu rfl h hk).does
     · simp only [Option.some.injEq] at hc; subst hc; exact (b6q hu rfl h hk).does
     · cases hc
   · rename_i hu
     split at hc
     · rename_i hg
       cases hks : b3O P 20 xt with
       | none => rw [hks] at hc; cases hc
       | some ks =>
         rw [hks] at hc
         simp only [Option.bind_some] at hc
         split at hc
         · cases hc
         · rename_i hi
           have hi : b8N P xt = some ks.length := by simpa using hi
           split at hc
           · simp only [Option.some.injEq] at hc; subst hc; exact (a9l hu hg hks rfl h hk hi).does
           · simp only [Option.some.injEq] at hc; subst hc; exact (a9l hu hg hks rfl h hk hi).does
           · cases hc
     · cases hc
   · cases hc
 · rename_i heq; cases heq
   simp only [Option.some.injEq] at hc; subst hc; exact (b7q h hk).does
 · rename_i heq; cases heq
   split at hc
   · rename_i h1 h2
     simp only [Option.some.injEq] at hc; subst hc; exact (b8q h1 h2 h hk).does
   · cases hc
 · rename_i heq; cases heq
   simp only [Option.some.injEq] at hc; subst hc; exact (a2y h hk).does
 · -- makeMap
   rename_i heq; cases heq
   split at hc
   · rename_i k e hu
     obtain ⟨q, hq, rfl⟩ := b5m hc
     exact b5S (k := k) (e := e) hd h hk
   · cases hc
 · -- makeSlice
   rename_i heq; cases heq
   split at hc
   · rename_i hu
     obtain ⟨i, hi, hc⟩ := bind_some hc
     obtain ⟨z, hz, hc⟩ := bind_some hc
     split at hc
     · rename_i hp
       simp only [Option.pure_def, Option.some.injEq] at hc; subst hc
       exact c3N hu hi hz hp.1 hp.2 hd h hk
     · cases hc
   · cases hc
 · rename_i heq; cases heq
   split at hc
   · rename_i hu
     obtain ⟨sz, hsz, rfl⟩ := b5m hc
     exact (b3z hu hsz h hk).does
   · cases hc
 · rename_i heq; cases heq
   split at hc
   · rename_i hu
     obtain ⟨f, hf, hc⟩ := bind_some hc
     obtain ⟨q, hq, hc⟩ := bind_some hc
     split at hc
     · cases hc
     · rename_i hq0
       simp only [Option.pure_def, Option.some.injEq] at hc
       subst hc
       exact (b2y hu hf hq hq0 h hk).does
   · cases hc
 · rename_i heq; cases heq
   split at hc
   · rename_i hu
     obtain ⟨f, hf, hc⟩ := bind_some hc
     obtain ⟨q, hq, hc⟩ := bind_some hc
     obtain ⟨dd, hdd, hc⟩ := bind_some hc
     simp only [Option.pure_def, Option.some.injEq] at hc
     subst hc
     exact (b6y hu hf hq hdd h hk).does
   · cases hc
 · rename_i heq; cases heq
   split at hc
   · rename_i hu
     obtain ⟨sz, hsz, rfl⟩ := b5m hc
     exact (b7y hu hsz h hk).does
   · cases hc
 · rename_i heq; cases heq
   split at hc
   · rename_i hu
     simp only [Option.some.injEq] at hc; subst hc; exact (b8y hu h hk).does
   · rename_i hu
     split at hc
     · rename_i hq
       obtain ⟨dd, hd⟩ := Option.isSome_iff_exists.1 hq.2.2
       simp only [Option.some.injEq] at hc; subst hc; exact (b9y hu hq.1 hq.2.1 hd h hk).does
     · cases hc
   · cases hc
 · -- lookup
   rename_i heq; cases heq
   split at hc
   · rename_i hu
     obtain ⟨sk, hsk, hc⟩ := bind_some hc
     obtain ⟨z, hz, hc⟩ := bind_some hc
     split at hc
     · rename_i hza
       simp only [Option.pure_def, Option.some.injEq] at hc; subst hc
       exact c7L hu hsk hz hza hd h hk
     · cases hc
   · cases hc
 · -- mapEntry
   rename_i heq; cases heq
   split at hc
   · rename_i hu
     obtain ⟨sk, hsk, hc⟩ := bind_some hc
     obtain ⟨z, hz, hc⟩ := bind_some hc
     split at hc
     · rename_i hza
       simp only [Option.pure_def, Option.some.injEq] at hc; subst hc
       exact b4w hu hsk hz hza h hk
     · cases hc
   · cases hc
 · rename_i heq; cases heq
   simp only [Option.some.injEq] at hc; subst hc; exact b5w h hk
 · rename_i heq; cases heq
   split at hc
   · rename_i hu
     obtain ⟨q, hq, rfl⟩ := b5m hc; exact b1t hu hd h hk
   · cases hc
 · rename_i heq; cases heq
   simp only [Option.some.injEq] at hc; subst hc; exact b7t h hk
 · rename_i heq; cases heq
   simp only [Option.some.injEq] at hc; subst hc; exact b8t h hk
 · rename_i heq; cases heq
   split at hc
   · rename_i hu
     obtain ⟨q, hq, rfl⟩ := b5m hc; exact c8L hu hq h hk (.inl rfl)
   · cases hc
 · rename_i heq; cases heq
   split at hc
   · rename_i hu
     obtain ⟨q, hq, rfl⟩ := b5m hc; exact c8L hu hq h hk (.inr rfl)
   · cases hc
 · rename_i heq; cases heq
   simp only [Option.some.injEq] at hc; subst hc; exact (b9q h hk).does
 · rename_i c heq; cases heq
   obtain ⟨cl, args, ts⟩ := c
   simp only at hc
   split at hc
   · split at hc
     · rename_i hf
       simp only [Option.some.injEq] at hc; subst hc; exact c7y hf hd h hk
     · cases hc
   · simp only [Option.some.injEq] at hc; subst hc; exact c0z hd h hk
   · split at hc
     · rename_i x t h1 h2
       have e1 := arr1 h1
       have e2 := arr1 h2
       subst e1; subst e2
       split at hc
       · rename_i hu; simp only [Option.some.injEq] at hc; subst hc; exact (b0y rfl hu h hk).does
       · rename_i hu; simp only [Option.some.injEq] at hc; subst hc; exact (b1y rfl hu h hk).does
       · rename_i hu; simp only [Option.some.injEq] at hc; subst hc; exact b8f rfl hu h hk
       · cases hc
     · cases hc
   · split at hc
     · rename_i x y t u h1 h2
       have e1 := arr2 h1
       subst e1
       exact c0x hc0 hd h hk
     · cases hc
   · simp only [Option.some.injEq] at hc; subst hc; exact a0y (mx := false) h hk
   · simp only [Option.some.injEq] at hc; subst hc; exact a0y (mx := true) h hk
   · -- delete
     split at hc
     · rename_i m k t ts' h1 h2
       have e1 := arr2 h1
       subst e1
       split at hc
       · rename_i hu
         obtain ⟨q, hq, rfl⟩ := b5m hc
         exact b7f (by rw [← Array.getElem?_toList, h2]; rfl) hu hq h hk
       · cases hc
     · cases hc
   · -- copy
     split at hc
     · rename_i x y t ts' h1 h2
       have e1 := arr2 h1
       subst e1
       split at hc
       · rename_i hu
         obtain ⟨q, hq, rfl⟩ := b5m hc
         exact b8w (by rw [← Array.getElem?_toList, h2]; rfl) hu hq h hk
       · cases hc
     · cases hc
   · -- clear
     split at hc
     · rename_i x t ts' h1 h2
       have e1 := arr1 h1
       subst e1
       split at hc
       · rename_i hu
         obtain ⟨i, hi, hc⟩ := bind_some hc
         obtain ⟨z, hz, hc⟩ := bind_some hc
         split at hc
         · rename_i hzl
           simp only [Option.some.injEq] at hc; subst hc
           exact a4L (by rw [← Array.getElem?_toList, h2]; rfl) hu hi hz hzl h hk
         · cases hc
       · cases hc
     · cases hc
   · cases hc
 · cases hc
end
end Go.Vm
end

section
namespace Go.Vm
inductive VT where
 | done
 | op (o : VOp) (t : VT)
 | alt (a b : VT)
 deriving Inhabited
inductive VCode where
 | skip
 | reg (ops : List VOp)
 | any (t : VT)
 | seq (a b : VCode)
 | cond (x : Operand) (t e : VCode)
 | block (id : Nat) (c : VCode)
 | loop (c : VCode)
 | exit (id : Nat)
 | ret
 | goto (l : Nat)
 | scope (c : VCode)
 | scopeL (c : VCode) (l : Nat) (rest : VCode)
 | rng (g : Operand) (ps : List Nat) (x y : VCode)
 deriving Inhabited
def St.lit (s : St) (t : Nat) (b : Bool) : St := ⟨(t, .iv (.v (.bool b))) :: s.fr, s.hp⟩
theorem c3B {s : St} {t : Nat} {b : Bool} (h : s.get t = .iv (.v (.bool b))) (i : Nat) : (s.lit t b).get i = s.get i := by
 simp only [St.get, St.lit, look]
 split
 · rename_i e
   subst e
   simp only [St.get] at h
   rw [h]; rfl
 · rfl
theorem SimAt.lit {E : En} {n : Nat} {ψ : Pl} {s : St} {a : Act} {w : World} (h : SimAt E n ψ s a w) {t : Nat} {b : Bool} (hb : s.get t = .iv (.v (.bool b))) : SimAt E n ψ (s.lit t b) a w :=
 { h with frame := fun i => by rw [c3B hb]; exact h.frame i }
def vop1 (P : Program) (o : VOp) (s : St) (K : St → Prop) : Prop :=
 match o.g with
 | none => stp P (o.d.getD 999) s (fun s' x => K (s'.put o.d x)) o.r
 | some (t, b) => match s.get t with
   | .iv (.v (.bool c)) => (c = b → stp P (o.d.getD 999) (s.lit t b) (fun s' x => K (s'.put o.d x)) o.r) ∧ (c = !b → K ((s.lit t !b).put o.d .un))
   | .un => K (s.put o.d .un)
   | _ => False
def vops (P : Program) : List VOp → St → (St → Prop) → Prop
 | [], s, K => K s
 | o :: r, s, K => vop1 P o s fun s' => vops P r s' K
def c4B (P : Program) : VT → St → (St → Prop) → Prop
 | .done, s, K => K s
 | .op o t, s, K => vop1 P o s fun s' => c4B P t s' K
 | .alt a b, s, K => c4B P a s K ∧ c4B P b s K
section
variable {P : Program} {E : En} {n : Nat} {s : St} {a : Act} {w : World}
theorem c5B {ψ : Pl} (h : SimAt E n ψ s a w) {ops : Array Oper} {j t : Nat} (ht : (ops[j]?).bind (·.dst) = some t) :
   (∀ c, s.get t = .iv (.v (.bool c)) → yielded ops a.tmps j = some c) ∧ (s.get t = .un → yielded ops a.tmps j = none) := by
 have hf := h.frame t
 unfold yielded
 rw [ht]
 simp only [Option.bind_some]
 constructor
 · intro c hc
   rw [hc] at hf
   have hv := b2o hf
   by_cases hlt : t < a.tmps.size
   · rw [getD_some hlt (d := undef), hv]
   · rw [Array.getD_eq_getD_getElem?, Array.getElem?_eq_none (by omega)] at hv; cases hv
 · intro hc
   rw [hc] at hf
   have hv : a.tmps.getD t undef = undef := by
     generalize a.tmps.getD t undef = z at hf
     cases hf; rfl
   by_cases hlt : t < a.tmps.size
   · rw [getD_some hlt (d := undef), hv]; rfl
   · rw [Array.getElem?_eq_none (by omega)]
theorem c6B {ops : Array Oper} {o : Oper} {vo : VOp} (hc : b9P P n ops o = some vo) (hn : n ≤ 999) {K : St → Prop} {K' : Act → World → Prop} (hs : Sim E n s a w)
   (hk : vop1 P vo s K) (hK : ∀ s' a' w', Sim E n s' a' w' → K s' → K' a' w') :
   if Region.wanted o (yielded ops a.tmps) then wpR P o a w K' else K' (a.put o.dst undef) w := by
 obtain ⟨ψ, h⟩ := hs
 unfold b9P at hc
 obtain ⟨g, hg, hc⟩ := bind_some hc
 obtain ⟨r, hr, hc⟩ := bind_some hc
 split at hc
 · rename_i hdst
   simp only [Option.pure_def, Option.some.injEq] at hc
   subst hc
   have hd : ∀ i, o.dst = some i → i < n := by
     intro i hi; rw [hi] at hdst; simpa [dstOk] using hdst
   have hd2 : o.dst.getD 999 < 1000 := by
     cases ho : o.dst with
     | none => simp
     | some i => exact Nat.lt_of_lt_of_le (hd i ho) (Nat.le_trans hn (by decide))
   have run : ∀ s1, SimAt E n ψ s1 a w → stp P (o.dst.getD 999) s1 (fun s' x => K (s'.put o.dst x)) r → wpR P o a w K' := by
     intro s1 h1 hst
     refine b6m hr hd2 h1 hst K' (fun _ _ _ => False) ?_
     intro s' av ψ' v w' hk hs hv
     refine hK (s'.put o.dst av) _ _ ⟨ψ', hs.put hd hv⟩ hk
   have skip : ∀ s1, SimAt E n ψ s1 a w → K (s1.put o.dst .un) → K' (a.put o.dst undef) w := fun s1 h1 hk => hK _ _ _ ⟨ψ, h1.put hd .un⟩ hk
   unfold b2P at hg
   cases hgd : o.guard with
   | none =>
     rw [hgd] at hg
     simp only [Option.some.injEq] at hg
     subst hg
     simp only [vop1] at hk
     rw [if_pos (by simp [Region.wanted, hgd])]
     exact run _ h hk
   | some jb =>
     obtain ⟨j, b⟩ := jb
     rw [hgd] at hg
     obtain ⟨t, ht, rfl⟩ := b5m hg
     simp only [vop1] at hk
     have hy := c5B h ht
     split at hk
     · rename_i c hc
       have hyc := hy.1 c hc
       by_cases hcb : c = b
       · rw [if_pos (by simp [Region.wanted, hgd, hyc, hcb])]
         subst hcb
         exact run _ (h.lit (by assumption)) (hk.1 rfl)
       · rw [if_neg (by simp [Region.wanted, hgd, hyc, hcb])]
         have hcb' : c = !b := by cases c <;> cases b <;> simp_all
         subst hcb'
         exact skip _ (h.lit (by assumption)) (hk.2 rfl)
     · rename_i hc
       have hyc := hy.2 hc
       rw [if_neg (by simp [Region.wanted, hgd, hyc])]
       exact skip _ h hk
     · exact hk.elim
 · cases hc
def c7B (P : Program) (ops : Array Oper) (Q : Exit → Act → World → Prop) : List Oper → Act → World → Prop
 | [], a, w => Q .normal a w
 | o :: rest, a, w => if Region.wanted o (yielded ops a.tmps) then wpR P o a w (c7B P ops Q rest) else c7B P ops Q rest (a.put o.dst undef) w
theorem c8B {ops : Array Oper} {Q : Exit → Act → World → Prop} (ro : Option Nat) (m : Nat) : ∀ (l : List Oper), (∀ o ∈ l, ∀ c, o.op ≠ .defer c) → ∀ (a : Act) (w : World), c7B P ops Q l a w → wpListIn (c5C ro) m P ops Q l a w := by
 intro l
 induction l with
 | nil => intro _ a w h; exact h
 | cons o l ih =>
   intro hnd a w h
   have ih := ih fun o ho => hnd o (List.mem_cons_of_mem _ ho)
   simp only [c7B] at h
   simp only [wpListIn]
   split
   · rename_i hw
     rw [if_pos hw] at h
     exact Oper.wpIn_mono ih (c7C (hnd o List.mem_cons_self) h ro m Q)
   · rename_i hw
     rw [if_neg hw] at h
     exact ⟨fun _ _ => by cases ro <;> trivial, ih _ _ h⟩
theorem c9B {ops : Array Oper} (hn : n ≤ 999) {N : St → Prop} {Q : Exit → Act → World → Prop} (hQ : ∀ s a w, Sim E n s a w → N s → Q .normal a w) :
   ∀ (l : List Oper) (vl : List VOp) (s : St) (a : Act) (w : World), l.mapM (b9P P n ops) = some vl → Sim E n s a w → vops P vl s N → c7B P ops Q l a w := by
 intro l
 induction l with
 | nil => intro vl s a w hc hs hk; simp at hc; subst hc; exact hQ _ _ _ hs hk
 | cons o l ih =>
   intro vl s a w hc hs hk
   rw [List.mapM_cons] at hc
   obtain ⟨vo, ho, hc⟩ := bind_some hc
   obtain ⟨vr, hr, hc⟩ := bind_some hc
   simp only [Option.pure_def, Option.some.injEq] at hc
   subst hc
   simp only [vops] at hk
   have := c6B (K' := c7B P ops Q l) ho hn hs hk (fun s' a' w' hs' hk' => ih vr s' a' w' hr hs' hk')
   unfold c7B
   exact this
end
end Go.Vm
end
