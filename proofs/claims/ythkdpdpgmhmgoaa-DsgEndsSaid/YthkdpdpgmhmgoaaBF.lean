/- Contracts of functions of the program, and what they lean on. Conditions: those of each theorem. -/
import Derived.Test.YthkdpdpgmhmgoaaBE
import Derived.Test.YthkdpdpgmhmgoaaBC
import Derived.Test.YthkdpdpgmhmgoaaBD
import Derived.Shelf.SlSortCmp.NoneTotal
import Derived.Test.YthkdpdpgmhmgoaaRows

set_option linter.unusedVariables false
set_option linter.unusedSimpArgs false

section
namespace Go.Rt
open Go.Vm
abbrev skRf : Sk := (true, [.b, .i .i64, .s], true)
def b7V (l : List Rf) (k : Vl) : Option Rf := c3H (fun r : Rf => decide (r.key = k)) l
def gRf (l : List Rf) : List Value → Option (List IV)
 | [.bool t, .int .i64 n, .string s] => (b7V l ⟨t, n, s⟩).map fun r => r.frm.cells
 | _ => none
theorem b8V : gRf [] = fun _ => none := by
 funext q; unfold gRf; split
 · rfl
 · rfl
theorem b9V (l : List Rf) (r : Rf) : gset (gRf l) [.bool r.key.text, .int .i64 r.key.n, .string r.key.s] (some [ci r.frm.txn, ci r.frm.n]) = gRf (l ++ [r]) := by
 funext q
 simp only [gset]
 split
 · rename_i h; subst h
   simp only [gRf, b7V, c4H]
   rw [if_pos (by simp)]
   rfl
 · rename_i hne
   unfold gRf
   split
   · rename_i t n s
     simp only [b7V, c4H]
     rw [if_neg]
     intro hk
     rw [decide_eq_true_eq] at hk
     exact hne (by rw [hk])
   · rfl
theorem b0W (l : List Rf) (t : Bool) (n : Int) (s : ByteArray) :
   lkR [.iv (.v (.int .i64 0)), .iv (.v (.int .i64 0))] true false (gRf l [Value.bool t, Value.int .i64 n, Value.string s]) = (b5k l ⟨t, n, s⟩).av := by
 simp only [gRf, b5k]
 unfold b7V
 cases c3H (fun r : Rf => decide (r.key = ⟨t, n, s⟩)) l with
 | none => rfl
 | some r => rfl
set_option maxHeartbeats 8000000 in
theorem b1W {h : Hs} (hol : h.order.length < 2 ^ 62) (x : Value) (e : Ev) (heok : e.Ok) (hrow : b9C h.events) (hc : ∀ k, (chaB h.events h.order e.table k).length < 2 ^ 42) (S : Eg → Prop) :
   b9l prog false n_a3g [.iv (grIV h x), e.av] (grH S x) (.tup []) (grH (addK S (b8k h e) ((h.order.filter (ofT e.table)).map Ins.key)) x) := by
 refine a5F a3g_is (by simp) (by decide) (by simp) (by simp [Ob.isLent]) ?_
 simp -dsimp [a1g_saw, Ev.av, Ev.cells_eq e]
 refine a2E [] [6] e.refs.length (fun i => ⟨[(16, vi i), (15, vi e.refs.length), (14, .iv (.lst 5 (c8t e.refs))), (4, .ptr 4 0), (3, .ptr 3 0), (2, .ptr 2 0)],
   [(4, .box [.mpr 12]), (12, .map skRf (gRf (e.refs.take i))), (3, .box (e.cells.map .iv)), (2, .box [.iv (grIV h x)])] ++ grH S x⟩) (fun _ => True) ?_ trivial ?_
 · simp -dsimp [b8V, Ev.cells_eq e]
 · intro i hi _
   simp -dsimp [a3g_l7]
   have hrl := heok.refs
   refine ⟨fun hlt => ?_, fun hge => ?_⟩
   · obtain ⟨r, hr⟩ := c7z hlt
     have hw := c8z (n := (i : Int) + 1) (by omega)
     have hst : e.refs.take (i + 1) = e.refs.take i ++ [r] := by rw [List.take_add_one, hr]; rfl
     simp -dsimp [hr, hw, Rf.cells_eq r, b9V, hst]
     exact hlt
   · rw [List.take_of_length_le hge]
     simp -dsimp [Ev.cells_eq e]
     refine c4N (b6r h e.table x) rfl (by simp) (by simp) (by simp) (by simp) ?_
     simp -dsimp
     have hev : Ob.box [AV.iv (ci e.txn), AV.iv (ci e.kind), AV.iv (ci e.level), AV.iv (ci e.table), AV.iv (cb e.key.text), AV.iv (ci e.key.n), AV.iv (IV.v (Value.string e.key.s)),
                       AV.iv (ci e.frm.txn), AV.iv (ci e.frm.n), AV.iv (ci e.n), AV.iv (IV.lst 3 (rowC e.row)),
                       AV.iv (ci e.pred.op), AV.iv (ci e.pred.col), AV.iv (cb e.pred.v.text), AV.iv (ci e.pred.v.n),
                       AV.iv (IV.v (Value.string e.pred.v.s)), AV.iv (cb e.pred.w.text), AV.iv (ci e.pred.w.n),
                       AV.iv (IV.v (Value.string e.pred.w.s)), AV.iv (IV.lst 9 (List.map Pd.cells e.pred.l)),
                       AV.iv (IV.lst 5 (c8t e.refs)), AV.iv (cb e.cur)] = .box (e.cells.map .iv) := by rw [Ev.cells_eq e]; rfl
     rw [hev]
     refine b2u [902, 903] [7, 9] 990 [(29, .fn n_a3h [] [.val (.pt [grIV h x]), .val (.pt [ci e.table])]), (4, .ptr 4 0), (3, .ptr 3 0), (2, .ptr 2 0)] (fun p => ∃ i, p = b2r h ((h.order.take i).filter (ofT e.table)))
       (fun p => (4, .box [.mpr 12]) :: (12, .map skRf (gRf e.refs)) :: (3, .box (e.cells.map .iv)) :: (2, .box [.iv (grIV h x)]) :: grH (addK S (b8k h e) (b7z p)) x) (b4r hol e.table x hc) ?_ (by simp) b7r (by decide) (by simp) (by simp) ?_ ⟨0, rfl⟩ ?_ ?_
     · simp -dsimp [b7z, a2w]
     · rintro pre _ ⟨i, o, _, _, _, rfl⟩
       rfl
     · rintro vs _ _ ⟨j, rfl⟩ ⟨i, o, ho, ht, hpre, rfl⟩
       have hst := b3r (table := e.table) ho
       rw [if_pos ht] at hst
       rw [hpre]
       have hrw : b2r h ((h.order.take i).filter (ofT e.table)) ++ [rowO h o] = b2r h ((h.order.take (i + 1)).filter (ofT e.table)) := by
         rw [hst]; simp [b2r]
       refine ⟨⟨i + 1, hrw⟩, ?_⟩
       have hks : b7z (b2r h ((h.order.take i).filter (ofT e.table)) ++ [rowO h o]) = b7z (b2r h ((h.order.take i).filter (ofT e.table))) ++ [o.key] := by
         unfold b7z; rw [List.map_append]; rfl
       have hro : rowO h o = [o.key.av, .iv (.lst 2 (vsC (chaB h.events h.order e.table o.key)))] := by unfold rowO; rw [ht]
       have hlen := hc o.key
       have hP := b2J h.events h.order e.table o.key (b5k e.refs o.key) hrow hlen
       have hCh : ∀ n : Int, b9l prog true n_a8b [.iv (bkIV h.events h.order), vi e.table, o.key.av, vi n, e.pred.av] [] (vb (chgB h.events h.order e.table o.key n e.pred)) [] := fun n => c5c h.events h.order e.table o.key n heok.pred hrow hlen
       rw [hks, hro]
       simp -dsimp [a3g_a23, a3g_b24, parS, St.set_mk, frCs, b0W, Ev.cells_eq e]
       simp -dsimp [grIV]
       refine a5C hP (by simp) (by simp) ?_
       by_cases hskip : plaB h.events h.order e.table o.key (b5k e.refs o.key) < 0 ∨ (b5k e.refs o.key).txn = e.txn
       · have hK : b8k h e o.key = [] := by unfold b8k; rw [if_pos hskip]
         rw [a4w _ _ _ _ hK]
         by_cases h0 : plaB h.events h.order e.table o.key (b5k e.refs o.key) < 0
         · simp -dsimp [h0]
           rfl
         · have h1 := hskip.resolve_left h0
           simp -dsimp [h0, h1]
           rfl
       · have h0 : ¬plaB h.events h.order e.table o.key (b5k e.refs o.key) < 0 := fun g => hskip (.inl g)
         have h1 : ¬(b5k e.refs o.key).txn = e.txn := fun g => hskip (.inr g)
         have hK : b8k h e o.key = (List.range (chaB h.events h.order e.table o.key).length).flatMap (b7k h e o.key (plaB h.events h.order e.table o.key (b5k e.refs o.key))) := by unfold b8k; rw [if_neg hskip]
         rw [a3w _ (b8k h e) _ o.key (b7k h e o.key (plaB h.events h.order e.table o.key (b5k e.refs o.key))) (chaB h.events h.order e.table o.key).length (fun m => by rw [hK]; exact mem_range)]
         have hf : ∀ q, b7k h e o.key (plaB h.events h.order e.table o.key (b5k e.refs o.key)) q = if chgB h.events h.order e.table o.key q e.pred = true then
             [if (q : Int) ≤ plaB h.events h.order e.table o.key (b5k e.refs o.key) then ⟨(((chaB h.events h.order e.table o.key)[q]?).getD ⟨0, 0⟩).txn, e.txn, 3, e.table, o.key, false⟩ else ⟨e.txn, (((chaB h.events h.order e.table o.key)[q]?).getD ⟨0, 0⟩).txn, 5, e.table, o.key, false⟩] else [] := fun q => rfl
         generalize b7k h e o.key (plaB h.events h.order e.table o.key (b5k e.refs o.key)) = f at hf ⊢
         generalize plaB h.events h.order e.table o.key (b5k e.refs o.key) = p at *
         generalize addK S (b8k h e) (b7z (b2r h ((h.order.take i).filter (ofT e.table)))) = S0
         generalize chaB h.events h.order e.table o.key = c at *
         simp -dsimp [h0, h1]
         refine a2E [] [] c.length (fun q => ⟨[(55, vi q), (54, vi c.length), (10, vi p), (8, .iv (.lst 2 (vsC c))), (7, .ptr 7 0), (3, .ptr 3 0), (2, .ptr 2 0)],
           [(9, .box ((b5k e.refs o.key).cells.map .iv)), (7, .box (o.key.cells.map .iv)), (990, .gh ZT vs [.fn n_a3h [] [.val (.pt [grIV h x]), .val (.pt [ci e.table])], .ptr 4 0, .ptr 3 0, .ptr 2 0]),
             (4, .box [.mpr 12]), (12, .map skRf (gRf e.refs)), (3, .box (e.cells.map .iv)), (2, .box [.iv (grIV h x)])] ++ grH (addL S0 f q) x⟩) (fun _ => True) ?_ trivial ?_
         · simp -dsimp [a9v, Ev.cells_eq e, grIV]
         · intro q hq _
           have hP9 : List.take 9 (List.drop 11 (e.cells.map AV.iv)) = e.pred.cells.map AV.iv := Ev.pred_at e
           simp -dsimp [a3g_l22, Ev.cells_eq e]
           simp -dsimp [grIV]
           refine ⟨fun hlt => ?_, fun hge => ?_⟩
           · obtain ⟨v, hv⟩ := c7z hlt
             have hw := c8z (n := (q : Int) + 1) (by omega)
             refine a5C (hCh q) (by simp [Pd.av_eq]) (by simp [Pd.av_eq]) ?_
             have hfq := hf q
             rw [hv] at hfq
             cases hchg : chgB h.events h.order e.table o.key q e.pred with
             | false =>
               rw [hchg, if_neg (by simp)] at hfq
               have hadd := a0w (S := S0) hfq
               simp -dsimp [hchg, hw, hadd]
               exact ⟨hlt, rfl⟩
             | true =>
               rw [hchg, if_pos rfl] at hfq
               by_cases hle : (q : Int) ≤ p
               · rw [if_pos hle] at hfq
                 have hadd := a1w (S := S0) hfq
                 simp -dsimp [hchg, hle, hv]
                 refine a8G (a8v h (addL S0 f q) x ⟨v.txn, e.txn, 3, e.table, o.key, false⟩) rfl (by simp) (by simp [Eg.av, Eg.cells, grIV]) (by simp [Eg.av, Eg.cells]) (by simp) (by simp) (by simp) (by simp) ?_
                 have hadd' : addE (addL S0 f q) ⟨v.txn, e.txn, 3, e.table, o.key, false⟩ = addL S0 f (q + 1) := hadd.symm
                 rw [hadd']
                 simp -dsimp [hw]
                 exact ⟨hlt, rfl⟩
               · rw [if_neg hle] at hfq
                 have hadd := a1w (S := S0) hfq
                 simp -dsimp [hchg, hle, hv]
                 refine a8G (a8v h (addL S0 f q) x ⟨e.txn, v.txn, 5, e.table, o.key, false⟩) rfl (by simp) (by simp [Eg.av, Eg.cells, grIV]) (by simp [Eg.av, Eg.cells]) (by simp) (by simp) (by simp) (by simp) ?_
                 have hadd' : addE (addL S0 f q) ⟨e.txn, v.txn, 5, e.table, o.key, false⟩ = addL S0 f (q + 1) := hadd.symm
                 rw [hadd']
                 simp -dsimp [hw]
                 exact ⟨hlt, rfl⟩
           · rw [show q = c.length by omega]
     · rintro vs _ _ hS
       rw [hS, b8z]
       simp -dsimp [frCs]
end Go.Rt
end

section
namespace Go.Rt
open Go.Vm
def b9w : List Int → Int → Int
 | [], z => z
 | d :: r, z => if d ≠ 0 then d else b9w r z
set_option maxHeartbeats 4000000 in
theorem b0x (a b : Eg) : b9l prog true n_a8g [a.av, b.av] [] (vi (a.cmp0 b)) [] := by
 have hc : a.cmp0 b = b9w [IntKind.i64.wrap (a.frm - b.frm), IntKind.i64.wrap (a.to - b.to), IntKind.i64.wrap (a.kind - b.kind), IntKind.i64.wrap (a.table - b.table)] (a.key.cmp b.key) := rfl
 rw [hc]
 refine a9D a8g_is (by simp [Eg.av]) (by decide) rfl ?_
 simp -dsimp [b5s, Eg.av, Eg.cells, b0Q]
 generalize IntKind.i64.wrap (a.frm - b.frm) = d0
 generalize IntKind.i64.wrap (a.to - b.to) = d1
 generalize IntKind.i64.wrap (a.kind - b.kind) = d2
 generalize IntKind.i64.wrap (a.table - b.table) = d3
 refine a2E [] [] 4 (fun i => ⟨[(28, vi i), (27, .agg [vi d0, vi d1, vi d2, vi d3]), (2, .ptr 2 0), (3, .ptr 3 0)], [(2, .box (a.cells.map .iv)), (3, .box (b.cells.map .iv))]⟩)
   (fun i => (0 < i → d0 = 0) ∧ (1 < i → d1 = 0) ∧ (2 < i → d2 = 0) ∧ (3 < i → d3 = 0)) ?_ (by omega) ?_
 · simp -dsimp [Eg.cells]
 · intro i hi ⟨q0, q1, q2, q3⟩
   have w1 : IntKind.i64.wrap 1 = 1 := c8z (by omega)
   have w2 : IntKind.i64.wrap 2 = 2 := c8z (by omega)
   have w3 : IntKind.i64.wrap 3 = 3 := c8z (by omega)
   have w4 : IntKind.i64.wrap 4 = 4 := c8z (by omega)
   have hcase : i = 0 ∨ i = 1 ∨ i = 2 ∨ i = 3 ∨ i = 4 := by omega
   rcases hcase with rfl | rfl | rfl | rfl | rfl
   · by_cases h0 : d0 = 0
     · simp -dsimp [a8g_l7, h0, Eg.cells, w1]
     · simp -dsimp [a8g_l7, h0, b9w]
   · have q0 := q0 (by omega)
     by_cases h0 : d1 = 0
     · simp -dsimp [a8g_l7, h0, q0, Eg.cells, w2]
     · simp -dsimp [a8g_l7, h0, b9w, q0]
   · have q0 := q0 (by omega)
     have q1 := q1 (by omega)
     by_cases h0 : d2 = 0
     · simp -dsimp [a8g_l7, h0, q0, q1, Eg.cells, w3]
     · simp -dsimp [a8g_l7, h0, b9w, q0, q1]
   · have q0 := q0 (by omega)
     have q1 := q1 (by omega)
     have q2 := q2 (by omega)
     by_cases h0 : d3 = 0
     · simp -dsimp [a8g_l7, h0, q0, q1, q2, Eg.cells, w4]
     · simp -dsimp [a8g_l7, h0, b9w, q0, q1, q2]
   · have q0 := q0 (by omega)
     have q1 := q1 (by omega)
     have q2 := q2 (by omega)
     have q3 := q3 (by omega)
     simp -dsimp [a8g_l7, q0, q1, q2, q3, b9w, Eg.cells]
     refine a5C (b3G a.key b.key) (by simp) (by simp) ?_
     simp -dsimp [b9w, q0, q1, q2, q3]
set_option maxHeartbeats 4000000 in
theorem b1x (a b : Eg) : b9l prog true n_a7g [a.av, b.av] [] (vi (a.cmp b)) [] := by
 refine a9D a7g_is (by simp [Eg.av]) (by decide) rfl ?_
 have hc : a.cmp b = if a.cmp0 b ≠ 0 ∨ a.cursor = b.cursor then a.cmp0 b else if b.cursor = true then -1 else 1 := rfl
 have hs := b0x a b
 rw [hc]
 generalize a.cmp0 b = c at *
 simp -dsimp [a7g, Eg.av, Eg.cells]
 refine a5C hs (by simp [Eg.av, Eg.cells]) (by simp [Eg.av, Eg.cells]) ?_
 by_cases h0 : c = 0
 · cases hca : a.cursor <;> cases hcb : b.cursor <;> simp -dsimp [h0]
 · simp -dsimp [h0]
set_option maxHeartbeats 4000000 in
theorem b2x (a b : Eg) (ha : a.key.s.size < 2 ^ 63) : b9l prog true n_a8f [a.av, b.av] [] (vb (a.lss b)) [] := by
 refine a9D a8f_is (by simp [Eg.av]) (by decide) rfl ?_
 unfold Eg.lss
 have hs := b0H a.key b.key ha
 generalize a.key.cmp b.key = c at *
 by_cases h1 : a.frm = b.frm
 · by_cases h2 : a.to = b.to
   · by_cases h3 : a.kind = b.kind
     · by_cases h4 : a.table = b.table
       · simp -dsimp [a8f, Eg.av, Eg.cells, h1, h2, h3, h4]
         refine a5C hs (by simp) (by simp) ?_
         by_cases h5 : c = 0
         · cases hca : a.cursor <;> simp -dsimp [h5]
         · simp -dsimp [h5]
       · simp -dsimp [a8f, Eg.av, Eg.cells, h1, h2, h3, h4]
     · simp -dsimp [a8f, Eg.av, Eg.cells, h1, h2, h3]
   · simp -dsimp [a8f, Eg.av, Eg.cells, h1, h2]
 · simp -dsimp [a8f, Eg.av, Eg.cells, h1]
end Go.Rt
end

section
namespace Go.Vm
open Go.Sort (Holds HoldsK putRow putRowK flatK grow putCells mapBlock)
open Go.Proofs (sortWorldK)
set_option linter.unusedSectionVars false
section
variable {α : Type} [Inhabited α]
def b0N (enc : α → List Value) (x : α) : List IV := (enc x).map IV.v
theorem b1N {enc : α → List Value} {xs : List α} {i j : Nat} {c : IV} (h : at2 (xs.map (b0N enc)) i j = some c) : ∃ x v, xs[i]? = some x ∧ (enc x)[j]? = some v ∧ c = .v v := by
 unfold at2 at h
 rw [List.getElem?_map] at h
 cases hx : xs[i]? with
 | none => rw [hx] at h; simp at h
 | some x =>
   rw [hx] at h
   simp only [Option.map_some, Option.bind_some, b0N, List.getElem?_map] at h
   cases hv : (enc x)[j]? with
   | none => rw [hv] at h; simp at h
   | some v => rw [hv] at h; simp at h; exact ⟨x, v, rfl, hv, h.symm⟩
theorem b2N {enc : α → List Value} {xs : List α} {i j : Nat} {x : α} {v : Value} (hx : xs[i]? = some x) (hv : (enc x)[j]? = some v) : at2 (xs.map (b0N enc)) i j = some (.v v) := by
 unfold at2
 rw [List.getElem?_map, hx]
 simp [b0N, hv]
theorem b3N {A : Nat → Prop} {w : World} {u v : Value} (h : RIV A w (.v u) v) : v = u := by cases h; rfl
theorem b4N {l : List α} {i : Nat} {x : α} (h : l[i]? = some x) : l.toArray[i]! = x := by
 obtain ⟨h1, h2⟩ := List.getElem?_eq_some_iff.1 h
 simp [h1, h2]
theorem b5N {l : List Value} {i : Nat} {x : Value} (h : l[i]? = some x) : l[i]! = x := by
 obtain ⟨h1, h2⟩ := List.getElem?_eq_some_iff.1 h
 simp [h1, h2]
theorem b6N {P : Program} {f g : FuncId} (k : Nat) (hk0 : 0 < k) (enc : α → List Value) (hk : ∀ x, (enc x).length = k) (h1 : ∀ x, ∀ v ∈ enc x, v.oneCell' = true) (F : List α → List α) (hF : ∀ l, (F l).length = l.length)
   (hs : ∀ (blk off cap : Nat) (zs : List α) (w : World), HoldsK enc k w blk off zs.toArray → blk < w.heap.size → zs.length < 4611686018427387904 →
     Calls P f #[.slice (some ⟨blk, off, none⟩) zs.length cap, .func (.func g) #[] #[]] w fun e w' => e = .returned (.tuple #[]) ∧ ∃ n os, w' = sortWorldK enc k w blk off n (F zs).toArray os)
   (hn : ∀ (p : Option Addr) (cap : Nat) (fv : Value) (w : World), Calls P f #[.slice p 0 cap, fv] w fun e w' => e = .returned (.tuple #[]) ∧ w' = w)
   (xs : List α) (hl : xs.length < 2 ^ 62) : b9l P false f [.sl 1000 k 0 xs.length, .fn g [] []] [(1000, .list k (xs.map (b0N enc)))] (.tup []) [(1000, .list k ((F xs).map (b0N enc)))] := by
 have hlen : (F xs).length = xs.length := hF xs
 have look1 : ∀ {o : Ob} {id : Nat} {q : Ob}, look [(1000, o)] id = some q → id = 1000 ∧ q = o := by
   intro o id q h
   simp only [look] at h
   split at h
   · exact ⟨by omega, by cases h; rfl⟩
   · cases h
 refine ⟨⟨fun id o h => by obtain ⟨_, rfl⟩ := look1 h; rfl, fun id o h => by obtain ⟨_, rfl⟩ := look1 h; rfl⟩, ?_⟩
 intro A ψ w vs hA hob hinj hsubs hheld hvl hrav
 have ho := hob 1000 (.list k (xs.map (b0N enc))) rfl
 have hr := hrav 0 _ rfl
 have hg := hrav 1 _ rfl
 obtain ⟨v, fv, rfl⟩ : ∃ v fv, vs = [v, fv] := by
   match vs, hvl with
   | [v, fv], _ => exact ⟨v, fv, rfl⟩
 simp only [List.getD_eq_getElem?_getD, List.getElem?_cons_zero, List.getElem?_cons_succ, Option.getD_some] at hr hg
 obtain rfl : fv = .func (.func g) #[] #[] := by
   cases hg with
   | fn _ _ _ vf vc hf hc _ _ =>
     obtain rfl : vf = #[] := Array.eq_empty_of_size_eq_zero (by simpa using hf)
     obtain rfl : vc = #[] := Array.eq_empty_of_size_eq_zero (by simpa using hc)
     rfl
 have key : ∀ (w' : World), w.heap.size ≤ w'.heap.size → Same w w' → (∀ b, b < w.heap.size → ¬Held ψ [(1000, .list k (xs.map (b0N enc)))] b → w'.heap[b]? = w.heap[b]?) →
     ROb (fun b => ((false = false ∧ A b) ∨ w.heap.size ≤ b) ∧ ¬Held ψ [(1000, .list k ((F xs).map (b0N enc)))] b) ψ [(1000, .list k ((F xs).map (b0N enc)))] w' 1000 (.list k ((F xs).map (b0N enc))) →
     ∃ v ψ', (Ending.returned (.tuple #[]) : Ending) = .returned v ∧
     (∀ b, b < w.heap.size → ¬Held ψ [(1000, .list k (xs.map (b0N enc)))] b → w'.heap[b]? = w.heap[b]?) ∧ w.heap.size ≤ w'.heap.size ∧ Same w w' ∧
     (∀ id o, look [(1000, Ob.list k (xs.map (b0N enc)))] id = some o → ψ'.main id = ψ id) ∧
     (∀ id o b, look [(1000, Ob.list k ((F xs).map (b0N enc)))] id = some o → Owns ψ' id b → (∃ o0, look [(1000, Ob.list k (xs.map (b0N enc)))] id = some o0 ∧ Owns ψ id b) ∨ w.heap.size ≤ b) ∧
     (∀ id id' o o' b, look [(1000, Ob.list k ((F xs).map (b0N enc)))] id = some o → look [(1000, Ob.list k ((F xs).map (b0N enc)))] id' = some o' → Owns ψ' id b → Owns ψ' id' b → id = id') ∧ Subs ψ' [(1000, .list k ((F xs).map (b0N enc)))] w' ∧
     (∀ id o, look [(1000, Ob.list k ((F xs).map (b0N enc)))] id = some o → ROb (fun b => ((false = false ∧ A b) ∨ w.heap.size ≤ b) ∧ ¬Held ψ' [(1000, .list k ((F xs).map (b0N enc)))] b) ψ' [(1000, .list k ((F xs).map (b0N enc)))] w' id o) ∧
     RAV (fun b => ((false = false ∧ A b) ∨ w.heap.size ≤ b) ∧ ¬Held ψ' [(1000, .list k ((F xs).map (b0N enc)))] b) ψ' [(1000, .list k ((F xs).map (b0N enc)))] w' (.tup []) v := by
   intro w' h1 h2 h3 h4
   refine ⟨.tuple #[], ψ, rfl, h3, h1, h2, fun _ _ _ => rfl, fun id o b h hb => .inl ?_, fun id id' o o' b h h' _ _ => ?_, fun id o b h hb => ?_, fun id o h => ?_, .tup [] #[] rfl (fun i c h => by simp at h)⟩
   · obtain ⟨rfl, rfl⟩ := look1 h; exact ⟨.list k (xs.map (b0N enc)), rfl, hb⟩
   · obtain ⟨rfl, _⟩ := look1 h; obtain ⟨rfl, _⟩ := look1 h'; rfl
   · obtain ⟨rfl, rfl⟩ := look1 h
     have := (hsubs 1000 (.list k (xs.map (b0N enc))) b rfl hb).1
     cases this
   · obtain ⟨rfl, rfl⟩ := look1 h; exact h4
 obtain ⟨hw1, ho⟩ := ho
 have hwF : ∀ x ∈ (F xs).map (b0N enc), x.length = k := by
   intro x hx
   obtain ⟨y, _, rfl⟩ := List.mem_map.1 hx
   simp [b0N, hk]
 by_cases hx : xs = []
 · subst hx
   have hv : ∃ p cap, v = .slice p 0 cap := by
     cases hr with
     | sl0 => exact ⟨_, _, rfl⟩
     | sl => exact ⟨_, _, rfl⟩
   obtain ⟨p, cap, rfl⟩ := hv
   refine (hn p cap _ w).mono ?_
   rintro e w' ⟨rfl, rfl⟩
   refine key w' (Nat.le_refl _) ⟨rfl, rfl, rfl, Nat.le_refl _⟩ (fun _ _ _ => rfl) ?_
   have hso : F [] = [] := List.eq_nil_of_length_eq_zero (by simpa using hF [])
   rw [hso]
   refine ⟨hw1, ?_⟩
   rcases ho with ⟨g1, g2⟩ | ⟨b, k', c, e, g1, g2, g3, g4, g5⟩
   · exact .inl ⟨g1, g2⟩
   · exact .inr ⟨b, k', c, e, g1, g2, g3, g4, fun i j x h => by simp [at2] at h⟩
 · have hpos := List.length_pos_iff.2 hx
   rcases ho with ⟨_, g2⟩ | ⟨b, q, c, e, g1, g2, g3, g4, g5⟩
   · exact absurd (by simpa using g2) hx
   · obtain ⟨cap, rfl⟩ : ∃ cap, v = .slice (some ⟨b, q.1, none⟩) xs.length cap := by
       generalize hlx : xs.length = n at hr hpos
       cases hr with
       | sl0 => omega
       | sl id sz lo len b' k' cap a o n' ho' he hxx hb ha hlc hk' hm =>
         rw [g1] at hb; cases hb
         have := ha (by omega)
         rw [Nat.zero_mul, Nat.add_zero] at this
         subst this
         exact ⟨cap, rfl⟩
     have hbl : b < w.heap.size := c7v g2
     have hB : Held ψ [(1000, .list k (xs.map (b0N enc)))] b := ⟨1000, .list k (xs.map (b0N enc)), rfl, .inl ⟨q, g1⟩⟩
     rw [List.length_map] at g4
     have hH : HoldsK enc k w b q.1 xs.toArray := by
       intro t ht
       rw [Go.Sort.size_flatK, List.size_toArray] at ht
       rw [Go.Sort.get_flatK _ _ _ _ (by simpa using ht)]
       have hi : t / k < xs.length := Nat.div_lt_of_lt_mul (by rw [Nat.mul_comm]; exact ht)
       have hj : t % k < k := Nat.mod_lt _ hk0
       obtain ⟨x, hxx⟩ : ∃ x, xs[t / k]? = some x := ⟨_, List.getElem?_eq_getElem hi⟩
       obtain ⟨u, hu⟩ : ∃ u, (enc x)[t % k]? = some u := ⟨_, List.getElem?_eq_getElem (by rw [hk]; exact hj)⟩
       rw [b4N hxx, b5N hu]
       have h5 := b3N (g5 _ _ _ (b2N hxx hu))
       have hts : t / k * k + t % k = t := by rw [Nat.mul_comm]; exact Nat.div_add_mod t k
       rw [hts] at h5
       have hcs : q.1 + t < c.size := by omega
       rw [Array.getD_eq_getD_getElem?, Array.getElem?_eq_getElem hcs] at h5
       constructor
       · simp only [World.cell?, g2]
         rw [Array.getElem?_eq_getElem hcs]
         simpa using h5
       · simp only [World.frozen?, g2]
         simp
     refine (hs b q.1 cap xs w hH hbl (by omega)).mono ?_
     rintro ex w' ⟨rfl, n, os, rfl⟩
     have hfl : (flatK enc k (F xs).toArray).size = xs.length * k := by rw [Go.Sort.size_flatK, List.size_toArray, hlen]
     unfold sortWorldK putRowK
     have hsz : (putRow id (Go.Sort.ahead w n) b q.1 (flatK enc k (F xs).toArray)).heap.size = w.heap.size := by simp [putRow, mapBlock, Go.Sort.ahead]
     have hother : ∀ i, i ≠ b → i < w.heap.size → (grow (putRow id (Go.Sort.ahead w n) b q.1 (flatK enc k (F xs).toArray)) os).heap[i]? = w.heap[i]? := by
       intro i hi hlt
       rw [Go.Sort.heap_grow_old _ _ (by rw [hsz]; exact hlt)]
       simp only [putRow, mapBlock, Go.Sort.ahead, Array.getElem?_modify]
       rw [if_neg (Ne.symm hi)]
     have hmine : (grow (putRow id (Go.Sort.ahead w n) b q.1 (flatK enc k (F xs).toArray)) os).heap[b]? = some (.cells (putCells id q.1 (flatK enc k (F xs).toArray) c) e (0, 0)) := by
       rw [Go.Sort.heap_grow_old _ _ (by rw [hsz]; exact hbl)]
       simp only [putRow, mapBlock, Go.Sort.ahead, Array.getElem?_modify, if_true]
       rw [g2]; rfl
     refine key _ (by rw [Go.Sort.size_grow, hsz]; omega) ⟨rfl, rfl, rfl, Nat.le_add_right _ _⟩ (fun i hi hh => hother i (fun e => hh (e ▸ hB)) hi) ?_
     refine ⟨hwF, .inr ⟨b, q, _, e, g1, hmine, ?_, ?_, fun i j x h => ?_⟩⟩
     · simp only [putCells, Array.size_mapIdx]; exact g3
     · rw [List.length_map, hlen]; exact g4
     · obtain ⟨y, u, hy, hu, rfl⟩ := b1N h
       have hil := (List.getElem?_eq_some_iff.1 hy).1
       have hjl := (List.getElem?_eq_some_iff.1 hu).1
       rw [hlen] at hil
       rw [hk] at hjl
       have hin : i * k + j < xs.length * k := by
         have := Nat.mul_le_mul_right k (show i + 1 ≤ xs.length from hil)
         rw [Nat.add_mul, Nat.one_mul] at this; omega
       have hlt : q.1 + (i * k + j) < (putCells id q.1 (flatK enc k (F xs).toArray) c).size := by simp only [putCells, Array.size_mapIdx]; omega
       have e1 : (i * k + j) / k = i := (Go.Sort.blk_iff k i _ hk0).1 ⟨by omega, by omega⟩
       have e2 : (i * k + j) % k = j := by rw [Nat.mod_eq_sub_div_mul, e1]; omega
       have : (putCells id q.1 (flatK enc k (F xs).toArray) c).getD (q.1 + (i * k + j)) undef = u := by
         rw [Array.getD_eq_getD_getElem?, Array.getElem?_eq_getElem hlt, Option.getD_some]
         simp only [putCells, Array.getElem_mapIdx]
         rw [if_pos (by rw [hfl]; omega)]
         have e3 : q.1 + (i * k + j) - q.1 = i * k + j := by omega
         rw [e3, Go.Sort.get_flatK _ _ _ _ (by rw [List.size_toArray, hlen]; exact hin), e1, e2, b4N hy, b5N hu]
         rfl
       rw [this]
       exact .v _ (h1 y u (List.mem_of_getElem? hu))
end
theorem b7N {P : Program} {f g : FuncId} (k : Nat)
   (hn : ∀ (p : Option Addr) (cap : Nat) (fv : Value) (w : World), Calls P f #[.slice p 0 cap, fv] w fun e w' => e = .returned (.tuple #[]) ∧ w' = w) : b9l P true f [.iv (.lst k []), .fn g [] []] [] (.tup []) [] := by
 refine ⟨⟨fun id o h => (by cases h), fun id o h => by cases h⟩, ?_⟩
 intro A ψ w vs hA hob hinj hsubs hheld hvl hrav
 have hr := hrav 0 _ rfl
 obtain ⟨v, fv, rfl⟩ : ∃ v fv, vs = [v, fv] := by
   match vs, hvl with
   | [v, fv], _ => exact ⟨v, fv, rfl⟩
 simp only [List.getD_eq_getElem?_getD, List.getElem?_cons_zero, Option.getD_some] at hr
 have hv : ∃ p cap, v = .slice p 0 cap := by
   cases hr with
   | iv _ _ h =>
     generalize hx : IV.lst k [] = x at h
     cases h <;> try cases hx
     · exact ⟨_, _, rfl⟩
     · exact ⟨_, _, rfl⟩
 obtain ⟨p, cap, rfl⟩ := hv
 refine (hn p cap fv w).mono ?_
 rintro e w' ⟨rfl, rfl⟩
 refine ⟨.tuple #[], ψ, rfl, fun _ _ _ => rfl, Nat.le_refl _, ⟨rfl, rfl, rfl, Nat.le_refl _⟩, fun _ _ _ => rfl, fun id o b h => (by cases h), fun id id' o o' b h => (by cases h), fun id o b h => (by cases h), fun id o h => (by cases h), .tup [] #[] rfl (fun i c h => by simp at h)⟩
end Go.Vm
end

section
namespace Go.Rt
open Go.Vm
def egV (e : Eg) : List Value := [.int .i64 e.frm, .int .i64 e.to, .int .i64 e.kind, .int .i64 e.table, .bool e.key.text, .int .i64 e.key.n, .string e.key.s, .bool e.cursor]
abbrev EgD := { e : Eg // e.D }
instance : Inhabited EgD := ⟨⟨⟨0, 0, 0, 0, Vl.zero, false⟩, ⟨by unfold Eg.Rt Vl.right Vl.zero; decide, by decide, by decide, by decide, by decide⟩⟩⟩
theorem a3J {w w' : World} (h1 : ∀ b, b < w.heap.size → w'.heap[b]? = w.heap[b]?) (h2 : w.heap.size ≤ w'.heap.size) (h3 : Same w w') : ∃ q os, w' = Go.Sort.grow (w.drewN q) os := by
 refine ⟨w'.drawn - w.drawn, w'.heap.extract w.heap.size w'.heap.size, ?_⟩
 obtain ⟨heap, tape, drawn, os, output⟩ := w
 obtain ⟨heap', tape', drawn', os', output'⟩ := w'
 obtain ⟨e1, e2, e3, e4⟩ := h3
 simp only at e1 e2 e3 e4 h1 h2
 subst e1 e2 e3
 have hh : heap' = heap ++ heap'.extract heap.size heap'.size := by
   apply Array.ext_getElem?
   intro i
   by_cases hi : i < heap.size
   · rw [h1 i hi, Array.getElem?_append_left hi]
   · rw [Array.getElem?_append_right (by omega), Array.getElem?_extract]
     by_cases hi2 : i < heap'.size
     · rw [if_pos (by omega)]
       congr 1; omega
     · rw [if_neg (by omega), Array.getElem?_eq_none (by omega)]
 unfold Go.Sort.grow World.drewN
 simp only [World.mk.injEq, true_and, and_true]
 exact ⟨hh, by omega⟩
theorem a4J (blk off size : Nat) (w : World) : Go.Proofs.CmpLays prog n_a7g #[] (fun e : EgD => egV e.1) 8 (fun a b => a.1.cmp b.1) blk off size w := by
 intro m os dk _ x y
 generalize Go.Proofs.sortWorldK (fun e : EgD => egV e.1) 8 w blk off m dk os = W
 have hav : ∀ e : Eg, RAV (fun _ => False) pl0 [] W e.av (.agg (egV e).toArray) := by
   intro e
   refine .agg _ _ rfl fun i c hc => ?_
   have : ∃ u, (egV e)[i]? = some u ∧ c = .iv (.v u) ∧ u.oneCell' = true := by
     match i, hc with
     | 0, hc => cases hc; exact ⟨_, rfl, rfl, rfl⟩
     | 1, hc => cases hc; exact ⟨_, rfl, rfl, rfl⟩
     | 2, hc => cases hc; exact ⟨_, rfl, rfl, rfl⟩
     | 3, hc => cases hc; exact ⟨_, rfl, rfl, rfl⟩
     | 4, hc => cases hc; exact ⟨_, rfl, rfl, rfl⟩
     | 5, hc => cases hc; exact ⟨_, rfl, rfl, rfl⟩
     | 6, hc => cases hc; exact ⟨_, rfl, rfl, rfl⟩
     | 7, hc => cases hc; exact ⟨_, rfl, rfl, rfl⟩
     | i + 8, hc => cases hc
   obtain ⟨u, h1, rfl, h2⟩ := this
   have : (egV e).toArray.getD i undef = u := by
     rw [Array.getD_eq_getD_getElem?, List.getElem?_toArray, h1]; rfl
   rw [this]
   exact c2D h2
 have h := (b1x x.1 y.1).2 (fun _ => False) pl0 W [.agg (egV x.1).toArray, .agg (egV y.1).toArray] (fun _ h => h.elim) (fun _ _ h => by cases h) (fun _ _ _ _ _ h => by cases h) (fun _ _ _ h => by cases h)
   (fun b ⟨_, _, h, _⟩ => by cases h) rfl (fun i c hc => by
     match i, hc with
     | 0, hc => cases hc; exact hav x.1
     | 1, hc => cases hc; exact hav y.1
     | i + 2, hc => cases hc)
 refine Calls.mono h ?_
 rintro e w' ⟨v, ψ', rfl, k1, k2, k3, _, _, _, _, _, k8⟩
 refine ⟨by rw [b2o k8], a3J (fun b hb => k1 b hb fun ⟨_, _, h, _⟩ => by cases h) k2 k3⟩
theorem a5J (a b : EgD) : a.1.cmp b.1 = a.1.cmpN b.1 := cmp_N a.2 b.2
theorem a6J (a b : EgD) : Go.Proofs.ltOf (fun a b : EgD => a.1.cmp b.1) a b = a.1.lss b.1 := by
 show decide (a.1.cmp b.1 < 0) = _
 rw [a5J, Bool.eq_iff_iff, decide_eq_true_eq, b8i]
theorem a7J : Go.Sort.SWO (Go.Proofs.ltOf fun a b : EgD => a.1.cmp b.1) where
 irrefl := fun x => by rw [a6J]; exact b1j _
 trans := fun x y z => by rw [a6J, a6J, a6J]; exact b9i
 ntrans := fun x y z h1 h2 => by
   rw [a6J] at *
   cases h : x.1.lss z.1 with
   | false => rfl
   | true =>
     cases h3 : y.1.lss x.1 with
     | true => have := b9i h3 h; rw [this] at h2; cases h2
     | false => rw [← b2j x.2.rt y.2.rt h1 h3] at h2; rw [h2] at h; cases h
theorem a8J (x y : EgD) (h1 : Go.Proofs.ltOf (fun a b : EgD => a.1.cmp b.1) x y = false) (h2 : Go.Proofs.ltOf (fun a b : EgD => a.1.cmp b.1) y x = false) : x = y := by
 rw [a6J] at *
 exact Subtype.ext (b2j x.2.rt y.2.rt h1 h2)
theorem a9J : okFn prog n_a7g = true := by kernel_rfl
theorem t24 : Go.Proofs.Try.sortF_ren.t 24 = 25 := rfl
theorem und37 : (prog.underlying 25).isSome = true := by kernel_rfl
theorem a0K : b2O prog 25 = true := by kernel_rfl
theorem sz37 : b8N prog 25 = some 8 := by kernel_rfl
theorem a1K {P : Program} {t : TypeId} {k : Nat} (h : b8N P t = some k) (w : World) : (Go.sizeOf t).run P w = .ok k w := Go.Vm.run_sizeOf w h
theorem agg37 (w : World) : (isAgg (Go.Proofs.Try.sortF_ren.t 24)).run prog w = .ok true w := by
 obtain ⟨d, hd⟩ := Option.isSome_iff_exists.1 und37
 rw [t24, c3D w hd, a0K]
theorem a2K (w : World) : (Go.sizeOf (Go.Proofs.Try.sortF_ren.t 24)).run prog w = .ok 8 w := by
 rw [t24, a1K sz37 w]
def a3K (l : List EgD) : List EgD := l.mergeSort fun x y => !(Go.Proofs.ltOf (fun a b : EgD => a.1.cmp b.1) y x)
theorem a4K (l : List EgD) (hl : l.length < 2 ^ 62) : b9l prog false n_a4h [.sl 1000 8 0 l.length, .fn n_a7g [] []] [(1000, .list 8 (l.map (b0N fun e : EgD => egV e.1)))] (.tup []) [(1000, .list 8 ((a3K l).map (b0N fun e : EgD => egV e.1)))] := by
 refine b6N 8 (by decide) (fun e : EgD => egV e.1) (fun _ => rfl) (fun x v hv => ?_) a3K (fun l => List.length_mergeSort l) ?_ (fun p cap fv w => Go.Proofs.Try.slices_SortFunc_none p cap fv w) l hl
 · simp only [egV, List.mem_cons, List.not_mem_nil, or_false] at hv
   rcases hv with rfl | rfl | rfl | rfl | rfl | rfl | rfl | rfl <;> rfl
 · intro blk off cap zs w hH hb hs
   have := Go.Proofs.AnyQ.slices_SortFunc_total Go.Proofs.Try.sortF 8 agg37 a2K (fun e : EgD => egV e.1) (fun _ => rfl) (fun x v hv => by
     simp only [egV, List.mem_cons, List.not_mem_nil, or_false] at hv
     rcases hv with rfl | rfl | rfl | rfl | rfl | rfl | rfl | rfl <;> rfl) (fun a b => a.1.cmp b.1) a7J n_a7g #[] blk off cap zs.toArray w (c5y a9J) (a4J blk off _ w) hH hb (by simpa using hs) a8J
   rw [List.size_toArray] at this
   exact this
theorem a5K {l : List Eg} (hD : ∀ e, e ∈ l → e.D) (hnd : l.Nodup) (hl : l.length < 2 ^ 62) : ∃ r, Rise r ∧ (∀ e, e ∈ r ↔ e ∈ l) ∧ r.length = l.length ∧
   b9l prog false n_a4h [.sl 1000 8 0 l.length, .fn n_a7g [] []] [(1000, .list 8 (egsC l))] (.tup []) [(1000, .list 8 (egsC r))] := by
 let L : List EgD := l.attach.map fun e => ⟨e.1, hD e.1 e.2⟩
 have hL : L.map Subtype.val = l := by simp [L, List.map_map, Function.comp_def]
 have hlen : L.length = l.length := by simp [L]
 have hp : (a3K L).Perm L := List.mergeSort_perm _ _
 have hp2 : ((a3K L).map Subtype.val).Perm l := by have := hp.map Subtype.val; rw [hL] at this; exact this
 have hiv : ∀ q : List EgD, q.map (b0N fun e : EgD => egV e.1) = egsC (q.map Subtype.val) := fun q => by unfold egsC; rw [List.map_map]; rfl
 have hs := a4K L (by omega)
 rw [hiv, hiv, hL, hlen] at hs
 refine ⟨(a3K L).map Subtype.val, ?_, fun e => hp2.mem_iff, by rw [hp2.length_eq], hs⟩
 have h1 : (a3K L).Pairwise fun x y => (!(Go.Proofs.ltOf (fun a b : EgD => a.1.cmp b.1) y x)) = true := by
   refine List.pairwise_mergeSort (fun a b c h1 h2 => ?_) (fun a b => ?_) L
   · rw [Bool.not_eq_true'] at *
     exact a7J.ntrans _ _ _ h2 h1
   · rw [Bool.or_eq_true, Bool.not_eq_true', Bool.not_eq_true']
     cases h : Go.Proofs.ltOf (fun a b : EgD => a.1.cmp b.1) b a with
     | false => exact .inl rfl
     | true =>
       right
       rw [a6J] at *
       exact b0j h
 have h2 : ((a3K L).map Subtype.val).Nodup := hp2.nodup_iff.2 hnd
 unfold Rise
 rw [List.pairwise_map]
 unfold List.Nodup at h2
 rw [List.pairwise_map] at h2
 refine (h1.and h2).imp ?_
 rintro a b ⟨g1, g2⟩
 rw [Bool.not_eq_true', a6J] at g1
 cases h : a.1.lss b.1 with
 | true => rfl
 | false => exact absurd (b2j a.2.rt b.2.rt h g1) g2
theorem a6K : b9l prog true n_a4h [.iv (.lst 8 []), .fn n_a7g [] []] [] (.tup []) [] :=
 b7N 8 fun p cap fv w => Go.Proofs.Try.slices_SortFunc_none p cap fv w
end Go.Rt
end

section
namespace Go.Rt
open Go.Vm
theorem c9G {s : St} {t : Nat} {y : IV} (h : (s.get t).ivc = some y) : Le s (s.set t (.iv y)) := by
 rintro E n a w ⟨ψ, hs⟩
 refine ⟨ψ, { hs with frame := fun u => ?_ }⟩
 rw [St.get_set]
 split
 · rename_i e; subst e
   exact .iv _ _ (c0f (hs.frame t) h (fun _ _ h => h))
 · exact hs.frame u
def EndV (D : List Nat) (t : Nat) (x : IV) (s : St) : Prop := D.all (· < 1000) = true ∧ ((s.drops D).get t).ivc = some x ∧ a6C s.hp = true
theorem c0H {P : Program} {f : FuncId} {args : List AV} {x : IV} {n t : Nat} {c : VCode} (hf : fnV P f = some (n, c, [.tmp t]))
   (hargs : args.length ≤ n) (hn : n ≤ 999) (h : wpV P c ⟨b8S 0 args, []⟩ ⟨fun s => ∃ D, EndV D t x s, fun _ _ => False, fun s => ∃ D, EndV D t x s, fun _ _ => False⟩) : b9l P false f args [] (.iv x) [] :=
 c2B hf hargs rfl rfl (a8D (b2Y hn _ _ _ h) fun s h => by
   obtain ⟨D, h1, h2, h3⟩ := h
   have hk : (((s.drops D).set t (.iv x)).hp.map (·.1)).all (· < 1000) = true := by
     show ((s.drops D).hp.map (·.1)).all (· < 1000) = true
     rw [List.all_eq_true]
     intro k hk
     exact List.all_eq_true.1 (a9C h3) k (c2M D hk)
   refine ⟨((s.drops D).set t (.iv x)).drops (((s.drops D).set t (.iv x)).hp.map (·.1)), [.iv x], ((b2Z D h1 s).trans (c9G h2)).trans (b2Z _ hk _), ?_, rfl, fun id => ?_, fun h => by cases h⟩
   · simp [resV, a1C _ (show ((s.drops D).set t (.iv x)).get t = .iv x by rw [St.get_set, if_pos rfl])]
   · refine a3C _ ?_
     cases hl : Vm.look ((s.drops D).set t (.iv x)).hp id with
     | none => exact .inr rfl
     | some o => exact .inl (List.contains_iff_mem.1 (b3m hl)))
theorem c1H {s : St} {t sz id : Nat} (h : s.get t = .nil sz) (hno : Vm.look s.hp id = none) (hid : id < 1000) : Le s ((s.add id (.list sz [])).set t (.sl id sz 0 0)) := by
 rintro E n a w ⟨ψ, hs⟩
 have h1 := hs.new (o := .list sz []) (p := none) (w' := w) hid hno (Ext.refl w) (fun b k e => by cases e) ⟨fun _ h => (by cases h), .inl ⟨by simp [upd], rfl⟩⟩
 have hψ : upd ψ id none id = none := by simp [upd]
 refine ⟨_, { h1 with frame := fun u => ?_ }⟩
 have hf := h1.frame u
 rw [St.get_set]
 split
 · rename_i e; subst e
   rw [show (s.add id (.list sz [])).get t = .nil sz from h] at hf
   generalize a.tmps.getD t undef = v at hf
   cases hf
   exact .sl0 id sz (.list sz []) 0 (by rw [show ((s.add id (.list sz [])).set t (.sl id sz 0 0)).hp = (s.add id (.list sz [])).hp from rfl, c4G, if_pos rfl]) rfl hψ
 · exact hf
def EndRL (t : Nat) (R : AV → Hp → Prop) (s : St) : Prop := ∃ s1, Le s s1 ∧ EndR t R s1
theorem c2H {P : Program} {f : FuncId} {args : List AV} {n t : Nat} {c : VCode} (R : AV → Hp → Prop) (hf : fnV P f = some (n, c, [.tmp t])) (hargs : args.length ≤ n) (hn : n ≤ 999)
   (hR : ∀ x H', R x H' → (∀ id o, Vm.look H' id = some o → o.isLent = false ∧ o.flat) ∧ x.flat = true)
   (h : wpV P c ⟨b8S 0 args, []⟩ ⟨EndRL t R, fun _ _ => False, EndRL t R, fun _ _ => False⟩) : b0m P true f args [] R :=
 c1B hf hargs rfl rfl (fun x H' h id o ho => ((hR x H' h).1 id o ho).1) (a8D (b2Y hn _ _ _ h) fun s h => by
   obtain ⟨s1, h0, D, x, H', h1, h2⟩ := h
   exact ⟨⟨[(t, x)], H'⟩, [x], H', h0.trans h2.le, by simp [resV, St.get, Vm.look], h1, fun _ => rfl, fun _ => ⟨(hR x H' h1).2, fun id o ho => ((hR x H' h1).1 id o ho).2⟩⟩)
end Go.Rt
end

section
namespace Go.Rt
open Go.Vm
def b6A (e : Eg) : List AV := [e.av]
def b7A (ks : List Eg) : List (List AV) := ks.map b6A
def PreKE (S : Eg → Prop) (pre : List (List AV)) (x : List AV) : Prop := ∃ ks k, pre = b7A ks ∧ x = b6A k ∧ (ks ++ [k]).Nodup ∧ ∀ j ∈ ks ++ [k], S j
def AllKE (S : Eg → Prop) (xs : List (List AV)) : Prop := ∃ ks : List Eg, xs = b7A ks ∧ ks.Nodup ∧ ∀ j, j ∈ ks ↔ S j
theorem gE_at (S : Eg → Prop) (e : Eg) : gE S (egV e) ≠ none ↔ S e := by
 unfold egV
 simp only [gE]
 split
 · rename_i h; exact ⟨fun _ => h, fun _ h => by cases h⟩
 · rename_i h; exact ⟨fun g => absurd rfl g, fun g => absurd g h⟩
theorem b8A {S : Eg → Prop} {q : List Value} (h : gE S q ≠ none) : ∃ e, S e ∧ q = egV e := by
 unfold gE at h
 split at h
 · rename_i f t k tb x n s c
   split at h
   · rename_i hs; exact ⟨_, hs, rfl⟩
   · exact absurd rfl h
 · exact absurd rfl h
theorem b9A {a b : Eg} (h : egV a = egV b) : a = b := by
 unfold egV at h
 simp only [List.cons.injEq, Value.int.injEq, Value.bool.injEq, Value.string.injEq, true_and, and_true] at h
 obtain ⟨h1, h2, h3, h4, h5, h6, h7, h8⟩ := h
 exact Eg.eq_iff.2 ⟨h1, h2, h3, h4, Vl.eq_iff.2 ⟨h5, h6, h7⟩, h8⟩
theorem b0B {S : Eg → Prop} {q : List Value} {c : List IV} (h : gE S q = some c) : c = [ci 1] := by
 unfold gE at h
 split at h
 · split at h
   · cases h; rfl
   · cases h
 · cases h
set_option maxRecDepth 8000 in
set_option maxHeartbeats 4000000 in
theorem b1B (S : Eg → Prop) : b1g prog n_a2h [.pt [.mp skE (gE S)]] (PreKE S) (AllKE S) := by
 intro l Zs Zx cont hy
 refine b0u a2h_is (by simp) (by decide) ?_
 simp -dsimp [a2h]
 intro L0 hn0 hL0 _
 refine a0E (fun n s => ∃ (left : List (List Value)) (last : Option (List Value)) (ks : List Eg), n = left.length ∧ s = ⟨[(5, .ptr 5 0), (0, .iv (.v (.func (.yield l) #[] #[])))], [(5, .iter skE (gE S) left last), (1000, .gh (Zs (b7A ks)) [] [])]⟩ ∧
   ks.Nodup ∧ (∀ q ∈ left, ∃ k, S k ∧ q = egV k ∧ k ∉ ks) ∧ (∀ k ∈ ks, S k) ∧ ∀ k, S k → k ∈ ks ∨ egV k ∈ left) ⟨_, _, LeTo.le (D := []) (s' := ⟨[(5, .ptr 5 0), (0, .iv (.v (.func (.yield l) #[] #[])))], [(5, .iter skE (gE S) L0 none), (1000, .gh (Zs (b7A [])) [] [])]⟩) ?_, L0, none, [], rfl, rfl, by simp, ?_, by simp, ?_⟩ ?_
 · simp -dsimp [b7A]
 · intro q hq
   obtain ⟨k, h1, h2⟩ := b8A ((hL0 q).1 hq)
   exact ⟨k, h1, h2, by simp⟩
 · intro k hkL
   exact .inr ((hL0 _).2 ((gE_at S k).2 hkL))
 · rintro n s ⟨left, last, ks, rfl, rfl, h1, h2, h3, h4⟩
   simp -dsimp [a2h_l4]
   refine ⟨?_, ?_⟩
   · rintro rfl
     refine ⟨Zs (b7A ks), by simp, fun A B w hz => .inl ⟨_, ⟨ks, rfl, h1, fun j => ⟨h3 j, fun hj => (h4 j hj).resolve_right (by simp)⟩⟩, hz⟩, by simp⟩
   · intro q c hq hg
     obtain ⟨k, q1, rfl, q3⟩ := h2 q hq
     obtain rfl := b0B hg
     simp -dsimp [hg, egV]
     have hp : PreKE S (b7A ks) (b6A k) := ⟨ks, k, rfl, rfl, by
       refine List.nodup_append.2 ⟨h1, by simp, ?_⟩
       rintro a ha b hb rfl
       rw [List.mem_singleton.1 hb] at ha
       exact q3 ha, fun j hj => by
       rcases List.mem_append.1 hj with h | h
       · exact h3 j h
       · rw [List.mem_singleton.1 h]; exact q1⟩
     intro c' _
     have hr1 : Value.int .i64 k.frm :: Value.int .i64 k.to :: Value.int .i64 k.kind :: Value.int .i64 k.table :: Value.bool k.key.text :: Value.int .i64 k.key.n :: Value.string k.key.s :: Value.bool k.cursor :: [] = egV k := rfl
     refine b1u (g := 1000) (hy _ _ hp) (by simp) (by simp [b6A, Eg.av, Eg.cells]) (by simp [b6A, Eg.av, Eg.cells, AV.plain, AV.isIv]) ?_
     cases hcn : cont (b7A ks) (b6A k) with
     | true =>
       have hkr : b7A ks ++ [b6A k] = b7A (ks ++ [k]) := by simp [b7A]
       simp -dsimp [hcn, hkr, hr1]
       refine ⟨_, b4t hq, _, LeTo.le (D := [3]) (s' := ⟨[(5, .ptr 5 0), (0, .iv (.v (.func (.yield l) #[] #[])))], [(5, .iter skE (gE S) (rmk (egV k) left) (some (egV k))), (1000, .gh (Zs (b7A (ks ++ [k]))) [] [])]⟩) ?_, _, rfl, _, _, rfl, ?_⟩
       · simp -dsimp
       · refine ⟨List.nodup_append.2 ⟨h1, by simp, fun a ha b hb => by rintro rfl; rw [List.mem_singleton.1 hb] at ha; exact q3 ha⟩, fun q hq' => ?_, fun j hj => ?_, fun j hj => ?_⟩
         · obtain ⟨hq1, hq2⟩ := b4M.1 hq'
           obtain ⟨k', p1, rfl, p3⟩ := h2 q hq1
           refine ⟨k', p1, rfl, fun hm => ?_⟩
           rcases List.mem_append.1 hm with h | h
           · exact p3 h
           · rw [List.mem_singleton.1 h] at hq2; exact hq2 rfl
         · rcases List.mem_append.1 hj with h | h
           · exact h3 j h
           · rw [List.mem_singleton.1 h]; exact q1
         · rcases h4 j hj with h | h
           · exact .inl (List.mem_append_left _ h)
           · by_cases e : j = k
             · exact .inl (List.mem_append_right _ (by simp [e]))
             · exact .inr (b4M.2 ⟨h, fun g => e (b9A g)⟩)
     | false =>
       simp -dsimp [hcn]
       exact ⟨Zx (b7A ks) (b6A k), by simp, fun A B w hz => .inr ⟨_, _, hz⟩, by simp⟩
theorem b2B (g : List Value → Option (List IV)) : b0m prog false n_a5g [.iv (.mp skE g)] [] (fun r K => r = .fn n_a2h [] [.ptr 1 0] ∧ K = [(1, .box [.iv (.mp skE g)])]) := by
 refine b3u _ a5g_is (by simp) (by decide) (fun x H' h => by
   obtain ⟨rfl, rfl⟩ := h
   refine ⟨fun id o ho => ?_, by simp⟩
   simp only [Vm.look] at ho
   split at ho
   · cases ho; rfl
   · cases ho) ?_
 simp -dsimp [a6g_int]
 exact ⟨[], _, _, ⟨rfl, rfl⟩, by simp -dsimp⟩
theorem b3B (g : List Value → Option (List IV)) : b9l prog false n_a5g [.iv (.mp skE g)] [] (.fn n_a2h [] [.ptr 901 0]) [(901, .box [.iv (.mp skE g)])] :=
 ((b2B g).one (fun _ _ e => e) (fun id o ho => by
   simp only [Vm.look] at ho
   split at ho
   · cases ho; rfl
   · cases ho)).ren (Ren.swaps [(1, 901)]) rfl
theorem b4B : okFn prog n_a2h = true := by kernel_rfl
def RowE (j : Nat) (S : List Eg → Prop) (r : AV) (K : Hp) : Prop := ∃ ks : List Eg, S ks ∧ ((ks = [] ∧ r = .nil 8 ∧ K = []) ∨ (ks ≠ [] ∧ r = .sl j 8 0 ks.length ∧ K = [(j, .list 8 (egsC ks))]))
def egOfA : List AV → Eg
 | [.agg [.iv (.v (.int _ a)), .iv (.v (.int _ b)), .iv (.v (.int _ c)), .iv (.v (.int _ d)), .iv (.v (.bool t)), .iv (.v (.int _ n)), .iv (.v (.string s)), .iv (.v (.bool u))]] => ⟨a, b, c, d, ⟨t, n, s⟩, u⟩
 | _ => ⟨0, 0, 0, 0, Vl.zero, false⟩
def b5B (p : List (List AV)) : List Eg := p.map egOfA
theorem b6B (ks : List Eg) : b5B (b7A ks) = ks := by
 unfold b5B b7A
 rw [List.map_map]
 exact (List.map_congr_left fun e _ => rfl).trans (List.map_id _)
def appE : List Eg → Hp
 | [] => [(2, .box [.nil 8])]
 | k :: ks => [(2, .box [.sl 11 8 0 (k :: ks).length]), (11, .list 8 (egsC (k :: ks)))]
theorem b7B {ks : List Eg} (h : ks ≠ []) : appE ks = [(2, .box [.sl 11 8 0 ks.length]), (11, .list 8 (egsC ks))] := by
 cases ks with
 | nil => exact absurd rfl h
 | cons k ks => rfl
theorem b8B (l : List Eg) : ∀ x ∈ egsC l, ∀ y ∈ x, y.flat = true := by
 intro x hx y hy
 obtain ⟨e, _, rfl⟩ := List.mem_map.1 hx
 simp only [Eg.cells, List.mem_cons, List.not_mem_nil, or_false] at hy
 rcases hy with rfl | rfl | rfl | rfl | rfl | rfl | rfl | rfl <;> rfl
theorem b9B {j : Nat} {S : List Eg → Prop} {r : AV} {K : Hp} (h : RowE j S r K) : (∀ id o, Vm.look K id = some o → o.isLent = false ∧ o.flat) ∧ r.flat = true := by
 obtain ⟨ks, _, ⟨_, rfl, rfl⟩ | ⟨_, rfl, rfl⟩⟩ := h
 · exact ⟨fun id o h => (by cases h), rfl⟩
 · refine ⟨fun id o ho => ?_, rfl⟩
   simp only [Vm.look] at ho
   split at ho
   · cases ho
     exact ⟨rfl, b8B ks⟩
   · cases ho
set_option maxRecDepth 8000 in
set_option maxHeartbeats 4000000 in
theorem b0C {f : FuncId} {caps : List IV} {Pre : List (List AV) → List AV → Prop} {S : List (List AV) → Prop} (hi : b1g prog f caps Pre S) (hok : okFn prog f = true)
   (hp : ∀ pre x, Pre pre x → ∃ ks k, pre = b7A ks ∧ x = b6A k ∧ ks.length < 2 ^ 32) :
   b0m prog true n_a1h [.nil 8, .fn f [] (caps.map CapV.val)] [] (RowE 11 fun ks => S (b7A ks)) := by
 refine b4u _ a1h_is (by simp) (by decide) (fun x H' h => b9B h) ?_
 simp -dsimp [a1h]
 refine b2u [4] [5, 10] 990 [(2, .ptr 2 0), (6, .fn f [] (caps.map CapV.val))] (fun p => ∃ ks, p = b7A ks) (fun p => appE (b5B p)) hi ?_ (by simp) hok (by decide) (by simp [b5B, appE]) (by simp) ?_ ⟨[], rfl⟩ ?_ ?_
 · simp -dsimp [b5B, appE]
 · intro pre x hx
   obtain ⟨ks, k, _, rfl, _⟩ := hp pre x hx
   rfl
 · rintro vs _ x ⟨ks, rfl⟩ hx
   obtain ⟨ks', k, hks, rfl, hlen⟩ := hp _ x hx
   have hks : ks = ks' := by have := congrArg b5B hks; rwa [b6B, b6B] at this
   subst hks
   have hkr : b7A ks ++ [b6A k] = b7A (ks ++ [k]) := by simp [b7A]
   refine ⟨⟨ks ++ [k], hkr⟩, ?_⟩
   rw [hkr, b6B, b6B, b7B (by simp : ks ++ [k] ≠ [])]
   cases ks with
   | nil =>
     simp -dsimp [a1h_a4, a1h_b5, parS, St.set_mk, b6A, appE, frCs, Eg.av, Eg.cells]
     rfl
   | cons k0 ks =>
     simp -dsimp [a1h_a4, a1h_b5, parS, St.set_mk, b6A, appE, frCs, Eg.av, Eg.cells]
     simp only [List.length_cons] at hlen
     refine ⟨by omega, by omega, by simp [egsC, Eg.cells]⟩
 · rintro vs _ ⟨ks, rfl⟩ hS
   rw [b6B]
   cases ks with
   | nil =>
     simp -dsimp [appE, frCs]
     exact ⟨[2, 990], _, _, ⟨_, hS, .inl ⟨rfl, rfl, rfl⟩⟩, by simp -dsimp⟩
   | cons k0 ks =>
     simp -dsimp [appE, frCs]
     exact ⟨[2, 990], _, _, ⟨_, hS, .inr ⟨by simp, rfl, rfl⟩⟩, by simp -dsimp⟩
theorem b1C {f : FuncId} {caps : List IV} {Pre : List (List AV) → List AV → Prop} {S : List (List AV) → Prop} (hi : b1g prog f caps Pre S) (hok : okFn prog f = true)
   (hp : ∀ pre x, Pre pre x → ∃ ks k, pre = b7A ks ∧ x = b6A k ∧ ks.length < 2 ^ 32) :
   b0m prog true n_a4g [.fn f [] (caps.map CapV.val)] [] (RowE 11 fun ks => S (b7A ks)) := by
 refine b4u _ a4g_is (by simp) (by decide) (fun x H' h => b9B h) ?_
 simp -dsimp [a4g]
 refine b5u (b0C hi hok hp) ?_ (by simp) ?_ ?_
 · simp
 · intro x H' h id o ho
   simp -dsimp
   obtain ⟨ks, hS, ⟨rfl, rfl, rfl⟩ | ⟨hne, rfl, rfl⟩⟩ := h
   · cases ho
   · simp only [Vm.look] at ho
     split at ho
     · omega
     · cases ho
 · rintro x H' ⟨ks, hS, ⟨rfl, rfl, rfl⟩ | ⟨hne, rfl, rfl⟩⟩
   · simp -dsimp
     exact ⟨[2], _, _, ⟨_, hS, .inl ⟨rfl, rfl, rfl⟩⟩, by simp -dsimp⟩
   · simp -dsimp
     exact ⟨[2], _, _, ⟨_, hS, .inr ⟨hne, rfl, rfl⟩⟩, by simp -dsimp⟩
end Go.Rt
end

section
namespace Go.Rt
open Go.Vm
theorem c1L : noPd.Ok := .mk _ (by decide) (by decide) (by decide) fun q hq => by cases hq
theorem c2L {h : Hs} (hw : b1v h) : b9C h.events := fun _ he hk => (b8h hw he hk).1
theorem exB_c (t l : Int) : (exB t l).cells = [ci t, ci 1, ci l, ci 0, cb false, ci 0, .v (.string ⟨#[]⟩), ci 0, ci 0, ci 0, .lst 3 [], ci 0, ci 0, cb false, ci 0, .v (.string ⟨#[]⟩), cb false, ci 0, .v (.string ⟨#[]⟩), .lst 9 [], .lst 5 [], cb false] := by rw [Ev.cells_eq]; rfl
theorem exC_c (t : Int) : (exC t).cells = [ci t, ci 5, ci 0, ci 0, cb false, ci 0, .v (.string ⟨#[]⟩), ci 0, ci 0, ci 0, .lst 3 [], ci 0, ci 0, cb false, ci 0, .v (.string ⟨#[]⟩), cb false, ci 0, .v (.string ⟨#[]⟩), .lst 9 [], .lst 5 [], cb false] := by rw [Ev.cells_eq]; rfl
theorem exW_c (t n : Int) (r : List Vl) : (exW t n r).cells = [ci t, ci 3, ci 0, ci 0, cb false, ci 5, .v (.string ⟨#[]⟩), ci 0, ci 0, ci n, .lst 3 (rowC r), ci 0, ci 0, cb false, ci 0, .v (.string ⟨#[]⟩), cb false, ci 0, .v (.string ⟨#[]⟩), .lst 9 [], .lst 5 [], cb false] := by rw [Ev.cells_eq]; rfl
end Go.Rt
end

section
namespace Go.Rt
open Go.Vm
end Go.Rt
end

section
namespace Go.Rt
open Go.Vm
def addS (S : Eg → Prop) (es : List Eg) (m : Eg) : Prop := S m ∨ (m.frm ≠ m.to ∧ m ∈ es)
theorem a5o {κ : Type} (S : Eg → Prop) (F : κ → List Eg) (ks : List κ) : addK S F ks = addS S (ks.flatMap F) := by
 funext m; unfold addK addS; simp [List.mem_flatMap]
theorem a6o (S : Eg → Prop) (f : Nat → List Eg) (i : Nat) : addL S f (i + 1) = addS (addL S f i) (f i) := by
 funext m
 refine propext ⟨fun g => ?_, fun g => ?_⟩
 · rcases g with g | ⟨h1, j, hj, hm⟩
   · exact .inl (.inl g)
   · rcases Nat.lt_or_ge j i with g | g
     · exact .inl (.inr ⟨h1, j, g, hm⟩)
     · have : j = i := by omega
       subst this; exact .inr ⟨h1, hm⟩
 · rcases g with (g | ⟨h1, j, hj, hm⟩) | ⟨h1, hm⟩
   · exact .inl g
   · exact .inr ⟨h1, j, by omega, hm⟩
   · exact .inr ⟨h1, i, by omega, hm⟩
theorem a7o (S : Eg → Prop) : addS S [] = S := by funext m; unfold addS; simp
def Hs.Mid (h : Hs) : Prop := h.events.length ≤ 100 ∧ h.order.length ≤ 100
def wwT (h : Hs) (j : Nat) : List Eg := ((h.order.filter (ofT j)).map Ins.key).flatMap (wwK h j)
def evT (h : Hs) (i : Nat) : List Eg := (h.events[i]?).elim [] (evE h)
section
variable {h : Hs}
theorem a8o (hw : b1v h) {e : Ev} (he : e ∈ h.events) (hk : e.kind = 3) : b2s h e.table e.key := by
 obtain ⟨i, hi⟩ := List.getElem?_of_mem he
 exact (b2h hw hi hk).1
theorem a9o (hw : b1v h) {o : Ins} (ho : o ∈ h.order) : b2s h o.table o.key := by
 obtain ⟨i, hi⟩ := List.getElem?_of_mem ho
 obtain ⟨t, ht⟩ := c7z (b1h hw hi).2.2
 obtain ⟨e, he, hk⟩ := b0e (b2e hw ho (List.mem_of_getElem? ht)).2
 obtain ⟨k3, _, g1, g2⟩ := b3h hk
 rw [← g1, ← g2]
 exact a8o hw he k3
theorem a0p (hw : b1v h) {o : Ins} (ho : o ∈ h.order) : tsB h o.table o.key = o.txns := by
 unfold tsB
 rw [b4v (b6e hw) ho (b5e.2 ⟨rfl, rfl⟩)]
theorem a1p (hw : b1v h) {o : Ins} (ho : o ∈ h.order) {m : Eg} : m ∈ wwK h o.table o.key ↔ m ∈ wwE o := by
 unfold wwK
 rw [mem_range, b5l]
 have hch := b6x hw (table := o.table) (k := o.key)
 rw [a0p hw ho] at hch
 rw [hch]
 constructor
 · rintro ⟨j, hj, hm⟩
   unfold wwAt at hm
   rw [hch] at hm
   split at hm
   · rename_i h2
     obtain ⟨i, rfl⟩ : ∃ i, j = i + 2 := ⟨j - 2, by omega⟩
     rw [List.length_cons, List.length_map] at hj
     obtain ⟨a, ha⟩ : ∃ a, o.txns[i]? = some a := c7z (by omega)
     obtain ⟨b, hb⟩ : ∃ b, o.txns[i + 1]? = some b := c7z (by omega)
     rw [show i + 2 - 1 = i + 1 from rfl, List.getElem?_cons_succ, List.getElem?_cons_succ, List.getElem?_map, List.getElem?_map, ha, hb] at hm
     exact ⟨i, a, b, ha, hb, by simpa using hm⟩
   · cases hm
 · rintro ⟨i, a, b, ha, hb, rfl⟩
   refine ⟨i + 2, ?_, ?_⟩
   · rw [List.length_cons, List.length_map]
     have := (List.getElem?_eq_some_iff.1 hb).1; omega
   · unfold wwAt
     rw [hch, if_pos (by omega), show i + 2 - 1 = i + 1 from rfl, List.getElem?_cons_succ, List.getElem?_cons_succ, List.getElem?_map, List.getElem?_map, ha, hb]
     simp
theorem a2p (hw : b1v h) {m : Eg} : (∃ j, j < h.tables.length ∧ m ∈ wwT h j) ↔ m ∈ h.order.flatMap wwE := by
 rw [List.mem_flatMap]
 constructor
 · rintro ⟨j, _, hm⟩
   unfold wwT at hm
   rw [List.mem_flatMap] at hm
   obtain ⟨k, hk, hm⟩ := hm
   obtain ⟨o, ho, rfl⟩ := List.mem_map.1 hk
   rw [List.mem_filter] at ho
   have ht : o.table = j := by simpa [ofT] using ho.2
   exact ⟨o, ho.1, (a1p hw ho.1).1 (by rw [ht]; exact hm)⟩
 · rintro ⟨o, ho, hm⟩
   obtain ⟨h0, t, ht, _⟩ := a9o hw ho
   refine ⟨o.table.toNat, (List.getElem?_eq_some_iff.1 ht).1, ?_⟩
   unfold wwT
   rw [List.mem_flatMap]
   have hn : ((o.table.toNat : Nat) : Int) = o.table := by omega
   exact ⟨o.key, List.mem_map.2 ⟨o, List.mem_filter.2 ⟨ho, by simp [ofT, hn]⟩, rfl⟩, by rw [hn]; exact (a1p hw ho).2 hm⟩
theorem a3p {m : Eg} : (∃ i, i < h.events.length ∧ m ∈ evT h i) ↔ m ∈ h.events.flatMap (evE h) := by
 rw [List.mem_flatMap]
 constructor
 · rintro ⟨i, hi, hm⟩
   obtain ⟨e, he⟩ := c7z hi
   unfold evT at hm
   rw [he] at hm
   exact ⟨e, List.mem_of_getElem? he, hm⟩
 · rintro ⟨e, he, hm⟩
   obtain ⟨i, hi⟩ := List.getElem?_of_mem he
   refine ⟨i, (List.getElem?_eq_some_iff.1 hi).1, ?_⟩
   unfold evT
   rw [hi]; exact hm
theorem a4p (hw : b1v h) (m : Eg) : addL (addL (fun _ => False) (wwT h) h.tables.length) (evT h) h.events.length m ↔ m ∈ b2l h := by
 rw [b3l hw]
 unfold addL b1l
 rw [a2p hw, a3p, List.mem_append]
 constructor
 · rintro ((h1 | ⟨h1, h2⟩) | ⟨h1, h2⟩)
   · exact h1.elim
   · exact ⟨.inl h2, h1⟩
   · exact ⟨.inr h2, h1⟩
 · rintro ⟨h1 | h1, h2⟩
   · exact .inl (.inr ⟨h2, h1⟩)
   · exact .inr ⟨h2, h1⟩
structure EgOf (h : Hs) (m : Eg) : Prop where
 frm : m.frm ∈ c3J h.events
 to : m.to ∈ c3J h.events
 kind : 1 ≤ m.kind ∧ m.kind ≤ 5
 key : b2s h m.table m.key
 cur : m.cursor = true → m.kind = 2 ∨ m.kind = 4
theorem a5p (hw : b1v h) {e : Ev} (he : e ∈ h.events) (hk : e.kind = 2) : b2s h e.table e.key := by
 obtain ⟨i, hi⟩ := List.getElem?_of_mem he
 exact ((b0h hw hi).1.2.1 hk).1
theorem a6p (hw : b1v h) {table : Int} {k : Vl} {i : Nat} {v : Vs} (hv : (chaB h.events h.order table k)[i]? = some v) (hi : 0 < i) : v.txn ∈ c3J h.events := (b8l hw hv hi).1
theorem a7p (hw : b1v h) {table : Int} {k : Vl} {v : Vs} (hp : 0 < plaB h.events h.order table k v) : v.txn ∈ c3J h.events := by
 unfold plaB at hp
 split at hp
 · omega
 · rcases b3A (fun x : Vs => decide (x.txn = v.txn)) (chaB h.events h.order table k) with ⟨i, x, g1, g2, g3, _⟩ | ⟨_, g⟩
   · rw [g3] at hp
     rw [decide_eq_true_eq] at g2
     rw [← g2]
     exact a6p hw g1 (by omega)
   · omega
theorem a8p (hw : b1v h) {m : Eg} (hm : m ∈ b1l h) : EgOf h m := by
 unfold b1l at hm
 rw [List.mem_append, List.mem_flatMap, List.mem_flatMap] at hm
 rcases hm with ⟨o, ho, hm⟩ | ⟨e, he, hm⟩
 · obtain ⟨i, a, b, ha, hb, rfl⟩ := b5l.1 hm
   exact ⟨b5x (b2e hw ho (List.mem_of_getElem? ha)).1, b5x (b2e hw ho (List.mem_of_getElem? hb)).1, by simp, a9o hw ho, fun h => by cases h⟩
 · unfold evE at hm
   split at hm
   · rename_i h5
     have hc := b5x h5
     split at hm
     · rename_i k2
       unfold b6k at hm
       rw [List.mem_append] at hm
       rcases hm with hm | hm
       · unfold rd1 at hm
         split at hm
         · rename_i hp
           rw [List.mem_singleton] at hm
           subst hm
           exact ⟨a7p hw hp, hc, by simp, a5p hw he k2, fun _ => .inl rfl⟩
         · cases hm
       · unfold rd2 at hm
         split at hm
         · rename_i hp
           rw [List.mem_singleton] at hm
           subst hm
           obtain ⟨v, hv⟩ : ∃ v, (chaB h.events h.order e.table e.key)[(plaB h.events h.order e.table e.key e.frm + 1).toNat]? = some v := c7z (by omega)
           refine ⟨hc, ?_, by simp, a5p hw he k2, fun _ => .inr rfl⟩
           rw [hv]
           exact a6p hw hv (by omega)
         · cases hm
     · split at hm
       · unfold b0l at hm
         rw [List.mem_flatMap] at hm
         obtain ⟨o, ho, hm⟩ := hm
         unfold b9k at hm
         split at hm
         · rename_i ht
           unfold b8k at hm
           split at hm
           · cases hm
           · rw [mem_range] at hm
             obtain ⟨j, hj, hm⟩ := hm
             unfold b7k at hm
             split at hm
             · rename_i hch
               have hj0 : 0 < j := by
                 rcases Nat.eq_zero_or_pos j with g | g
                 · subst g
                   unfold chgB at hch
                   rw [if_pos (.inl (by decide))] at hch
                   cases hch
                 · exact g
               obtain ⟨v, hv⟩ := c7z hj
               have hcv := a6p hw hv hj0
               have hk : b2s h e.table o.key := by rw [← ht]; exact a9o hw ho
               rw [List.mem_singleton, hv] at hm
               split at hm
               · subst hm
                 exact ⟨hcv, hc, by simp, hk, fun h => by cases h⟩
               · subst hm
                 exact ⟨hc, hcv, by simp, hk, fun h => by cases h⟩
             · cases hm
         · cases hm
       · cases hm
   · cases hm
theorem a9p (hw : b1v h) (hrg : h.Rg) {t : Int} (ht : t ∈ c3J h.events) : 1 ≤ t ∧ t < 2 ^ 63 := by
 unfold c3J at ht
 obtain ⟨e, he, rfl⟩ := List.mem_map.1 ht
 have hm := (List.mem_filter.1 he).1
 exact ⟨b4e hw hm, (hrg e hm).2⟩
theorem a0q (hw : b1v h) (hrg : h.Rg) {m : Eg} (hm : m ∈ b1l h) : m.D := by
 obtain ⟨h1, h2, h3, h4, _⟩ := a8p hw hm
 have g1 := a9p hw hrg h1
 have g2 := a9p hw hrg h2
 have g3 := b7l hw h4
 exact ⟨b6l h4, by omega, by omega, by omega, by omega⟩
theorem a1q (h : Hs) : Rise (b2l h) := by
 by_cases hw : b1v h
 · unfold b2l
   rw [if_pos hw]
   exact b7j (fun x hx => by cases hx) (fun x hx => b6l (a8p hw hx).key) List.Pairwise.nil
 · rw [b4l hw]; exact List.Pairwise.nil
theorem a2q {α β : Type} {f : α → List β} {B : Nat} : ∀ {l : List α}, (∀ x, x ∈ l → (f x).length ≤ B) → (l.flatMap f).length ≤ l.length * B
 | [], _ => by simp
 | x :: r, h => by
   rw [List.flatMap_cons, List.length_append, List.length_cons, Nat.add_mul, Nat.one_mul]
   have h1 := h x List.mem_cons_self
   have h2 := a2q (l := r) fun y hy => h y (List.mem_cons_of_mem _ hy)
   omega
theorem a3q (hw : b1v h) (hm : h.Mid) : (b1l h).length < 2 ^ 31 := by
 unfold b1l
 rw [List.length_append]
 have h1 : (h.order.flatMap wwE).length ≤ h.order.length * 100 := a2q fun o ho => by
   have := b3e hw ho
   unfold wwE
   rw [List.length_map, List.length_zip]
   have := hm.1
   omega
 have h2 : (h.events.flatMap (evE h)).length ≤ h.events.length * 20000 := a2q fun e _ => by
   unfold evE
   split
   · split
     · unfold b6k rd1 rd2
       rw [List.length_append]
       split <;> split <;> simp
     · split
       · unfold b0l
         have := a2q (f := b9k h e) (B := 200) (l := h.order) fun o _ => by
           unfold b9k
           split
           · unfold b8k
             split
             · simp
             · have := a2q (f := b7k h e o.key (plaB h.events h.order e.table o.key (b5k e.refs o.key))) (B := 1) (l := List.range (chaB h.events h.order e.table o.key).length) fun j _ => by
                 unfold b7k
                 split <;> simp
               rw [List.length_range] at this
               have := b7e hw e.table o.key
               have := hm.1
               omega
           · simp
         have := Nat.mul_le_mul_right 200 hm.2
         omega
       · simp
   · simp
 have := Nat.mul_le_mul_right 100 hm.2
 have := Nat.mul_le_mul_right 20000 hm.1
 omega
theorem a4q (hm : h.Mid) : (b2l h).length < 2 ^ 31 := by
 by_cases hw : b1v h
 · unfold b2l
   rw [if_pos hw]
   have h1 := b8j (es := b1l h) (l := [])
   have h2 := a3q hw hm
   rw [List.length_nil] at h1
   omega
 · rw [b4l hw]; decide
end
end Go.Rt
end

section
namespace Go.Rt
open Go.Vm
def gIn (l : List Int) : List Value → Option (List IV)
 | [.int .i64 t] => if t ∈ l then some [ci 1] else none
 | _ => none
theorem b8Z : gIn [] = fun _ => none := by
 funext q; unfold gIn; split
 · rw [if_neg (by simp)]
 · rfl
theorem b9Z (l : List Int) (t : Int) : gset (gIn l) [.int .i64 t] (some [ci 1]) = gIn (l ++ [t]) := by
 funext q
 simp only [gset]
 split
 · rename_i h; subst h
   simp only [gIn]
   rw [if_pos (by simp)]
 · rename_i hne
   unfold gIn
   split
   · rename_i u
     by_cases hu : u ∈ l
     · rw [if_pos hu, if_pos (by simp [hu])]
     · rw [if_neg hu, if_neg]
       intro g
       rcases List.mem_append.1 g with g | g
       · exact hu g
       · rw [List.mem_singleton.1 g] at hne; exact hne rfl
   · rfl
theorem c0a (l : List Int) (t : Int) : lkR [.iv (.v (.int .i64 0))] false false (gIn l [Value.int .i64 t]) = vi (if t ∈ l then 1 else 0) := by
 simp only [gIn]
 split <;> rfl
set_option maxHeartbeats 8000000 in
theorem c1a {h : Hs} (hok : h.Ok) (hm : h.Mid) (hw : ¬b1v h) : b9l prog true n_a9f [h.av] [] (.sl 2 8 0 0) [(2, .list 8 [])] := by
 have hR := b0D hok (by have := hm.1; omega) hw
 refine c7M 2 8 [] a9f_is (by simp) (by decide) (by simp) ?_
 simp -dsimp [a9f, Hs.av]
 refine c4N hR rfl (by simp [Hs.av]) (by simp [Hs.av]) (by simp) (by simp) ?_
 simp -dsimp
noncomputable abbrev grL (S : Eg → Prop) (x : Value) : Hp := [(18, .map skE (gE S)), (991, .gh ZT [x] [.mpr 18])]
theorem c2a {h : Hs} (hol : h.order.length < 2 ^ 62) (i : Nat) (x : Value) (hc : ∀ k, (chaB h.events h.order i k).length < 2 ^ 42) (S : Eg → Prop) :
   b9l prog false n_a0g [.iv (grIV h x), vi i] (grL S x) (.tup []) (grL (addS S (wwT h i)) x) := by
 have := (b9z hol i x hc S).ren (Ren.swaps [(1001, 18), (1002, 991)]) rfl
 rw [a5o] at this
 exact this
theorem c3a {h : Hs} (x : Value) (e : Ev) (hrow : b9C h.events) (hc : (chaB h.events h.order e.table e.key).length < 2 ^ 42) (S : Eg → Prop) :
   b9l prog false n_a2g [.iv (grIV h x), e.av] (grL S x) (.tup []) (grL (addS S (b6k h e)) x) := by
 have hs := b3v x e hrow hc S
 rw [a5o, Ev.av_eq, show [()].flatMap (fun _ : Unit => b6k h e) = b6k h e by simp] at hs
 rw [Ev.av_eq]
 exact hs.ren (Ren.swaps [(1001, 18), (1002, 991)]) rfl
theorem c4a (h : Hs) (e : Ev) : b0l h e = ((h.order.filter (ofT e.table)).map Ins.key).flatMap (b8k h e) := by
 unfold b0l
 induction h.order with
 | nil => rfl
 | cons o r ih =>
   rw [List.flatMap_cons, ih, List.filter_cons]
   unfold b9k ofT
   by_cases ht : o.table = e.table
   · rw [if_pos ht, if_pos (by simpa using ht), List.map_cons, List.flatMap_cons]
   · rw [if_neg ht, if_neg (by simpa using ht), List.nil_append]
theorem c5a {h : Hs} (hol : h.order.length < 2 ^ 62) (x : Value) (e : Ev) (heok : e.Ok) (hrow : b9C h.events) (hc : ∀ k, (chaB h.events h.order e.table k).length < 2 ^ 42) (S : Eg → Prop) :
   b9l prog false n_a3g [.iv (grIV h x), e.av] (grL S x) (.tup []) (grL (addS S (b0l h e)) x) := by
 have hs := b1W hol x e heok hrow hc S
 rw [a5o, ← c4a, Ev.av_eq] at hs
 rw [Ev.av_eq]
 exact hs.ren (Ren.swaps [(1001, 18), (1002, 991)]) rfl
noncomputable def edS (h : Hs) (x : Value) (S : Eg → Prop) (fr : List (Nat × AV)) (hp : Hp) : St :=
 ⟨fr ++ [(4, .iv (grIV h x)), (1, .ptr 1 0), (3, .iv (bkIV h.events h.order))], hp ++ [(1, .box [.iv (.lst 1 (tbsC h.tables)), .iv (.lst 22 (evsC h.events)), .iv (.lst 5 (insC h.order))]), (18, .map skE (gE S)), (991, .gh ZT [x] [.mpr 18])]⟩
set_option maxHeartbeats 8000000 in
theorem c6a {h : Hs} (hok : h.Ok) (hrg : h.Rg) (hm : h.Mid) (hw : b1v h) : b9l prog true n_a9f [h.av] [] (.sl 11 8 0 (b2l h).length) [(11, .list 8 (egsC (b2l h)))] := by
 refine (c2H (fun r K => r = .sl 11 8 0 (b2l h).length ∧ K = [(11, .list 8 (egsC (b2l h)))]) a9f_is (by simp) (by decide) (fun x H' h => ?_) ?_).one (fun _ _ h => h) (fun id o ho => ?_)
 · obtain ⟨rfl, rfl⟩ := h
   refine ⟨fun id o ho => ?_, rfl⟩
   simp only [Vm.look] at ho
   split at ho
   · cases ho
     exact ⟨rfl, b8B _⟩
   · cases ho
 rotate_left
 · simp only [Vm.look] at ho
   split at ho
   · cases ho; rfl
   · cases ho
 have hol : h.order.length < 2 ^ 62 := by have := hm.2; omega
 have hc : ∀ table k, (chaB h.events h.order table k).length < 2 ^ 42 := fun table k => by
   have := b7e hw table k; have := hm.1; omega
 have hrow := c2L hw
 have hR := b1D hok (by have := hm.1; omega) hw hrow fun o ho => Nat.lt_of_le_of_lt (b3e hw ho) (by have := hm.1; omega)
 simp -dsimp [a9f, Hs.av]
 refine c4N hR rfl (by simp [Hs.av]) (by simp [Hs.av]) (by simp) (by simp) ?_
 have hbk : ∀ {P : Program} {s : St} {K : St → AV → Prop}, True := trivial
 simp -dsimp [bkIV, b0Q]
 refine a1E (fun k s => ∃ (x : Value) (i : Nat), i ≤ h.tables.length ∧ k = h.tables.length - i ∧ s = edS h x (addL (fun _ => False) (wwT h) i) [(24, vi i), (23, vi h.tables.length)] []) ?_ ?_
 · refine (a1J (id := 20) (g := 991) (i := 4) (m := 18) (cs := [.iv (.lst 1 (tbsC h.tables)), .iv (.lst 22 (evsC h.events)), .iv (.lst 5 (insC h.order)), .iv (bkIV h.events h.order), .mpr 18]) (by simp [bkIV]) rfl (by simp) (by decide)).to ?_
   rintro s' ⟨x, rfl⟩
   refine (LeTo.le (D := [20, 2]) (s' := edS h x (addL (fun _ => False) (wwT h) 0) [(24, vi (0 : Nat)), (23, vi h.tables.length)] []) ?_).x ⟨_, x, 0, Nat.zero_le _, rfl, rfl⟩
   simp -dsimp [edS, a9v, a6v, grIV, bkIV, St.add, St.set_mk]
 · rintro k s' ⟨x, i, hi, rfl, rfl⟩
   simp -dsimp [edS, a9f_l10]
   refine ⟨fun hlt => ?_, fun hge => ?_⟩
   · have hwr := c8z (n := (i : Int) + 1) (by have := hok.tables; omega)
     refine a8G (c2a hol i x (fun k => hc i k) (addL (fun _ => False) (wwT h) i)) rfl (by simp) (by simp) (by simp) (by simp) (by simp) (by simp) (by simp) ?_
     rw [← a6o]
     simp -dsimp [hwr]
     exact ⟨h.tables.length - (i + 1), by omega, edS h x (addL (fun _ => False) (wwT h) (i + 1)) [(24, vi (i + 1 : Nat)), (23, vi h.tables.length)] [], LeTo.le (D := []) (by simp -dsimp [edS]), x, i + 1, hlt, rfl, rfl⟩
   · have hin : i = h.tables.length := by omega
     subst hin
     simp -dsimp
     have hlen : (b4J (c3J h.events)).length ≤ 100 := by
       rw [b2C]; exact Nat.le_trans (c6J _) hm.1
     refine c4N (b5I h.events h.order (by have := hm.1; omega)) rfl (by simp) (by simp) (by simp) (by simp) ?_
     simp -dsimp [c1A]
     generalize hS0 : addL (fun _ => False) (wwT h) h.tables.length = S0
     generalize hcl : b4J (c3J h.events) = cl at hlen
     refine a2E [] [] cl.length (fun q => edS h x S0 [(35, vi q), (34, vi cl.length), (33, .iv (.lst 1 (c0A cl))), (6, .mpr 31)] [(31, .map (false, [.i .i64], false) (gIn (cl.take q)))]) (fun _ => True) ?_ trivial ?_
     · simp -dsimp [edS, b8Z]
     · intro q hq _
       simp -dsimp [edS, a9f_l17]
       refine ⟨fun hlt => ?_, fun hge => ?_⟩
       · obtain ⟨t, ht⟩ := c7z hlt
         have hwr := c8z (n := (q : Int) + 1) (by omega)
         have hst : cl.take (q + 1) = cl.take q ++ [t] := by rw [List.take_add_one, ht]; rfl
         simp -dsimp [ht, hwr, b9Z, hst]
         exact hlt
       · rw [List.take_of_length_le hge]
         refine a2E [31] [10] h.events.length (fun q => edS h x (addL S0 (evT h) q) [(45, vi q), (44, vi h.events.length), (43, .iv (.lst 22 (evsC h.events))), (6, .iv (.mp (false, [.i .i64], false) (gIn cl)))] []) (fun _ => True) ?_ trivial ?_
         · simp -dsimp [edS, a9v]
         · intro q hq _
           simp -dsimp [edS, a9f_l27]
           refine ⟨fun hlt => ?_, fun hge => ?_⟩
           · obtain ⟨e, he⟩ := c7z hlt
             have hwr := c8z (n := (q : Int) + 1) (by have := hm.1; omega)
             have hadd := a6o S0 (evT h) q
             have hev : evT h q = evE h e := by unfold evT; rw [he]; rfl
             have hmem : e.txn ∈ cl ↔ b8r h.events e.txn = 5 := by
               rw [← hcl]
               exact ⟨fun g => b4x hw ((List.mergeSort_perm _ _).mem_iff.1 g), fun g => (List.mergeSort_perm _ _).mem_iff.2 (b5x g)⟩
             have heok := hok.ev e (List.mem_of_getElem? he)
             rw [hev] at hadd
             rw [hadd]
             unfold evE
             by_cases h5 : e.txn ∈ cl
             · rw [if_pos (hmem.1 h5)]
               by_cases k2 : e.kind = 2
               · rw [if_pos k2]
                 simp -dsimp [he, c0a, Ev.cells_eq e, h5, k2]
                 refine a8G (c3a x e hrow (hc e.table e.key) (addL S0 (evT h) q)) rfl (by simp) (by simp [Ev.av_eq, k2]) (by simp [Ev.av_eq]) (by simp) (by simp) (by simp) (by simp) ?_
                 simp -dsimp [hwr]
                 exact hlt
               · rw [if_neg k2]
                 by_cases k4 : e.kind = 4
                 · rw [if_pos k4]
                   simp -dsimp [he, c0a, Ev.cells_eq e, h5, k4]
                   refine a8G (c5a hol x e heok hrow (hc e.table) (addL S0 (evT h) q)) rfl (by simp) (by simp [Ev.av_eq, k4]) (by simp [Ev.av_eq]) (by simp) (by simp) (by simp) (by simp) ?_
                   simp -dsimp [hwr]
                   exact hlt
                 · rw [if_neg k4, a7o]
                   simp -dsimp [he, c0a, Ev.cells_eq e, h5, k2, k4, hwr]
                   exact hlt
             · rw [if_neg fun g => h5 (hmem.2 g), a7o]
               simp -dsimp [he, c0a, Ev.cells_eq e, h5, hwr]
               exact hlt
           · have hqn : q = h.events.length := by omega
             subst hqn
             have hfin : ∀ m, addL S0 (evT h) h.events.length m ↔ m ∈ b2l h := fun m => by rw [← hS0]; exact a4p hw m
             generalize addL S0 (evT h) h.events.length = SF at hfin ⊢
             have hSL : ∀ m, SF m → m ∈ b1l h := fun m g => ((b3l hw).1 ((hfin m).1 g)).1
             have hEl := a3q hw hm
             have hnd : ∀ {ks : List Eg}, ks.Nodup → (∀ j ∈ ks, SF j) → ks.length ≤ (b1l h).length := fun g1 g2 => b8d g1 fun j hj => hSL j (g2 j hj)
             simp -dsimp [grIV]
             refine c1b (a2J (t := 73) (g := 991) (i := 0) (x := x) (y := .mpr 18) (Z := ZT) (vs := [x]) (cs := [.mpr 18]) (by simp) (by simp) rfl rfl) ?_
             refine c4N (b3B (gE SF)) rfl (by simp [St.set_mk]) (by simp) (by simp) (by simp [St.set_mk]) ?_
             simp -dsimp [St.set_mk]
             refine b5u (b1C (caps := [.pt [.mp skE (gE SF)]]) (b1B SF) b4B (fun pre x hp => ?_)) ?_ (by simp) ?_ ?_
             · obtain ⟨ks, k, h1, h2, h3, h4⟩ := hp
               refine ⟨ks, k, h1, h2, ?_⟩
               have := hnd h3 h4
               rw [List.length_append] at this
               omega
             · simp
             · rintro r K ⟨ks, hS, ⟨rfl, rfl, rfl⟩ | ⟨hne, rfl, rfl⟩⟩ id o ho
               · cases ho
               · simp only [Vm.look] at ho
                 split at ho
                 · rename_i e; subst e
                   refine ⟨?_, by decide⟩
                   simp -dsimp
                 · cases ho
             · rintro r K ⟨ks, ⟨ks', hk1, hk2, hk3⟩, hcase⟩
               have hks : ks = ks' := by have := congrArg b5B hk1; rwa [b6B, b6B] at this
               subst hks
               obtain ⟨r0, hr1, hr2, hr3, hr4⟩ := a5K (l := ks) (fun e he => a0q hw hrg (hSL e ((hk3 e).1 he))) hk2 (by
                 have := hnd hk2 fun j hj => (hk3 j).1 hj
                 omega)
               obtain rfl : r0 = b2l h := b3j hr1 (a1q h) fun e => by rw [hr2, hk3, hfin]
               rcases hcase with ⟨rfl, rfl, rfl⟩ | ⟨hne, rfl, rfl⟩
               · have hE : b2l h = [] := List.eq_nil_of_length_eq_zero hr3
                 rw [hE]
                 simp -dsimp
                 refine a5C a6K (by simp) (by simp) ?_
                 simp -dsimp
                 refine ⟨_, c1H (t := 2) (sz := 8) (id := 11) (by simp) (by simp) (by decide), [1, 901, 991], _, _, ⟨rfl, rfl⟩, ?_⟩
                 simp -dsimp [St.add, St.set_mk, egsC]
               · simp -dsimp
                 have hr5 : b9l prog false n_a4h [.sl 11 8 0 ks.length, .fn n_a7g [] []] [(11, .list 8 (egsC ks))] (.tup []) [(11, .list 8 (egsC (b2l h)))] := hr4.ren (Ren.swaps [(1000, 11)]) rfl
                 refine a8G hr5 rfl (by simp) (by simp) (by simp) (by simp) (by simp) (by simp [Ob.le, Ob.dim, hr3]) (by simp) ?_
                 simp -dsimp
                 refine ⟨_, Le.refl _, [1, 901, 991], _, _, ⟨rfl, rfl⟩, ?_⟩
                 simp -dsimp [hr3]
theorem c7a {h : Hs} (hok : h.Ok) (hrg : h.Rg) (hm : h.Mid) (d : Nat) : b9l prog true n_a9f [h.av] [] (.sl d 8 0 (b2l h).length) [(d, .list 8 (egsC (b2l h)))] := by
 by_cases hw : b1v h
 · exact (c6a hok hrg hm hw).fresh d (by simp [Hs.av, AV.shal, AV.shal2, AV.shal1]) (fun ρ => rfl)
 · have := (c1a hok hm hw).fresh d (by simp [Hs.av, AV.shal, AV.shal2, AV.shal1]) (fun ρ => rfl)
   rw [b4l hw]
   exact this
end Go.Rt
end

section
namespace Go.Rt
open Go.Vm
@[simp] theorem b7m (l : List Eg) : (egsC l).take l.length = egsC l := List.take_of_length_le (by simp)
def exR (t : Int) (v : Vs) : Ev := ⟨t, 2, 0, 0, k5, v, 0, [], noPd, [], false⟩
def exG : Hs := ⟨[[false]], [exB 1 1, exW 1 1 [k5], exC 1, exB 2 1, exR 2 ⟨1, 1⟩, exC 2, exB 3 1, exW 3 1 [], exC 3], [⟨0, k5, [1, 3]⟩]⟩
theorem b8m : b1v exG := by decide
theorem b9m : b2l exG = [⟨1, 2, 2, 0, k5, false⟩, ⟨1, 3, 1, 0, k5, false⟩, ⟨2, 3, 4, 0, k5, false⟩] := by
 unfold b2l
 rw [if_pos b8m]
 decide
theorem b0n {h : Hs} {e : Ev} (h1 : e.row.length ≤ 1) (h2 : e.refs = []) (h3 : e.pred = noPd) (h4 : e.key.s = ⟨#[]⟩) : e.Ok :=
 ⟨by omega, by rw [h2]; decide, by rw [h3]; exact c1L, by rw [h4]; decide, fun r hr => by rw [h2] at hr; cases hr⟩
theorem b1n : exG.Ok := by
 refine ⟨by decide, by decide, by decide, fun e he => ?_, fun o ho => ?_, fun t ht => ?_, fun o ho => ?_⟩
 · simp only [exG, List.mem_cons, List.not_mem_nil, or_false] at he
   rcases he with rfl | rfl | rfl | rfl | rfl | rfl | rfl | rfl | rfl <;> exact b0n (h := exG) (by decide) rfl rfl rfl
 · simp only [exG, List.mem_singleton] at ho; subst ho; decide
 · simp only [exG, List.mem_singleton] at ht; subst ht; decide
 · simp only [exG, List.mem_singleton] at ho; subst ho; decide
theorem b2n : exG.Rg := by
 intro e he
 simp only [exG, List.mem_cons, List.not_mem_nil, or_false] at he
 rcases he with rfl | rfl | rfl | rfl | rfl | rfl | rfl | rfl | rfl <;> exact ⟨by decide, by decide⟩
theorem b3n : exG.Mid := ⟨by decide, by decide⟩
theorem b4n : exG.av = .agg [.iv (.lst 1 [[.lst 1 [[cb false]]]]), .iv (.lst 22 [(exB 1 1).cells, (exW 1 1 [k5]).cells, (exC 1).cells, (exB 2 1).cells, (exR 2 ⟨1, 1⟩).cells, (exC 2).cells, (exB 3 1).cells, (exW 3 1 []).cells, (exC 3).cells]), .iv (.lst 5 [[ci 0, cb false, ci 5, .v (.string ⟨#[]⟩), .lst 1 [[ci 1], [ci 3]]]])] := rfl
theorem exR_c (t : Int) (v : Vs) : (exR t v).cells = [ci t, ci 2, ci 0, ci 0, cb false, ci 5, .v (.string ⟨#[]⟩), ci v.txn, ci v.n, ci 0, .lst 3 [], ci 0, ci 0, cb false, ci 0, .v (.string ⟨#[]⟩), cb false, ci 0, .v (.string ⟨#[]⟩), .lst 9 [], .lst 5 [], cb false] := rfl
theorem b5n (d : Nat) : b9l prog true n_a9f [exG.av] [] (.sl d 8 0 3) [(d, .list 8 (egsC [⟨1, 2, 2, 0, k5, false⟩, ⟨1, 3, 1, 0, k5, false⟩, ⟨2, 3, 4, 0, k5, false⟩]))] := by
 have := c7a b1n b2n b3n d
 rw [b9m] at this
 exact this
set_option maxHeartbeats 8000000 in
theorem b6n : b9l prog true n_a6f [] [] (vb true) [] := by
 refine a9D a6f_is (by simp) (by decide) rfl ?_
 simp -dsimp [b4s]
 refine c8M (b5n 38) (by decide) (by rw [b4n]; simp [exB_c, exC_c, exW_c, exR_c, rowC, k5]) (by simp [b4n]) ?_
 simp -dsimp [egsC, Eg.cells, k5]
end Go.Rt
end

section
namespace Go.Rt
open Go.Vm
theorem c0C {h : Hs} (hs : SmallP h) : h.Mid := ⟨by have := hs.events; omega, by have := hs.order; omega⟩
end Go.Rt
end

section
namespace Go.Rt
open Go.Vm
theorem b6T {P : Program} {f : Nat} {t : TypeId} {cs : List IV} {k : IntKind} (hu : P.underlying t = some (.int k)) (h : WfT P f t cs) : ∃ n, cs = [.v (.int k n)] ∧ (Lit.int k n).wf = true := by
 cases f with
 | zero => exact h.elim
 | succ f => simpa only [WfT, hu] using h
theorem b7T {P : Program} {f : Nat} {t : TypeId} {cs : List IV} (hu : P.underlying t = some .bool) (h : WfT P f t cs) : ∃ b, cs = [.v (.bool b)] := by
 cases f with
 | zero => exact h.elim
 | succ f => simpa only [WfT, hu] using h
theorem b8T {P : Program} {f : Nat} {t : TypeId} {cs : List IV} (hu : P.underlying t = some .string) (h : WfT P f t cs) : ∃ s : ByteArray, cs = [.v (.string s)] ∧ s.size < 2 ^ 63 := by
 cases f with
 | zero => exact h.elim
 | succ f =>
   simp only [WfT, hu] at h
   obtain ⟨s, h1, h2⟩ := h
   refine ⟨s, h1, Nat.lt_of_le_of_lt h2 (by decide)⟩
theorem b9T {P : Program} {f : Nat} {t e n : Nat} {cs : List IV} (hu : P.underlying t = some (.slice e)) (hn : P.cellsOf e = n) (h : WfT P f t cs) : ∃ f', f = f' + 1 ∧ ∃ xs, cs = [.lst n xs] ∧ xs.length < 2 ^ 63 ∧ ∀ x ∈ xs, WfT P f' e x := by
 cases f with
 | zero => exact h.elim
 | succ f =>
   simp only [WfT, hu, hn] at h
   obtain ⟨xs, h1, h2, h3⟩ := h
   exact ⟨f, rfl, xs, h1, Nat.lt_of_le_of_lt h2 (by decide), h3⟩
def fieldsOf (P : Program) (t : TypeId) : Option (List (Nat × Nat × Nat)) := match P.underlying t with
 | some (.struct fs) => some (fs.toList.map fun f => (f.type, f.offset, P.cellsOf f.type))
 | _ => none
theorem b0U {P : Program} {f : Nat} {t n : Nat} {l : List (Nat × Nat × Nat)} {cs : List IV} (hu : fieldsOf P t = some l) (hn : P.cellsOf t = n) (h : WfT P f t cs) :
   ∃ f', f = f' + 1 ∧ cs.length = n ∧ ∀ p ∈ l, WfT P f' p.1 ((cs.drop p.2.1).take p.2.2) := by
 unfold fieldsOf at hu
 split at hu
 · rename_i fs hu'
   cases f with
   | zero => exact h.elim
   | succ f =>
     simp only [WfT, hu', hn] at h
     refine ⟨f, rfl, h.1, fun p hp => ?_⟩
     cases hu
     obtain ⟨fld, h1, rfl⟩ := List.mem_map.1 hp
     exact h.2 fld h1
 · cases hu
theorem b1U {α : Type} (cs : List α) (o n : Nat) {x : List α} (h : (cs.drop o).take n = x) : cs.drop o = x ++ cs.drop (o + n) := by
 rw [← h, ← List.drop_drop, List.take_append_drop]
theorem b2U {α : Type} {cs : List α} {o : Nat} (h : cs.length = o) : cs.drop o = [] := List.drop_eq_nil_of_le (by omega)
theorem b3U {α β : Type} {f : α → β} {Q : α → Prop} : ∀ {xs : List β}, (∀ x, x ∈ xs → ∃ p, Q p ∧ x = f p) → ∃ ps : List α, xs = ps.map f ∧ ∀ p, p ∈ ps → Q p
 | [], _ => ⟨[], rfl, fun _ h => by cases h⟩
 | x :: r, h => by
   obtain ⟨p, h1, rfl⟩ := h x List.mem_cons_self
   obtain ⟨ps, rfl, h3⟩ := b3U (xs := r) fun y hy => h y (List.mem_cons_of_mem _ hy)
   exact ⟨p :: ps, rfl, fun q hq => by
     rcases List.mem_cons.1 hq with rfl | hq
     · exact h1
     · exact h3 q hq⟩
section
theorem u4 : prog.underlying 4 = some .bool := by kernel_rfl
theorem u2 : prog.underlying 2 = some (.int .i64) := by kernel_rfl
theorem u3 : prog.underlying 3 = some (.int .i64) := by kernel_rfl
theorem u9 : prog.underlying 9 = some .string := by kernel_rfl
theorem b4U {f : Nat} {cs : List IV} (h : WfT prog f 23 cs) : ∃ v : Vl, cs = v.cells ∧ v.s.size < 2 ^ 63 := by
 obtain ⟨f, rfl, hl, hf⟩ := b0U (P := prog) (t := 23) (n := 3) (l := [(4, 0, 1), (2, 1, 1), (9, 2, 1)]) (by kernel_rfl) (by kernel_rfl) h
 obtain ⟨b, h1⟩ := b7T u4 (hf (4, 0, 1) (by decide))
 obtain ⟨n, h2, _⟩ := b6T u2 (hf (2, 1, 1) (by decide))
 obtain ⟨s, h3, h4⟩ := b8T u9 (hf (9, 2, 1) (by decide))
 refine ⟨⟨b, n, s⟩, ?_, h4⟩
 have e := b1U cs 0 1 h1
 rw [b1U cs 1 1 h2, b1U cs 2 1 h3, b2U hl] at e
 exact e
theorem b5U {f : Nat} {cs : List IV} (h : WfT prog f 38 cs) : ∃ v : Vs, cs = v.cells := by
 obtain ⟨f, rfl, hl, hf⟩ := b0U (P := prog) (t := 38) (n := 2) (l := [(3, 0, 1), (3, 1, 1)]) (by kernel_rfl) (by kernel_rfl) h
 obtain ⟨b, h1, _⟩ := b6T u3 (hf (3, 0, 1) (by decide))
 obtain ⟨n, h2, _⟩ := b6T u3 (hf (3, 1, 1) (by decide))
 refine ⟨⟨b, n⟩, ?_⟩
 have e := b1U cs 0 1 h1
 rw [b1U cs 1 1 h2, b2U hl] at e
 exact e
theorem b6U {f : Nat} {cs : List IV} (h : WfT prog f 40 cs) : ∃ r : List Vl, cs = [.lst 3 (rowC r)] ∧ r.length < 2 ^ 63 := by
 obtain ⟨f, rfl, xs, rfl, hl, hx⟩ := b9T (P := prog) (t := 40) (e := 23) (n := 3) (by kernel_rfl) (by kernel_rfl) h
 obtain ⟨r, rfl, _⟩ := b3U (f := Vl.cells) (Q := fun _ => True) (xs := xs) fun x hm => by
   obtain ⟨v, h1, _⟩ := b4U (hx x hm); exact ⟨v, trivial, h1⟩
 exact ⟨r, rfl, by simpa using hl⟩
theorem wf_pd : ∀ {f : Nat} {cs : List IV}, WfT prog f 43 cs → ∃ p : Pd, cs = p.cells ∧ p.Ok := by
 intro f
 induction f using Nat.strongRecOn with
 | ind f ih =>
   intro cs h
   obtain ⟨f1, rfl, hl, hf⟩ := b0U (P := prog) (t := 43) (n := 9) (l := [(3, 0, 1), (3, 1, 1), (23, 2, 3), (23, 5, 3), (41, 8, 1)]) (by kernel_rfl) (by kernel_rfl) h
   obtain ⟨o, h1, _⟩ := b6T u3 (hf (3, 0, 1) (by decide))
   obtain ⟨c, h2, _⟩ := b6T u3 (hf (3, 1, 1) (by decide))
   obtain ⟨v, h3, hv⟩ := b4U (hf (23, 2, 3) (by decide))
   obtain ⟨w, h4, hw⟩ := b4U (hf (23, 5, 3) (by decide))
   obtain ⟨f2, rfl, xs, h5, hxl, hx⟩ := b9T (P := prog) (t := 41) (e := 43) (n := 9) (by kernel_rfl) (by kernel_rfl) (hf (41, 8, 1) (by decide))
   obtain ⟨ps, rfl, hps⟩ := b3U (f := Pd.cells) (Q := Pd.Ok) (xs := xs) fun x hm => by
     obtain ⟨p, g1, g2⟩ := ih f2 (by omega) (hx x hm); exact ⟨p, g2, g1⟩
   refine ⟨.mk o c v w ps, ?_, .mk _ (by rw [List.length_map] at hxl; exact hxl) hv hw hps⟩
   have e := b1U cs 0 1 h1
   rw [b1U cs 1 1 h2, b1U cs 2 3 h3, b1U cs 5 3 h4, b1U cs 8 1 h5, b2U hl] at e
   rw [Pd.cells_eq]
   exact e
theorem wf_rf {f : Nat} {cs : List IV} (h : WfT prog f 98 cs) : ∃ r : Rf, cs = r.cells ∧ r.key.s.size < 2 ^ 63 := by
 obtain ⟨f, rfl, hl, hf⟩ := b0U (P := prog) (t := 98) (n := 5) (l := [(23, 0, 3), (38, 3, 2)]) (by kernel_rfl) (by kernel_rfl) h
 obtain ⟨v, h1, hv⟩ := b4U (hf (23, 0, 3) (by decide))
 obtain ⟨n, h2⟩ := b5U (hf (38, 3, 2) (by decide))
 refine ⟨⟨v, n⟩, ?_, hv⟩
 have e := b1U cs 0 3 h1
 rw [b1U cs 3 2 h2, b2U hl] at e
 exact e
set_option maxRecDepth 10000 in
theorem b7U {n : Int} (h : (Lit.int .i64 n).wf = true) : -(2 ^ 63) ≤ n ∧ n < 2 ^ 63 := by
 unfold Lit.wf at h
 rw [Bool.and_eq_true, decide_eq_true_eq, decide_eq_true_eq] at h
 have h1 : IntKind.min .i64 = -(2 ^ 63) := by decide
 have h2 : IntKind.max .i64 = 2 ^ 63 - 1 := by decide
 rw [h1, h2] at h
 omega
set_option maxRecDepth 10000 in
theorem wf_ev {f : Nat} {cs : List IV} (h : WfT prog f 46 cs) : ∃ e : Ev, cs = e.cells ∧ e.Ok ∧ (-(2 ^ 63) ≤ e.txn ∧ e.txn < 2 ^ 63) := by
 obtain ⟨f, rfl, hl, hf⟩ := b0U (P := prog) (t := 46) (n := 22) (l := [(3, 0, 1), (3, 1, 1), (3, 2, 1), (3, 3, 1), (23, 4, 3), (38, 7, 2), (3, 9, 1), (40, 10, 1), (43, 11, 9), (44, 20, 1), (4, 21, 1)]) (by kernel_rfl) (by kernel_rfl) h
 obtain ⟨a1, h1, r1⟩ := b6T u3 (hf (3, 0, 1) (by decide))
 obtain ⟨a2, h2, _⟩ := b6T u3 (hf (3, 1, 1) (by decide))
 obtain ⟨a3, h3, _⟩ := b6T u3 (hf (3, 2, 1) (by decide))
 obtain ⟨a4, h4, _⟩ := b6T u3 (hf (3, 3, 1) (by decide))
 obtain ⟨k, h5, hk⟩ := b4U (hf (23, 4, 3) (by decide))
 obtain ⟨v, h6⟩ := b5U (hf (38, 7, 2) (by decide))
 obtain ⟨n, h7, _⟩ := b6T u3 (hf (3, 9, 1) (by decide))
 obtain ⟨r, h8, hr⟩ := b6U (hf (40, 10, 1) (by decide))
 obtain ⟨p, h9, hp⟩ := wf_pd (hf (43, 11, 9) (by decide))
 obtain ⟨f2, rfl, xs, h10, hxl, hx⟩ := b9T (P := prog) (t := 44) (e := 98) (n := 5) (by kernel_rfl) (by kernel_rfl) (hf (44, 20, 1) (by decide))
 obtain ⟨b, h11⟩ := b7T u4 (hf (4, 21, 1) (by decide))
 obtain ⟨rs, rfl, hrs⟩ := b3U (f := Rf.cells) (Q := fun r => r.key.s.size < 2 ^ 63) (xs := xs) fun x hm => by
   obtain ⟨p, g1, g2⟩ := wf_rf (hx x hm); exact ⟨p, g2, g1⟩
 refine ⟨⟨a1, a2, a3, a4, k, v, n, r, p, rs, b⟩, ?_, ⟨hr, by simpa using hxl, hp, hk, hrs⟩, b7U r1⟩
 have e := b1U cs 0 1 h1
 rw [b1U cs 1 1 h2, b1U cs 2 1 h3, b1U cs 3 1 h4, b1U cs 4 3 h5, b1U cs 7 2 h6, b1U cs 9 1 h7, b1U cs 10 1 h8, b1U cs 11 9 h9, b1U cs 20 1 h10, b1U cs 21 1 h11, b2U hl] at e
 rw [Ev.cells_eq]
 rw [Pd.cells_eq] at e
 exact e
theorem b8U {f : Nat} {cs : List IV} (h : WfT prog f 50 cs) : ∃ r : List Int, cs = [.lst 1 (c0A r)] ∧ r.length < 2 ^ 63 := by
 obtain ⟨f, rfl, xs, rfl, hl, hx⟩ := b9T (P := prog) (t := 50) (e := 3) (n := 1) (by kernel_rfl) (by kernel_rfl) h
 obtain ⟨r, rfl, _⟩ := b3U (f := fun i => [ci i]) (Q := fun _ => True) (xs := xs) fun x hm => by
   obtain ⟨v, h1, _⟩ := b6T u3 (hx x hm); exact ⟨v, trivial, h1⟩
 exact ⟨r, rfl, by simpa using hl⟩
theorem b9U {f : Nat} {cs : List IV} (h : WfT prog f 47 cs) : ∃ r : List Bool, cs = [.lst 1 (c9z r)] ∧ r.length < 2 ^ 63 := by
 obtain ⟨f, rfl, xs, rfl, hl, hx⟩ := b9T (P := prog) (t := 47) (e := 4) (n := 1) (by kernel_rfl) (by kernel_rfl) h
 obtain ⟨r, rfl, _⟩ := b3U (f := fun b => [cb b]) (Q := fun _ => True) (xs := xs) fun x hm => by
   obtain ⟨v, h1⟩ := b7T u4 (hx x hm); exact ⟨v, trivial, h1⟩
 exact ⟨r, rfl, by simpa using hl⟩
theorem b0V {f : Nat} {cs : List IV} (h : WfT prog f 52 cs) : ∃ o : Ins, cs = o.cells ∧ (o.txns.length < 2 ^ 63 ∧ o.key.s.size < 2 ^ 63) := by
 obtain ⟨f, rfl, hl, hf⟩ := b0U (P := prog) (t := 52) (n := 5) (l := [(3, 0, 1), (23, 1, 3), (50, 4, 1)]) (by kernel_rfl) (by kernel_rfl) h
 obtain ⟨a, h1, _⟩ := b6T u3 (hf (3, 0, 1) (by decide))
 obtain ⟨k, h2, hk⟩ := b4U (hf (23, 1, 3) (by decide))
 obtain ⟨r, h3, hr⟩ := b8U (hf (50, 4, 1) (by decide))
 refine ⟨⟨a, k, r⟩, ?_, hr, hk⟩
 have e := b1U cs 0 1 h1
 rw [b1U cs 1 3 h2, b1U cs 4 1 h3, b2U hl] at e
 exact e
theorem wf_tb {f : Nat} {cs : List IV} (h : WfT prog f 49 cs) : ∃ t : Tb, cs = [tbIV t] ∧ t.length < 2 ^ 63 := by
 obtain ⟨f, rfl, hl, hf⟩ := b0U (P := prog) (t := 49) (n := 1) (l := [(47, 0, 1)]) (by kernel_rfl) (by kernel_rfl) h
 obtain ⟨r, h1, hr⟩ := b9U (hf (47, 0, 1) (by decide))
 refine ⟨r, ?_, hr⟩
 have e := b1U cs 0 1 h1
 rw [b2U hl] at e
 exact e
theorem wf_hs {f : Nat} {cs : List IV} (h : WfT prog f 32 cs) : ∃ h : Hs, cs = h.cells ∧ h.Ok ∧ h.Rg := by
 obtain ⟨f, rfl, hl, hf⟩ := b0U (P := prog) (t := 32) (n := 3) (l := [(28, 0, 1), (29, 1, 1), (30, 2, 1)]) (by kernel_rfl) (by kernel_rfl) h
 obtain ⟨f1, e1, xs1, h1, l1, g1⟩ := b9T (P := prog) (t := 28) (e := 49) (n := 1) (by kernel_rfl) (by kernel_rfl) (hf (28, 0, 1) (by decide))
 obtain ⟨f2, e2, xs2, h2, l2, g2⟩ := b9T (P := prog) (t := 29) (e := 46) (n := 22) (by kernel_rfl) (by kernel_rfl) (hf (29, 1, 1) (by decide))
 obtain ⟨f3, e3, xs3, h3, l3, g3⟩ := b9T (P := prog) (t := 30) (e := 52) (n := 5) (by kernel_rfl) (by kernel_rfl) (hf (30, 2, 1) (by decide))
 obtain ⟨ts, rfl, ht⟩ := b3U (f := fun t : Tb => [tbIV t]) (Q := fun t => t.length < 2 ^ 63) (xs := xs1) fun x hm => by
   obtain ⟨p, a1, a2⟩ := wf_tb (g1 x hm); exact ⟨p, a2, a1⟩
 obtain ⟨es, rfl, he⟩ := b3U (f := Ev.cells) (Q := fun e => e.Ok ∧ (-(2 ^ 63) ≤ e.txn ∧ e.txn < 2 ^ 63)) (xs := xs2) fun x hm => by
   obtain ⟨p, a1, a2⟩ := wf_ev (g2 x hm); exact ⟨p, a2, a1⟩
 obtain ⟨os, rfl, ho⟩ := b3U (f := Ins.cells) (Q := fun o => o.txns.length < 2 ^ 63 ∧ o.key.s.size < 2 ^ 63) (xs := xs3) fun x hm => by
   obtain ⟨p, a1, a2⟩ := b0V (g3 x hm); exact ⟨p, a2, a1⟩
 refine ⟨⟨ts, es, os⟩, ?_, ⟨by simpa using l1, by simpa using l2, by simpa using l3, fun e h => (he e h).1, fun o h => (ho o h).1, ht, fun o h => (ho o h).2⟩, fun e h => (he e h).2⟩
 have e := b1U cs 0 1 h1
 rw [b1U cs 1 1 h2, b1U cs 2 1 h3, b2U hl] at e
 exact e
theorem b1V {f : Nat} {cs : List IV} (h : WfT prog f 25 cs) : ∃ e : Eg, cs = e.cells ∧ e.key.s.size < 2 ^ 63 := by
 obtain ⟨f, rfl, hl, hf⟩ := b0U (P := prog) (t := 25) (n := 8) (l := [(3, 0, 1), (3, 1, 1), (3, 2, 1), (3, 3, 1), (23, 4, 3), (4, 7, 1)]) (by kernel_rfl) (by kernel_rfl) h
 obtain ⟨a1, h1, _⟩ := b6T u3 (hf (3, 0, 1) (by decide))
 obtain ⟨a2, h2, _⟩ := b6T u3 (hf (3, 1, 1) (by decide))
 obtain ⟨a3, h3, _⟩ := b6T u3 (hf (3, 2, 1) (by decide))
 obtain ⟨a4, h4, _⟩ := b6T u3 (hf (3, 3, 1) (by decide))
 obtain ⟨k, h5, hk⟩ := b4U (hf (23, 4, 3) (by decide))
 obtain ⟨b, h6⟩ := b7T u4 (hf (4, 7, 1) (by decide))
 refine ⟨⟨a1, a2, a3, a4, k, b⟩, ?_, hk⟩
 have e := b1U cs 0 1 h1
 rw [b1U cs 1 1 h2, b1U cs 2 1 h3, b1U cs 3 1 h4, b1U cs 4 3 h5, b1U cs 7 1 h6, b2U hl] at e
 exact e
end
end Go.Rt
end

section
namespace Go.Proofs.Ythkdpdpgmhmgoaa
open Go.ChangeShapes Go.WideShapes Go.ChangeAt Go.RowKit Go.Vm Go.Rt
open Go.Proofs (Try.prog)
theorem own : ownKnob Try.prog.godebug = none := by kernel_rfl
theorem b7n : laidOutB Try.prog = true := by kernel_rfl
def tset : List TypeId := [32, 28, 29, 30, 49, 47, 4, 46, 3, 23, 2, 9, 38, 40, 43, 41, 44, 98, 52, 50, 25]
theorem b8n : b3W Try.prog tset = true := by kernel_rfl
theorem b9n : ∀ t ∈ [32, 25, 4], Try.prog.readableRec t = true ∧ t < Try.prog.types.size := by
 intro t ht
 simp only [List.mem_cons, List.not_mem_nil, or_false] at ht
 rcases ht with rfl | rfl | rfl
 · exact ⟨by kernel_rfl, of_decide_eq_true (by kernel_rfl)⟩
 · exact ⟨by kernel_rfl, of_decide_eq_true (by kernel_rfl)⟩
 · exact ⟨by kernel_rfl, of_decide_eq_true (by kernel_rfl)⟩
theorem agg32 : b2O Try.prog 32 = true := by kernel_rfl
theorem agg25 : b2O Try.prog 25 = true := by kernel_rfl
theorem b0o {css : List (List IV)} (h : c3b Try.prog [32] css) : ∃ h : Hs, h.Ok ∧ h.Rg ∧ c2b Try.prog [32] css = [h.av] := by
 match css, h with
 | [cs], ⟨⟨f, h1⟩, _⟩ =>
   obtain ⟨h, rfl, hok, hrg⟩ := wf_hs h1
   exact ⟨h, hok, hrg, by simp only [c2b, agg32]; rfl⟩
theorem b1o {css : List (List IV)} (h : c3b Try.prog [25, 25] css) : ∃ a b : Eg, a.key.s.size < 2 ^ 63 ∧ b.key.s.size < 2 ^ 63 ∧ c2b Try.prog [25, 25] css = [a.av, b.av] := by
 match css, h with
 | [cs, ds], ⟨⟨f, h1⟩, ⟨i, h2⟩, _⟩ =>
   obtain ⟨a, rfl, ha⟩ := b1V h1
   obtain ⟨b, rfl, hb⟩ := b1V h2
   exact ⟨a, b, ha, hb, by simp only [c2b, agg25]; rfl⟩
end Go.Proofs.Ythkdpdpgmhmgoaa
end
