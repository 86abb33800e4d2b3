/- Contracts of functions of the program, and what they lean on. Conditions: those of each theorem. -/
import Derived.Test.YtiabgaimhgifeabPA
import Derived.Test.YtiabgaimhgifeabPB
import Derived.Test.YtiabgaimhgifeabPE
import Derived.Test.YtiabgaimhgifeabRows
import Derived.SizedLaws

set_option linter.unusedVariables false
set_option linter.unusedSimpArgs false

/- What comes in is a history. -/
section
namespace Go.Rt
open Go.Vm
theorem wf_int {P : Program} {f : Nat} {t : TypeId} {cs : List IV} {k : IntKind} (hu : P.underlying t = some (.int k)) (h : WfT P f t cs) : ∃ n, cs = [.v (.int k n)] ∧ (Lit.int k n).wf = true := by
  cases f with
  | zero => exact h.elim
  | succ f => simpa only [WfT, hu] using h
theorem wf_bool {P : Program} {f : Nat} {t : TypeId} {cs : List IV} (hu : P.underlying t = some .bool) (h : WfT P f t cs) : ∃ b, cs = [.v (.bool b)] := by
  cases f with
  | zero => exact h.elim
  | succ f => simpa only [WfT, hu] using h
theorem wf_str {P : Program} {f : Nat} {t : TypeId} {cs : List IV} (hu : P.underlying t = some .string) (h : WfT P f t cs) : ∃ s : ByteArray, cs = [.v (.string s)] ∧ s.size < 2 ^ 63 := by
  cases f with
  | zero => exact h.elim
  | succ f =>
    simp only [WfT, hu] at h
    obtain ⟨s, h1, h2⟩ := h
    refine ⟨s, h1, Nat.lt_of_le_of_lt h2 (by decide)⟩
theorem wf_slice {P : Program} {f : Nat} {t e n : Nat} {cs : List IV} (hu : P.underlying t = some (.slice e)) (hn : P.cellsOf e = n) (h : WfT P f t cs) : ∃ f', f = f' + 1 ∧ ∃ xs, cs = [.lst n xs] ∧ xs.length < 2 ^ 63 ∧ ∀ x ∈ xs, WfT P f' e x := by
  cases f with
  | zero => exact h.elim
  | succ f =>
    simp only [WfT, hu, hn] at h
    obtain ⟨xs, h1, h2, h3⟩ := h
    exact ⟨f, rfl, xs, h1, Nat.lt_of_le_of_lt h2 (by decide), h3⟩
/-- a struct's fields: type, place, size -/
def fieldsOf (P : Program) (t : TypeId) : Option (List (Nat × Nat × Nat)) := match P.underlying t with
  | some (.struct fs) => some (fs.toList.map fun f => (f.type, f.offset, P.cellsOf f.type))
  | _ => none
theorem wf_struct {P : Program} {f : Nat} {t n : Nat} {l : List (Nat × Nat × Nat)} {cs : List IV} (hu : fieldsOf P t = some l) (hn : P.cellsOf t = n) (h : WfT P f t cs) :
    ∃ f', f = f' + 1 ∧ cs.length = n ∧ ∀ p ∈ l, WfT P f' p.1 ((cs.drop p.2.1).take p.2.2) := by
  unfold fieldsOf at hu
  split at hu
  · rename_i fs hu'
    cases f with
    | zero => exact h.elim
    | succ f =>
      simp only [WfT, hu', hn] at h
      refine ⟨f, rfl, h.1, fun p hp => ?_⟩
      cases hu
      obtain ⟨fld, h1, rfl⟩ := List.mem_map.1 hp
      exact h.2 fld h1
  · cases hu
theorem cut_at {α : Type} (cs : List α) (o n : Nat) {x : List α} (h : (cs.drop o).take n = x) : cs.drop o = x ++ cs.drop (o + n) := by
  rw [← h, ← List.drop_drop, List.take_append_drop]
theorem cut_end {α : Type} {cs : List α} {o : Nat} (h : cs.length = o) : cs.drop o = [] := List.drop_eq_nil_of_le (by omega)
theorem list_choose {α β : Type} {f : α → β} {Q : α → Prop} : ∀ {xs : List β}, (∀ x, x ∈ xs → ∃ p, Q p ∧ x = f p) → ∃ ps : List α, xs = ps.map f ∧ ∀ p, p ∈ ps → Q p
  | [], _ => ⟨[], rfl, fun _ h => by cases h⟩
  | x :: r, h => by
    obtain ⟨p, h1, rfl⟩ := h x List.mem_cons_self
    obtain ⟨ps, rfl, h3⟩ := list_choose (xs := r) fun y hy => h y (List.mem_cons_of_mem _ hy)
    exact ⟨p :: ps, rfl, fun q hq => by
      rcases List.mem_cons.1 hq with rfl | hq
      · exact h1
      · exact h3 q hq⟩
section
theorem u4 : prog.underlying 4 = some .bool := by kernel_rfl
theorem u2 : prog.underlying 2 = some (.int .i64) := by kernel_rfl
theorem u3 : prog.underlying 3 = some (.int .i64) := by kernel_rfl
theorem u9 : prog.underlying 9 = some .string := by kernel_rfl
theorem wf_vl {f : Nat} {cs : List IV} (h : WfT prog f 35 cs) : ∃ v : Vl, cs = v.cells ∧ v.s.size < 2 ^ 63 := by
  obtain ⟨f, rfl, hl, hf⟩ := wf_struct (P := prog) (t := 35) (n := 3) (l := [(4, 0, 1), (2, 1, 1), (9, 2, 1)]) (by kernel_rfl) (by kernel_rfl) h
  obtain ⟨b, h1⟩ := wf_bool u4 (hf (4, 0, 1) (by decide))
  obtain ⟨n, h2, _⟩ := wf_int u2 (hf (2, 1, 1) (by decide))
  obtain ⟨s, h3, h4⟩ := wf_str u9 (hf (9, 2, 1) (by decide))
  refine ⟨⟨b, n, s⟩, ?_, h4⟩
  have e := cut_at cs 0 1 h1
  rw [cut_at cs 1 1 h2, cut_at cs 2 1 h3, cut_end hl] at e
  exact e
theorem wf_vs {f : Nat} {cs : List IV} (h : WfT prog f 37 cs) : ∃ v : Vs, cs = v.cells := by
  obtain ⟨f, rfl, hl, hf⟩ := wf_struct (P := prog) (t := 37) (n := 2) (l := [(3, 0, 1), (3, 1, 1)]) (by kernel_rfl) (by kernel_rfl) h
  obtain ⟨b, h1, _⟩ := wf_int u3 (hf (3, 0, 1) (by decide))
  obtain ⟨n, h2, _⟩ := wf_int u3 (hf (3, 1, 1) (by decide))
  refine ⟨⟨b, n⟩, ?_⟩
  have e := cut_at cs 0 1 h1
  rw [cut_at cs 1 1 h2, cut_end hl] at e
  exact e
theorem wf_row {f : Nat} {cs : List IV} (h : WfT prog f 39 cs) : ∃ r : List Vl, cs = [.lst 3 (rowC r)] ∧ r.length < 2 ^ 63 := by
  obtain ⟨f, rfl, xs, rfl, hl, hx⟩ := wf_slice (P := prog) (t := 39) (e := 35) (n := 3) (by kernel_rfl) (by kernel_rfl) h
  obtain ⟨r, rfl, _⟩ := list_choose (f := Vl.cells) (Q := fun _ => True) (xs := xs) fun x hm => by
    obtain ⟨v, h1, _⟩ := wf_vl (hx x hm); exact ⟨v, trivial, h1⟩
  exact ⟨r, rfl, by simpa using hl⟩
theorem wf_pd : ∀ {f : Nat} {cs : List IV}, WfT prog f 42 cs → ∃ p : Pd, cs = p.cells ∧ p.Ok := by
  intro f
  induction f using Nat.strongRecOn with
  | ind f ih =>
    intro cs h
    obtain ⟨f1, rfl, hl, hf⟩ := wf_struct (P := prog) (t := 42) (n := 9) (l := [(3, 0, 1), (3, 1, 1), (35, 2, 3), (35, 5, 3), (40, 8, 1)]) (by kernel_rfl) (by kernel_rfl) h
    obtain ⟨o, h1, _⟩ := wf_int u3 (hf (3, 0, 1) (by decide))
    obtain ⟨c, h2, _⟩ := wf_int u3 (hf (3, 1, 1) (by decide))
    obtain ⟨v, h3, hv⟩ := wf_vl (hf (35, 2, 3) (by decide))
    obtain ⟨w, h4, hw⟩ := wf_vl (hf (35, 5, 3) (by decide))
    obtain ⟨f2, rfl, xs, h5, hxl, hx⟩ := wf_slice (P := prog) (t := 40) (e := 42) (n := 9) (by kernel_rfl) (by kernel_rfl) (hf (40, 8, 1) (by decide))
    obtain ⟨ps, rfl, hps⟩ := list_choose (f := Pd.cells) (Q := Pd.Ok) (xs := xs) fun x hm => by
      obtain ⟨p, g1, g2⟩ := ih f2 (by omega) (hx x hm); exact ⟨p, g2, g1⟩
    refine ⟨.mk o c v w ps, ?_, .mk _ (by rw [List.length_map] at hxl; exact hxl) hv hw hps⟩
    have e := cut_at cs 0 1 h1
    rw [cut_at cs 1 1 h2, cut_at cs 2 3 h3, cut_at cs 5 3 h4, cut_at cs 8 1 h5, cut_end hl] at e
    rw [Pd.cells_eq]
    exact e
theorem wf_rf {f : Nat} {cs : List IV} (h : WfT prog f 67 cs) : ∃ r : Rf, cs = r.cells ∧ r.key.s.size < 2 ^ 63 := by
  obtain ⟨f, rfl, hl, hf⟩ := wf_struct (P := prog) (t := 67) (n := 5) (l := [(35, 0, 3), (37, 3, 2)]) (by kernel_rfl) (by kernel_rfl) h
  obtain ⟨v, h1, hv⟩ := wf_vl (hf (35, 0, 3) (by decide))
  obtain ⟨n, h2⟩ := wf_vs (hf (37, 3, 2) (by decide))
  refine ⟨⟨v, n⟩, ?_, hv⟩
  have e := cut_at cs 0 3 h1
  rw [cut_at cs 3 2 h2, cut_end hl] at e
  exact e
set_option maxRecDepth 10000 in
theorem wf_ev {f : Nat} {cs : List IV} (h : WfT prog f 45 cs) : ∃ e : Ev, cs = e.cells ∧ e.Ok := by
  obtain ⟨f, rfl, hl, hf⟩ := wf_struct (P := prog) (t := 45) (n := 22) (l := [(3, 0, 1), (3, 1, 1), (3, 2, 1), (3, 3, 1), (35, 4, 3), (37, 7, 2), (3, 9, 1), (39, 10, 1), (42, 11, 9), (43, 20, 1), (4, 21, 1)]) (by kernel_rfl) (by kernel_rfl) h
  obtain ⟨a1, h1, _⟩ := wf_int u3 (hf (3, 0, 1) (by decide))
  obtain ⟨a2, h2, _⟩ := wf_int u3 (hf (3, 1, 1) (by decide))
  obtain ⟨a3, h3, _⟩ := wf_int u3 (hf (3, 2, 1) (by decide))
  obtain ⟨a4, h4, _⟩ := wf_int u3 (hf (3, 3, 1) (by decide))
  obtain ⟨k, h5, hk⟩ := wf_vl (hf (35, 4, 3) (by decide))
  obtain ⟨v, h6⟩ := wf_vs (hf (37, 7, 2) (by decide))
  obtain ⟨n, h7, _⟩ := wf_int u3 (hf (3, 9, 1) (by decide))
  obtain ⟨r, h8, hr⟩ := wf_row (hf (39, 10, 1) (by decide))
  obtain ⟨p, h9, hp⟩ := wf_pd (hf (42, 11, 9) (by decide))
  obtain ⟨f2, rfl, xs, h10, hxl, hx⟩ := wf_slice (P := prog) (t := 43) (e := 67) (n := 5) (by kernel_rfl) (by kernel_rfl) (hf (43, 20, 1) (by decide))
  obtain ⟨b, h11⟩ := wf_bool u4 (hf (4, 21, 1) (by decide))
  obtain ⟨rs, rfl, hrs⟩ := list_choose (f := Rf.cells) (Q := fun r => r.key.s.size < 2 ^ 63) (xs := xs) fun x hm => by
    obtain ⟨p, g1, g2⟩ := wf_rf (hx x hm); exact ⟨p, g2, g1⟩
  refine ⟨⟨a1, a2, a3, a4, k, v, n, r, p, rs, b⟩, ?_, ⟨hr, by simpa using hxl, hp, hk, hrs⟩⟩
  have e := cut_at cs 0 1 h1
  rw [cut_at cs 1 1 h2, cut_at cs 2 1 h3, cut_at cs 3 1 h4, cut_at cs 4 3 h5, cut_at cs 7 2 h6, cut_at cs 9 1 h7, cut_at cs 10 1 h8, cut_at cs 11 9 h9, cut_at cs 20 1 h10, cut_at cs 21 1 h11, cut_end hl] at e
  rw [Ev.cells_eq]
  rw [Pd.cells_eq] at e
  exact e
theorem wf_ints {f : Nat} {cs : List IV} (h : WfT prog f 50 cs) : ∃ r : List Int, cs = [.lst 1 (intsC r)] ∧ r.length < 2 ^ 63 := by
  obtain ⟨f, rfl, xs, rfl, hl, hx⟩ := wf_slice (P := prog) (t := 50) (e := 3) (n := 1) (by kernel_rfl) (by kernel_rfl) h
  obtain ⟨r, rfl, _⟩ := list_choose (f := fun i => [ci i]) (Q := fun _ => True) (xs := xs) fun x hm => by
    obtain ⟨v, h1, _⟩ := wf_int u3 (hx x hm); exact ⟨v, trivial, h1⟩
  exact ⟨r, rfl, by simpa using hl⟩
theorem wf_bools {f : Nat} {cs : List IV} (h : WfT prog f 47 cs) : ∃ r : List Bool, cs = [.lst 1 (boolsC r)] ∧ r.length < 2 ^ 63 := by
  obtain ⟨f, rfl, xs, rfl, hl, hx⟩ := wf_slice (P := prog) (t := 47) (e := 4) (n := 1) (by kernel_rfl) (by kernel_rfl) h
  obtain ⟨r, rfl, _⟩ := list_choose (f := fun b => [cb b]) (Q := fun _ => True) (xs := xs) fun x hm => by
    obtain ⟨v, h1⟩ := wf_bool u4 (hx x hm); exact ⟨v, trivial, h1⟩
  exact ⟨r, rfl, by simpa using hl⟩
theorem wf_ins {f : Nat} {cs : List IV} (h : WfT prog f 52 cs) : ∃ o : Ins, cs = o.cells ∧ (o.txns.length < 2 ^ 63 ∧ o.key.s.size < 2 ^ 63) := by
  obtain ⟨f, rfl, hl, hf⟩ := wf_struct (P := prog) (t := 52) (n := 5) (l := [(3, 0, 1), (35, 1, 3), (50, 4, 1)]) (by kernel_rfl) (by kernel_rfl) h
  obtain ⟨a, h1, _⟩ := wf_int u3 (hf (3, 0, 1) (by decide))
  obtain ⟨k, h2, hk⟩ := wf_vl (hf (35, 1, 3) (by decide))
  obtain ⟨r, h3, hr⟩ := wf_ints (hf (50, 4, 1) (by decide))
  refine ⟨⟨a, k, r⟩, ?_, hr, hk⟩
  have e := cut_at cs 0 1 h1
  rw [cut_at cs 1 3 h2, cut_at cs 4 1 h3, cut_end hl] at e
  exact e
theorem wf_tb {f : Nat} {cs : List IV} (h : WfT prog f 49 cs) : ∃ t : Tb, cs = [tbIV t] ∧ t.length < 2 ^ 63 := by
  obtain ⟨f, rfl, hl, hf⟩ := wf_struct (P := prog) (t := 49) (n := 1) (l := [(47, 0, 1)]) (by kernel_rfl) (by kernel_rfl) h
  obtain ⟨r, h1, hr⟩ := wf_bools (hf (47, 0, 1) (by decide))
  refine ⟨r, ?_, hr⟩
  have e := cut_at cs 0 1 h1
  rw [cut_end hl] at e
  exact e
theorem wf_hs {f : Nat} {cs : List IV} (h : WfT prog f 26 cs) : ∃ h : Hs, cs = h.cells ∧ h.Ok := by
  obtain ⟨f, rfl, hl, hf⟩ := wf_struct (P := prog) (t := 26) (n := 3) (l := [(22, 0, 1), (23, 1, 1), (24, 2, 1)]) (by kernel_rfl) (by kernel_rfl) h
  obtain ⟨f1, e1, xs1, h1, l1, g1⟩ := wf_slice (P := prog) (t := 22) (e := 49) (n := 1) (by kernel_rfl) (by kernel_rfl) (hf (22, 0, 1) (by decide))
  obtain ⟨f2, e2, xs2, h2, l2, g2⟩ := wf_slice (P := prog) (t := 23) (e := 45) (n := 22) (by kernel_rfl) (by kernel_rfl) (hf (23, 1, 1) (by decide))
  obtain ⟨f3, e3, xs3, h3, l3, g3⟩ := wf_slice (P := prog) (t := 24) (e := 52) (n := 5) (by kernel_rfl) (by kernel_rfl) (hf (24, 2, 1) (by decide))
  obtain ⟨ts, rfl, ht⟩ := list_choose (f := fun t : Tb => [tbIV t]) (Q := fun t => t.length < 2 ^ 63) (xs := xs1) fun x hm => by
    obtain ⟨p, a1, a2⟩ := wf_tb (g1 x hm); exact ⟨p, a2, a1⟩
  obtain ⟨es, rfl, he⟩ := list_choose (f := Ev.cells) (Q := Ev.Ok) (xs := xs2) fun x hm => by
    obtain ⟨p, a1, a2⟩ := wf_ev (g2 x hm); exact ⟨p, a2, a1⟩
  obtain ⟨os, rfl, ho⟩ := list_choose (f := Ins.cells) (Q := fun o => o.txns.length < 2 ^ 63 ∧ o.key.s.size < 2 ^ 63) (xs := xs3) fun x hm => by
    obtain ⟨p, a1, a2⟩ := wf_ins (g3 x hm); exact ⟨p, a2, a1⟩
  refine ⟨⟨ts, es, os⟩, ?_, ⟨by simpa using l1, by simpa using l2, by simpa using l3, he, fun o h => (ho o h).1, ht, fun o h => (ho o h).2⟩⟩
  have e := cut_at cs 0 1 h1
  rw [cut_at cs 1 1 h2, cut_at cs 2 1 h3, cut_end hl] at e
  exact e
end
end Go.Rt
end

/- What comes in is of the form's own reach: the columns of a table. -/
section
namespace Go.Rt
open Go.Vm
theorem sz_slice {P : Program} {f : Nat} {t e n : Nat} {xs : List (List IV)} (hu : P.underlying t = some (.slice e)) (hn : P.cellsOf e = n) (h : SzT P f t [.lst n xs]) : ∃ f', f = f' + 1 ∧ xs.length * P.bytesOf e ≤ reachBytes ∧ ∀ x ∈ xs, SzT P f' e x := by
  cases f with
  | zero => exact h.elim
  | succ f =>
    simp only [SzT, hu, hn] at h
    obtain ⟨ys, h1, h2, h3⟩ := h
    simp only [List.cons.injEq, IV.lst.injEq, true_and, and_true] at h1
    subst h1
    exact ⟨f, rfl, h2, h3⟩
theorem sz_struct {P : Program} {f : Nat} {t : Nat} {l : List (Nat × Nat × Nat)} {cs : List IV} (hu : fieldsOf P t = some l) (h : SzT P f t cs) :
    ∃ f', f = f' + 1 ∧ ∀ p ∈ l, SzT P f' p.1 ((cs.drop p.2.1).take p.2.2) := by
  unfold fieldsOf at hu
  split at hu
  · rename_i fs hu'
    cases f with
    | zero => exact h.elim
    | succ f =>
      simp only [SzT, hu'] at h
      refine ⟨f, rfl, fun p hp => ?_⟩
      cases hu
      obtain ⟨fld, h1, rfl⟩ := List.mem_map.1 hp
      exact h fld h1
  · cases hu
theorem sz_cols {h : Hs} {f : Nat} (hs : SzT prog f 26 h.cells) : ColsOk h := by
  obtain ⟨f, rfl, h1⟩ := sz_struct (P := prog) (t := 26) (l := [(22, 0, 1), (23, 1, 1), (24, 2, 1)]) (by kernel_rfl) hs
  obtain ⟨f1, _, _, h2⟩ := sz_slice (P := prog) (t := 22) (e := 49) (n := 1) (xs := tbsC h.tables) (by kernel_rfl) (by kernel_rfl) (h1 (22, 0, 1) (by decide))
  intro t ht
  obtain ⟨f2, _, h3⟩ := sz_struct (P := prog) (t := 49) (l := [(47, 0, 1)]) (by kernel_rfl) (h2 [tbIV t] (List.mem_map.2 ⟨t, ht, rfl⟩))
  obtain ⟨f3, _, h4, _⟩ := sz_slice (P := prog) (t := 47) (e := 4) (n := 1) (xs := boolsC t) (by kernel_rfl) (by kernel_rfl) (h3 (47, 0, 1) (by decide))
  have hb : prog.bytesOf 4 = 1 := by kernel_rfl
  rw [hb] at h4
  simp only [boolsC_len, Nat.mul_one] at h4
  exact Nat.le_trans h4 (by decide)
end Go.Rt
end

/- What the rows of this chapter share. -/
section
namespace Go.Proofs.Ytiabgaimhgifeab
open Go.ChangeShapes Go.WideShapes Go.ChangeAt Go.RowKit Go.Vm Go.Rt
open Go.Proofs (Try.prog)
theorem own : ownKnob Try.prog.godebug = none := by kernel_rfl
theorem laidOut : laidOutB Try.prog = true := by kernel_rfl
def tset : List TypeId := [26, 22, 23, 24, 49, 47, 4, 45, 3, 35, 2, 9, 37, 39, 42, 40, 43, 67, 52, 50]
theorem tset_ok : plainSet Try.prog tset = true := by kernel_rfl
theorem readable : ∀ t ∈ [26, 45, 3], Try.prog.readableRec t = true ∧ t < Try.prog.types.size := by
  intro t ht
  simp only [List.mem_cons, List.not_mem_nil, or_false] at ht
  rcases ht with rfl | rfl | rfl
  · exact ⟨by kernel_rfl, of_decide_eq_true (by kernel_rfl)⟩
  · exact ⟨by kernel_rfl, of_decide_eq_true (by kernel_rfl)⟩
  · exact ⟨by kernel_rfl, of_decide_eq_true (by kernel_rfl)⟩
theorem agg26 : isAggT Try.prog 26 = true := by kernel_rfl
end Go.Proofs.Ytiabgaimhgifeab
end

/- What the rows share where sizes are asked. -/
section
namespace Go.Proofs.Ytiabgaimhgifeab
open Go.ChangeShapes Go.WideShapes Go.ChangeAt Go.RowKit Go.Vm Go.Rt
open Go.Proofs (Try.prog)
theorem args_hs_sz {css : List (List IV)} (h : WfArgs Try.prog [26] css) (hs : SzArgs Try.prog [26] css) : ∃ h : Hs, h.Ok ∧ ColsOk h ∧ argsT Try.prog [26] css = [h.av] := by
  match css, h, hs with
  | [cs], _, ⟨⟨f, h1, h3⟩, _⟩ =>
    obtain ⟨h, rfl, hok⟩ := wf_hs h1
    exact ⟨h, hok, sz_cols h3, by simp only [argsT, agg26]; rfl⟩
theorem weightsEach_app {H : Type} {P : Program} : ∀ {ts vs : List TypeId} {ds gs : List (DataW H)} {n : Nat}, n ∈ DataW.weightsEach P ts ds → n ∈ DataW.weightsEach P (ts ++ vs) (ds ++ gs)
  | [], _, _, _, _, h => by simp [DataW.weightsEach] at h
  | _ :: _, _, [], _, _, h => by simp [DataW.weightsEach] at h
  | t :: ts, vs, d :: ds, gs, n, h => by
    simp only [List.cons_append, DataW.weightsEach, List.mem_append] at h ⊢
    exact h.imp id fun h => weightsEach_app (ts := ts) h
theorem sz_all {H : Type} {P : Program} {ts ts' vs : List TypeId} {ds gs : List (DataW H)} (e : ts' = ts) (h : (DataW.weightsEach P (ts' ++ vs) (ds ++ gs)).all (· ≤ reachBytes) = true) : ∀ n ∈ DataW.weightsEach P ts ds, n ≤ reachBytes := by
  subst e
  exact fun n hn => by simpa using List.all_eq_true.1 h n (weightsEach_app hn)
end Go.Proofs.Ytiabgaimhgifeab
end
