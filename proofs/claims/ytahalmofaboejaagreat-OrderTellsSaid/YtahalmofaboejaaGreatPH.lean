/- Contracts of functions of the program, and what they lean on. Conditions: those of each theorem. -/
import Derived.Test.YtahalmofaboejaaGreatPG
import Derived.Test.YtahalmofaboejaaGreatPI
import Derived.Test.YtahalmofaboejaaGreatPF
import Derived.Test.YtahalmofaboejaaGreatMD
import Derived.Test.YtahalmofaboejaaGreatRows

set_option linter.unusedVariables false
set_option linter.unusedSimpArgs false

/- Contracts: what is asked of a book, with an order of evaluation that Go leaves open. -/
section
namespace Go.Rt
open Go.Vm
structure Ask where
  txn : Int
  table : Int
  key : Vl
  v : Vs
  place : Int
  p : Pd
def Ask.cells (a : Ask) : List IV := [ci a.txn, ci a.table, cb a.key.text, ci a.key.n, .v (.string a.key.s), ci a.v.txn, ci a.v.n, ci a.place, ci a.p.op, ci a.p.col, cb a.p.v.text, ci a.p.v.n, .v (.string a.p.v.s), cb a.p.w.text, ci a.p.w.n, .v (.string a.p.w.s), .lst 9 (a.p.l.map Pd.cells)]
theorem Ask.cells_eq (a : Ask) : a.cells = [ci a.txn, ci a.table, cb a.key.text, ci a.key.n, .v (.string a.key.s), ci a.v.txn, ci a.v.n, ci a.place, ci a.p.op, ci a.p.col, cb a.p.v.text, ci a.p.v.n, .v (.string a.p.v.s), cb a.p.w.text, ci a.p.w.n, .v (.string a.p.w.s), .lst 9 (a.p.l.map Pd.cells)] := rfl
def Ask.av (a : Ask) : AV := .agg (a.cells.map .iv)
def asksC (l : List Ask) : List (List IV) := l.map Ask.cells
def tail129 : VT :=
  .op (oo 130 (.bin .neq (.tmp 121) (.tmp 129))) <|
  .op (oo 131 (.mov (.tmp 130))) <|
  .op (og 132 131 false (.mov (.tmp 7))) <|
  .op (og 133 131 false (.fa 1 (.tmp 10))) <|
  .op (og 134 131 false (.ld (.tmp 133) none)) <|
  .op (og 135 131 false (.fa 2 (.tmp 10))) <|
  .op (og 136 131 false (.ld (.tmp 135) (some 3))) <|
  .op (og 137 131 false (.fa 7 (.tmp 10))) <|
  .op (og 138 131 false (.ld (.tmp 137) none)) <|
  .op (og 139 131 false (.fa 8 (.tmp 10))) <|
  .op (og 140 131 false (.ld (.tmp 139) (some 9))) <|
  .op (og 143 131 false (.fa 1 (.tmp 10))) <|
  .op (og 145 131 false (.fa 2 (.tmp 10))) <|
  .op (og 147 131 false (.fa 7 (.tmp 10))) <|
  .op (og 149 131 false (.fa 8 (.tmp 10))) <|
  .alt (rl19_OrderTells_s34) (rl19_OrderTells_s193)
section
variable {h : Hs} {a : Ask} {K : St → Prop} {i : Int} {AS : IV}
abbrev fr0 (h : Hs) (i : Int) (AS : IV) : List (Nat × AV) := [(10, .ptr 10 0), (9, vi i), (7, .iv (bkIV h.events h.order)), (2, .ptr 2 0), (1, .iv AS)]
abbrev hp0 (h : Hs) (a : Ask) : Hp := [(10, .box (a.cells.map .iv)), (2, .box (h.cells.map .iv))]
set_option maxRecDepth 16000 in
set_option maxHeartbeats 64000000 in
theorem tells_two (hok : h.Ok) (hw : WellP h) (hev : h.events.length < 2 ^ 40) (hp : a.p.Ok) (hK : ∀ c, K ⟨(153, vb false) :: (152, vb false) :: (131, vb false) :: (151, vb c) :: (150, a.p.av) :: (148, vi a.place) :: (146, a.key.av) :: (144, vi a.table) :: (142, h.av) :: (141, vb c) :: (131, vb false) :: fr0 h i AS, hp0 h a⟩) :
    callW prog 129 n_rr19_Place [] [(.tmp 122), (.tmp 124), (.tmp 126), (.tmp 128)] [] none
      ⟨(128, a.v.av) :: (126, a.key.av) :: (124, vi a.table) :: (122, h.av) :: (121, vi (plaB h.events h.order a.table a.key a.v)) :: fr0 h i AS, hp0 h a⟩
      (fun s' x => vtree prog tail129 (s'.put (some 129) x) K) := by
  have hrows := rows_ok hw
  have hcl := chaB_le hw a.table a.key
  have hP := ref19_Place_spec hok hw hev a.table a.key a.v
  have hC := Changes_spec h.events h.order a.table a.key a.place hp hrows (by omega)
  have hC2 := ref19_Changes_spec hok hw hev a.table a.key a.place hp
  refine call_pure hP (by simp [Hs.av]) (by simp [Hs.av]) ?_
  generalize plaB h.events h.order a.table a.key a.v = pl at *
  generalize chgB h.events h.order a.table a.key a.place a.p = c at *
  simp -dsimp [tail129, Ask.cells_eq a, Hs.cells, setRange]
  repeat' refine And.intro ?_ ?_
  all_goals refine call_pure hC (by simp [Hs.av, Pd.av_eq]) (by simp [Hs.av, Pd.av_eq]) ?_
  all_goals simp -dsimp [Ask.cells_eq a, Hs.cells]
  all_goals refine call_le (s' := ⟨(150, a.p.av) :: (148, vi a.place) :: (146, a.key.av) :: (144, vi a.table) :: (142, h.av) :: (141, vb c) :: (131, vb false) :: fr0 h i AS, hp0 h a⟩) (LeTo.le (D := []) (by simp [Hs.av, Hs.cells, Pd.av_eq, Ask.cells_eq a])) ?_
  all_goals refine call_pure hC2 (by simp [Hs.av, Pd.av_eq]) (by simp [Hs.av, Pd.av_eq]) ?_
  all_goals simp -dsimp [Ask.cells_eq a, Hs.cells]
  all_goals exact hK c
end
end Go.Rt
end

/- Contracts: what is asked of a book, the first half. -/
section
namespace Go.Rt
open Go.Vm
def tail95 : VT :=
  .op (og 96 87 false (.bin .neq (.tmp 91) (.tmp 95))) <|
  .op (oo 97 (.pick (.tmp 87) (.const (kb true)) (.tmp 96))) <|
  .op (oo 98 (.mov (.tmp 97))) <|
  .op (og 99 98 false (.mov (.tmp 7))) <|
  .op (og 100 98 false (.fa 1 (.tmp 10))) <|
  .op (og 101 98 false (.ld (.tmp 100) none)) <|
  .op (og 102 98 false (.fa 2 (.tmp 10))) <|
  .op (og 103 98 false (.ld (.tmp 102) (some 3))) <|
  .op (og 106 98 false (.fa 1 (.tmp 10))) <|
  .op (og 108 98 false (.fa 2 (.tmp 10))) <|
  .alt (rl19_OrderTells_s2) (rl19_OrderTells_s25)
section
variable {h : Hs} {a : Ask} {K : St → Prop} {i : Int} {AS : IV}
set_option maxRecDepth 16000 in
set_option maxHeartbeats 64000000 in
theorem tells_lev (hok : h.Ok) (hw : WellP h) (hev : h.events.length < 2 ^ 40) (hK : ∀ l : List Vs, K ⟨(113, vb false) :: (112, vb false) :: (98, vb false) :: (111, vb true) :: (98, vb false) :: (110, .iv (.lst 2 (vsC l))) :: (109, a.key.av) :: (107, vi a.table) :: (105, h.av) :: (104, .iv (.lst 2 (vsC l))) :: (98, vb false) :: fr0 h i AS, hp0 h a⟩) :
    callW prog 95 n_rr19_Level [] [(.tmp 92), (.tmp 94)] [] none
      ⟨(94, vi a.txn) :: (92, h.av) :: (91, vi (levB h.events a.txn)) :: (87, vb false) :: fr0 h i AS, hp0 h a⟩
      (fun s' x => vtree prog tail95 (s'.put (some 95) x) K) := by
  have hcl := chaB_le hw a.table a.key
  have hL2 := ref19_Level_spec hok a.txn
  have hlev : levB h.events a.txn = ((h.events.find? (Ev.isB a.txn)).map Ev.level).getD 0 := by
    unfold levB; rw [lastB_uniq (isB_uniq hw)]
  rw [← hlev] at hL2
  have hC := Chain_spec h.events h.order a.table a.key (by omega)
  have hC2 := ref19_Chain_spec hok hw hev a.table a.key
  generalize levB h.events a.txn = lv at *
  generalize chaB h.events h.order a.table a.key = l at *
  refine call_pure hL2 (by simp [Hs.av]) (by simp [Hs.av]) ?_
  simp -dsimp [tail95, Ask.cells_eq a, Hs.cells]
  repeat' refine And.intro ?_ ?_
  all_goals refine call_newH hC rfl (by simp) (by simp) (by simp) (by simp) ?_
  all_goals simp -dsimp [Ask.cells_eq a, Hs.cells]
  all_goals refine call_le (s' := ⟨(109, a.key.av) :: (107, vi a.table) :: (105, h.av) :: (104, .iv (.lst 2 (vsC l))) :: (98, vb false) :: fr0 h i AS, hp0 h a⟩) (LeTo.le (D := []) (by simp [Hs.av, Hs.cells, Ask.cells_eq a])) ?_
  all_goals refine call_newH hC2 rfl (by simp [Hs.av]) (by simp [Hs.av]) (by simp) (by simp) ?_
  all_goals simp -dsimp [Ask.cells_eq a, Hs.cells, Hs.av]
  all_goals refine call_pure (Versions_spec l l (by omega)) (by simp) (by simp) ?_
  all_goals simp -dsimp [Ask.cells_eq a, Hs.cells]
  all_goals exact hK l
set_option maxRecDepth 16000 in
set_option maxHeartbeats 64000000 in
theorem tells_t22 (hok : h.Ok) (hw : WellP h) (hev : h.events.length < 2 ^ 40) {b : Bool} {r : List Vl} (hr : r.length < 2 ^ 63)
    (hK : ∀ l : List Vs, K ⟨(113, vb false) :: (112, vb false) :: (98, vb false) :: (111, vb true) :: (98, vb false) :: (110, .iv (.lst 2 (vsC l))) :: (109, a.key.av) :: (107, vi a.table) :: (105, h.av) :: (104, .iv (.lst 2 (vsC l))) :: (98, vb false) :: fr0 h i AS, hp0 h a⟩) :
    vtree prog rl19_OrderTells_t22 ⟨(14, vb b) :: (13, .iv (.lst 3 (rowC r))) :: (77, vb b) :: (76, .iv (.lst 3 (rowC r))) :: (67, .tup [.iv (.lst 3 (rowC r)), vb b]) :: (75, .tup [.iv (.lst 3 (rowC r)), vb b]) :: (74, a.v.av) :: (72, a.key.av) :: (70, vi a.table) :: (68, h.av) :: (12, vb b) :: (11, .iv (.lst 3 (rowC r))) :: fr0 h i AS, hp0 h a⟩ K := by
  have hL := Level_spec h.events h.order a.txn
  simp -dsimp [-rl19_OrderTells_s26, -rl19_OrderTells_s33]
  refine call_pure (ref02_Same_spec r r hr) (by simp) (by simp) ?_
  simp -dsimp [-rl19_OrderTells_s2, -rl19_OrderTells_s25, Ask.cells_eq a, Hs.cells]
  repeat' refine And.intro ?_ ?_
  all_goals refine call_pure hL (by simp) (by simp) ?_
  all_goals simp -dsimp [-rl19_OrderTells_s2, -rl19_OrderTells_s25, Ask.cells_eq a, Hs.cells]
  all_goals refine call_le (s' := ⟨(94, vi a.txn) :: (92, h.av) :: (91, vi (levB h.events a.txn)) :: (87, vb false) :: fr0 h i AS, hp0 h a⟩) (LeTo.le (D := []) (by simp [Hs.av, Hs.cells, Ask.cells_eq a])) ?_
  all_goals exact tells_lev hok hw hev hK
set_option maxRecDepth 16000 in
set_option maxHeartbeats 64000000 in
theorem tells_t24 (hok : h.Ok) (hw : WellP h) (hev : h.events.length < 2 ^ 40) (hp : a.p.Ok)
    (hK : ∀ c : Bool, K ⟨(153, vb false) :: (152, vb false) :: (131, vb false) :: (151, vb c) :: (150, a.p.av) :: (148, vi a.place) :: (146, a.key.av) :: (144, vi a.table) :: (142, h.av) :: (141, vb c) :: (131, vb false) :: fr0 h i AS, hp0 h a⟩) (l : List Vs) :
    vtree prog rl19_OrderTells_t24 ⟨(113, vb false) :: (112, vb false) :: (98, vb false) :: (111, vb true) :: (98, vb false) :: (110, .iv (.lst 2 (vsC l))) :: (109, a.key.av) :: (107, vi a.table) :: (105, h.av) :: (104, .iv (.lst 2 (vsC l))) :: (98, vb false) :: fr0 h i AS, hp0 h a⟩ K := by
  have hrows := rows_ok hw
  have hcl := chaB_le hw a.table a.key
  have hP := Place_spec h.events h.order a.table a.key a.v hrows (by omega)
  simp -dsimp [-rl19_OrderTells_s34, -rl19_OrderTells_s193, Ask.cells_eq a, Hs.cells]
  repeat' refine And.intro ?_ ?_
  all_goals refine call_pure hP (by simp) (by simp) ?_
  all_goals simp -dsimp [-rl19_OrderTells_s34, -rl19_OrderTells_s193, Ask.cells_eq a, Hs.cells]
  all_goals refine call_le (s' := ⟨(128, a.v.av) :: (126, a.key.av) :: (124, vi a.table) :: (122, h.av) :: (121, vi (plaB h.events h.order a.table a.key a.v)) :: fr0 h i AS, hp0 h a⟩) (LeTo.le (D := []) (by simp [Hs.av, Hs.cells, Ask.cells_eq a])) ?_
  all_goals exact tells_two hok hw hev hp hK
end
end Go.Rt
end

/- OrderTells as a contract. -/
section
namespace Go.Rt
open Go.Vm
set_option maxRecDepth 16000 in
set_option maxHeartbeats 64000000 in
theorem OrderTells_spec {h : Hs} (hok : h.Ok) (l : List Ask) (hl : l.length < 2 ^ 63) (hp : ∀ a, a ∈ l → a.p.Ok) : GSpec prog true n_rl19_OrderTells [h.av, .iv (.lst 17 (asksC l))] [] (vb true) [] := by
  refine gspec1 rl19_OrderTells_is (by simp) (by decide) rfl ?_
  simp -dsimp [rl19_OrderTells, Hs.av]
  refine call_pure awake_spec (by simp) (by simp) ?_
  simp -dsimp
  refine call_pure (ref18_Small_spec hok) (by simp [Hs.av]) (by simp [Hs.av]) ?_
  by_cases hs : SmallP h
  · have hs1 : ofP (SmallP h) = true := ofP_true.2 hs
    have hev : h.events.length ≤ 60 := hs.events
    simp -dsimp [hs1]
    rcases read_spec hok (by omega) with ⟨hw, hr⟩ | ⟨hw, hr⟩
    · refine call_newH hr rfl (by simp [Hs.av]) (by simp [Hs.av]) (by simp) (by simp) ?_
      simp -dsimp
      refine call_pure (ref18_Well_spec hok) (by simp [Hs.av]) (by simp [Hs.av]) ?_
      have hw1 : ofP (WellP h) = true := ofP_true.2 hw
      simp -dsimp [hw1, bk_ne]
      have hcm := commits_le h.events
      have hsl : (sortI (commits h.events)).length = (commits h.events).length := List.length_mergeSort _
      have hCm := Committed_spec (es := h.events) (os := h.order) (by omega)
      have hCm2 := ref19_Committed_spec hok hw (by omega)
      have hI := ref10_Ints_spec (sortI (commits h.events)) (sortI (commits h.events)) (by omega)
      have hrows := rows_ok hw
      generalize sortI (commits h.events) = cs at *
      refine And.intro ?_ ?_
      all_goals refine call_newH hCm rfl (by simp) (by simp) (by simp) (by simp) ?_
      all_goals simp -dsimp [intsIV]
      all_goals refine call_newH hCm2 rfl (by simp [Hs.av]) (by simp [Hs.av]) (by simp) (by simp) ?_
      all_goals simp -dsimp [intsIV]
      all_goals refine call_pure hI (by simp [intsIV]) (by simp) ?_
      all_goals simp -dsimp
      all_goals refine loop_idx [] [10] l.length (fun i => ⟨[(9, vi i), (7, .iv (bkIV h.events h.order)), (2, .ptr 2 0), (1, .iv (.lst 17 (asksC l)))], [(2, .box (h.cells.map .iv))]⟩) (fun _ => True) ?_ trivial ?_
      all_goals first
        | (simp [Hs.cells]; done)
        | (intro i hi _
           by_cases hil : i < l.length
           · obtain ⟨a, ha⟩ := some_at hil
             have hpa := hp a (List.mem_of_getElem? ha)
             have hwi := wrap_in (n := (i : Int) + 1) (by omega)
             have haC : (asksC l)[i]? = some a.cells := by unfold asksC; rw [List.getElem?_map, ha]; rfl
             have hR := Row_spec h.events h.order a.table a.key a.v hrows
             have hR2 := ref19_Row_spec hok a.table a.key a.v
             rw [rowF_is hw] at hR2
             have hrl := rowB_len (table := a.table) (k := a.key) (v := a.v) hrows
             simp -dsimp [rl19_OrderTells_l27, haC, Ask.cells_eq a, -rl19_OrderTells_t22, -rl19_OrderTells_t24]
             refine fun _ _ => ?_
             refine call_pure (ref03_Size_spec hpa) (by simp [Pd.av_eq]) (by simp [Pd.av_eq]) ?_
             by_cases hz : 30 < IntKind.i64.wrap a.p.size
             · simp -dsimp [hz]
             · simp -dsimp [hz, Ask.cells_eq a, setRange, -rl19_OrderTells_t22, -rl19_OrderTells_t24]
               refine call_newH hR rfl (by simp) (by simp) (by simp) (by simp) ?_
               simp -dsimp [Ask.cells_eq a, Hs.cells, setRange, -rl19_OrderTells_t22, -rl19_OrderTells_t24]
               generalize (rowB h.events a.table a.key a.v).isSome = b at *
               generalize (rowB h.events a.table a.key a.v).getD [] = r at *
               refine call_le (s' := ⟨(74, a.v.av) :: (72, a.key.av) :: (70, vi a.table) :: (68, h.av) :: (12, vb b) :: (11, .iv (.lst 3 (rowC r))) :: fr0 h i (.lst 17 (asksC l)), hp0 h a⟩) (LeTo.le (D := []) (by simp [Hs.av, Hs.cells, Ask.cells_eq a])) ?_
               refine call_newH hR2 rfl (by simp [Hs.av]) (by simp [Hs.av]) (by simp) (by simp) ?_
               simp -dsimp [Hs.av, -rl19_OrderTells_t22, -rl19_OrderTells_t24]
               refine tells_t22 hok hw (by omega) (by omega) ?_
               intro l2
               simp -dsimp [-rl19_OrderTells_t24]
               refine tells_t24 hok hw (by omega) hpa ?_ l2
               intro c
               simp -dsimp [Hs.cells, hwi]
               exact hil
           · have hie : i = l.length := by omega
             subst hie
             have haC : (asksC l).length = l.length := by simp [asksC]
             simp -dsimp [rl19_OrderTells_l27, haC, -rl19_OrderTells_t22, -rl19_OrderTells_t24])
    · refine call_newH hr rfl (by simp [Hs.av]) (by simp [Hs.av]) (by simp) (by simp) ?_
      simp -dsimp
      refine call_pure (ref18_Well_spec hok) (by simp [Hs.av]) (by simp [Hs.av]) ?_
      have hw1 : ofP (WellP h) = false := ofP_false.2 hw
      simp -dsimp [hw1]
  · have hs1 : ofP (SmallP h) = false := ofP_false.2 hs
    simp -dsimp [hs1]
end Go.Rt
end

/- What comes in is a history. -/
section
namespace Go.Rt
open Go.Vm
theorem wf_int {P : Program} {f : Nat} {t : TypeId} {cs : List IV} {k : IntKind} (hu : P.underlying t = some (.int k)) (h : WfT P f t cs) : ∃ n, cs = [.v (.int k n)] ∧ (Lit.int k n).wf = true := by
  cases f with
  | zero => exact h.elim
  | succ f => simpa only [WfT, hu] using h
theorem wf_bool {P : Program} {f : Nat} {t : TypeId} {cs : List IV} (hu : P.underlying t = some .bool) (h : WfT P f t cs) : ∃ b, cs = [.v (.bool b)] := by
  cases f with
  | zero => exact h.elim
  | succ f => simpa only [WfT, hu] using h
theorem wf_str {P : Program} {f : Nat} {t : TypeId} {cs : List IV} (hu : P.underlying t = some .string) (h : WfT P f t cs) : ∃ s : ByteArray, cs = [.v (.string s)] ∧ s.size < 2 ^ 63 := by
  cases f with
  | zero => exact h.elim
  | succ f =>
    simp only [WfT, hu] at h
    obtain ⟨s, h1, h2⟩ := h
    refine ⟨s, h1, Nat.lt_of_le_of_lt h2 (by decide)⟩
theorem wf_slice {P : Program} {f : Nat} {t e n : Nat} {cs : List IV} (hu : P.underlying t = some (.slice e)) (hn : P.cellsOf e = n) (h : WfT P f t cs) : ∃ f', f = f' + 1 ∧ ∃ xs, cs = [.lst n xs] ∧ xs.length < 2 ^ 63 ∧ ∀ x ∈ xs, WfT P f' e x := by
  cases f with
  | zero => exact h.elim
  | succ f =>
    simp only [WfT, hu, hn] at h
    obtain ⟨xs, h1, h2, h3⟩ := h
    exact ⟨f, rfl, xs, h1, Nat.lt_of_le_of_lt h2 (by decide), h3⟩
def fieldsOf (P : Program) (t : TypeId) : Option (List (Nat × Nat × Nat)) := match P.underlying t with
  | some (.struct fs) => some (fs.toList.map fun f => (f.type, f.offset, P.cellsOf f.type))
  | _ => none
theorem wf_struct {P : Program} {f : Nat} {t n : Nat} {l : List (Nat × Nat × Nat)} {cs : List IV} (hu : fieldsOf P t = some l) (hn : P.cellsOf t = n) (h : WfT P f t cs) :
    ∃ f', f = f' + 1 ∧ cs.length = n ∧ ∀ p ∈ l, WfT P f' p.1 ((cs.drop p.2.1).take p.2.2) := by
  unfold fieldsOf at hu
  split at hu
  · rename_i fs hu'
    cases f with
    | zero => exact h.elim
    | succ f =>
      simp only [WfT, hu', hn] at h
      refine ⟨f, rfl, h.1, fun p hp => ?_⟩
      cases hu
      obtain ⟨fld, h1, rfl⟩ := List.mem_map.1 hp
      exact h.2 fld h1
  · cases hu
theorem cut_at {α : Type} (cs : List α) (o n : Nat) {x : List α} (h : (cs.drop o).take n = x) : cs.drop o = x ++ cs.drop (o + n) := by
  rw [← h, ← List.drop_drop, List.take_append_drop]
theorem cut_end {α : Type} {cs : List α} {o : Nat} (h : cs.length = o) : cs.drop o = [] := List.drop_eq_nil_of_le (by omega)
theorem list_choose {α β : Type} {f : α → β} {Q : α → Prop} : ∀ {xs : List β}, (∀ x, x ∈ xs → ∃ p, Q p ∧ x = f p) → ∃ ps : List α, xs = ps.map f ∧ ∀ p, p ∈ ps → Q p
  | [], _ => ⟨[], rfl, fun _ h => by cases h⟩
  | x :: r, h => by
    obtain ⟨p, h1, rfl⟩ := h x List.mem_cons_self
    obtain ⟨ps, rfl, h3⟩ := list_choose (xs := r) fun y hy => h y (List.mem_cons_of_mem _ hy)
    exact ⟨p :: ps, rfl, fun q hq => by
      rcases List.mem_cons.1 hq with rfl | hq
      · exact h1
      · exact h3 q hq⟩
section
theorem u4 : prog.underlying 4 = some .bool := by kernel_rfl
theorem u2 : prog.underlying 2 = some (.int .i64) := by kernel_rfl
theorem u3 : prog.underlying 3 = some (.int .i64) := by kernel_rfl
theorem u9 : prog.underlying 9 = some .string := by kernel_rfl
theorem wf_vl {f : Nat} {cs : List IV} (h : WfT prog f 37 cs) : ∃ v : Vl, cs = v.cells ∧ v.s.size < 2 ^ 63 := by
  obtain ⟨f, rfl, hl, hf⟩ := wf_struct (P := prog) (t := 37) (n := 3) (l := [(4, 0, 1), (2, 1, 1), (9, 2, 1)]) (by kernel_rfl) (by kernel_rfl) h
  obtain ⟨b, h1⟩ := wf_bool u4 (hf (4, 0, 1) (by decide))
  obtain ⟨n, h2, _⟩ := wf_int u2 (hf (2, 1, 1) (by decide))
  obtain ⟨s, h3, h4⟩ := wf_str u9 (hf (9, 2, 1) (by decide))
  refine ⟨⟨b, n, s⟩, ?_, h4⟩
  have e := cut_at cs 0 1 h1
  rw [cut_at cs 1 1 h2, cut_at cs 2 1 h3, cut_end hl] at e
  exact e
theorem wf_vs {f : Nat} {cs : List IV} (h : WfT prog f 39 cs) : ∃ v : Vs, cs = v.cells := by
  obtain ⟨f, rfl, hl, hf⟩ := wf_struct (P := prog) (t := 39) (n := 2) (l := [(3, 0, 1), (3, 1, 1)]) (by kernel_rfl) (by kernel_rfl) h
  obtain ⟨b, h1, _⟩ := wf_int u3 (hf (3, 0, 1) (by decide))
  obtain ⟨n, h2, _⟩ := wf_int u3 (hf (3, 1, 1) (by decide))
  refine ⟨⟨b, n⟩, ?_⟩
  have e := cut_at cs 0 1 h1
  rw [cut_at cs 1 1 h2, cut_end hl] at e
  exact e
theorem wf_row {f : Nat} {cs : List IV} (h : WfT prog f 47 cs) : ∃ r : List Vl, cs = [.lst 3 (rowC r)] ∧ r.length < 2 ^ 63 := by
  obtain ⟨f, rfl, xs, rfl, hl, hx⟩ := wf_slice (P := prog) (t := 47) (e := 37) (n := 3) (by kernel_rfl) (by kernel_rfl) h
  obtain ⟨r, rfl, _⟩ := list_choose (f := Vl.cells) (Q := fun _ => True) (xs := xs) fun x hm => by
    obtain ⟨v, h1, _⟩ := wf_vl (hx x hm); exact ⟨v, trivial, h1⟩
  exact ⟨r, rfl, by simpa using hl⟩
theorem wf_pd : ∀ {f : Nat} {cs : List IV}, WfT prog f 42 cs → ∃ p : Pd, cs = p.cells ∧ p.Ok := by
  intro f
  induction f using Nat.strongRecOn with
  | ind f ih =>
    intro cs h
    obtain ⟨f1, rfl, hl, hf⟩ := wf_struct (P := prog) (t := 42) (n := 9) (l := [(3, 0, 1), (3, 1, 1), (37, 2, 3), (37, 5, 3), (40, 8, 1)]) (by kernel_rfl) (by kernel_rfl) h
    obtain ⟨o, h1, _⟩ := wf_int u3 (hf (3, 0, 1) (by decide))
    obtain ⟨c, h2, _⟩ := wf_int u3 (hf (3, 1, 1) (by decide))
    obtain ⟨v, h3, hv⟩ := wf_vl (hf (37, 2, 3) (by decide))
    obtain ⟨w, h4, hw⟩ := wf_vl (hf (37, 5, 3) (by decide))
    obtain ⟨f2, rfl, xs, h5, hxl, hx⟩ := wf_slice (P := prog) (t := 40) (e := 42) (n := 9) (by kernel_rfl) (by kernel_rfl) (hf (40, 8, 1) (by decide))
    obtain ⟨ps, rfl, hps⟩ := list_choose (f := Pd.cells) (Q := Pd.Ok) (xs := xs) fun x hm => by
      obtain ⟨p, g1, g2⟩ := ih f2 (by omega) (hx x hm); exact ⟨p, g2, g1⟩
    refine ⟨.mk o c v w ps, ?_, .mk _ (by rw [List.length_map] at hxl; exact hxl) hv hw hps⟩
    have e := cut_at cs 0 1 h1
    rw [cut_at cs 1 1 h2, cut_at cs 2 3 h3, cut_at cs 5 3 h4, cut_at cs 8 1 h5, cut_end hl] at e
    rw [Pd.cells_eq]
    exact e
theorem wf_rf {f : Nat} {cs : List IV} (h : WfT prog f 76 cs) : ∃ r : Rf, cs = r.cells ∧ r.key.s.size < 2 ^ 63 := by
  obtain ⟨f, rfl, hl, hf⟩ := wf_struct (P := prog) (t := 76) (n := 5) (l := [(37, 0, 3), (39, 3, 2)]) (by kernel_rfl) (by kernel_rfl) h
  obtain ⟨v, h1, hv⟩ := wf_vl (hf (37, 0, 3) (by decide))
  obtain ⟨n, h2⟩ := wf_vs (hf (39, 3, 2) (by decide))
  refine ⟨⟨v, n⟩, ?_, hv⟩
  have e := cut_at cs 0 3 h1
  rw [cut_at cs 3 2 h2, cut_end hl] at e
  exact e
set_option maxRecDepth 10000 in
theorem wf_ev {f : Nat} {cs : List IV} (h : WfT prog f 71 cs) : ∃ e : Ev, cs = e.cells ∧ e.Ok := by
  obtain ⟨f, rfl, hl, hf⟩ := wf_struct (P := prog) (t := 71) (n := 22) (l := [(3, 0, 1), (3, 1, 1), (3, 2, 1), (3, 3, 1), (37, 4, 3), (39, 7, 2), (3, 9, 1), (47, 10, 1), (42, 11, 9), (69, 20, 1), (4, 21, 1)]) (by kernel_rfl) (by kernel_rfl) h
  obtain ⟨a1, h1, _⟩ := wf_int u3 (hf (3, 0, 1) (by decide))
  obtain ⟨a2, h2, _⟩ := wf_int u3 (hf (3, 1, 1) (by decide))
  obtain ⟨a3, h3, _⟩ := wf_int u3 (hf (3, 2, 1) (by decide))
  obtain ⟨a4, h4, _⟩ := wf_int u3 (hf (3, 3, 1) (by decide))
  obtain ⟨k, h5, hk⟩ := wf_vl (hf (37, 4, 3) (by decide))
  obtain ⟨v, h6⟩ := wf_vs (hf (39, 7, 2) (by decide))
  obtain ⟨n, h7, _⟩ := wf_int u3 (hf (3, 9, 1) (by decide))
  obtain ⟨r, h8, hr⟩ := wf_row (hf (47, 10, 1) (by decide))
  obtain ⟨p, h9, hp⟩ := wf_pd (hf (42, 11, 9) (by decide))
  obtain ⟨f2, rfl, xs, h10, hxl, hx⟩ := wf_slice (P := prog) (t := 69) (e := 76) (n := 5) (by kernel_rfl) (by kernel_rfl) (hf (69, 20, 1) (by decide))
  obtain ⟨b, h11⟩ := wf_bool u4 (hf (4, 21, 1) (by decide))
  obtain ⟨rs, rfl, hrs⟩ := list_choose (f := Rf.cells) (Q := fun r => r.key.s.size < 2 ^ 63) (xs := xs) fun x hm => by
    obtain ⟨p, g1, g2⟩ := wf_rf (hx x hm); exact ⟨p, g2, g1⟩
  refine ⟨⟨a1, a2, a3, a4, k, v, n, r, p, rs, b⟩, ?_, ⟨hr, by simpa using hxl, hp, hk, hrs⟩⟩
  have e := cut_at cs 0 1 h1
  rw [cut_at cs 1 1 h2, cut_at cs 2 1 h3, cut_at cs 3 1 h4, cut_at cs 4 3 h5, cut_at cs 7 2 h6, cut_at cs 9 1 h7, cut_at cs 10 1 h8, cut_at cs 11 9 h9, cut_at cs 20 1 h10, cut_at cs 21 1 h11, cut_end hl] at e
  rw [Ev.cells_eq]
  rw [Pd.cells_eq] at e
  exact e
theorem wf_ints {f : Nat} {cs : List IV} (h : WfT prog f 33 cs) : ∃ r : List Int, cs = [.lst 1 (intsC r)] ∧ r.length < 2 ^ 63 := by
  obtain ⟨f, rfl, xs, rfl, hl, hx⟩ := wf_slice (P := prog) (t := 33) (e := 3) (n := 1) (by kernel_rfl) (by kernel_rfl) h
  obtain ⟨r, rfl, _⟩ := list_choose (f := fun i => [ci i]) (Q := fun _ => True) (xs := xs) fun x hm => by
    obtain ⟨v, h1, _⟩ := wf_int u3 (hx x hm); exact ⟨v, trivial, h1⟩
  exact ⟨r, rfl, by simpa using hl⟩
theorem wf_bools {f : Nat} {cs : List IV} (h : WfT prog f 78 cs) : ∃ r : List Bool, cs = [.lst 1 (boolsC r)] ∧ r.length < 2 ^ 63 := by
  obtain ⟨f, rfl, xs, rfl, hl, hx⟩ := wf_slice (P := prog) (t := 78) (e := 4) (n := 1) (by kernel_rfl) (by kernel_rfl) h
  obtain ⟨r, rfl, _⟩ := list_choose (f := fun b => [cb b]) (Q := fun _ => True) (xs := xs) fun x hm => by
    obtain ⟨v, h1⟩ := wf_bool u4 (hx x hm); exact ⟨v, trivial, h1⟩
  exact ⟨r, rfl, by simpa using hl⟩
theorem wf_ins {f : Nat} {cs : List IV} (h : WfT prog f 73 cs) : ∃ o : Ins, cs = o.cells ∧ (o.txns.length < 2 ^ 63 ∧ o.key.s.size < 2 ^ 63) := by
  obtain ⟨f, rfl, hl, hf⟩ := wf_struct (P := prog) (t := 73) (n := 5) (l := [(3, 0, 1), (37, 1, 3), (33, 4, 1)]) (by kernel_rfl) (by kernel_rfl) h
  obtain ⟨a, h1, _⟩ := wf_int u3 (hf (3, 0, 1) (by decide))
  obtain ⟨k, h2, hk⟩ := wf_vl (hf (37, 1, 3) (by decide))
  obtain ⟨r, h3, hr⟩ := wf_ints (hf (33, 4, 1) (by decide))
  refine ⟨⟨a, k, r⟩, ?_, hr, hk⟩
  have e := cut_at cs 0 1 h1
  rw [cut_at cs 1 3 h2, cut_at cs 4 1 h3, cut_end hl] at e
  exact e
theorem wf_tb {f : Nat} {cs : List IV} (h : WfT prog f 80 cs) : ∃ t : Tb, cs = [tbIV t] ∧ t.length < 2 ^ 63 := by
  obtain ⟨f, rfl, hl, hf⟩ := wf_struct (P := prog) (t := 80) (n := 1) (l := [(78, 0, 1)]) (by kernel_rfl) (by kernel_rfl) h
  obtain ⟨r, h1, hr⟩ := wf_bools (hf (78, 0, 1) (by decide))
  refine ⟨r, ?_, hr⟩
  have e := cut_at cs 0 1 h1
  rw [cut_end hl] at e
  exact e
theorem wf_hs {f : Nat} {cs : List IV} (h : WfT prog f 26 cs) : ∃ h : Hs, cs = h.cells ∧ h.Ok := by
  obtain ⟨f, rfl, hl, hf⟩ := wf_struct (P := prog) (t := 26) (n := 3) (l := [(22, 0, 1), (23, 1, 1), (24, 2, 1)]) (by kernel_rfl) (by kernel_rfl) h
  obtain ⟨f1, e1, xs1, h1, l1, g1⟩ := wf_slice (P := prog) (t := 22) (e := 80) (n := 1) (by kernel_rfl) (by kernel_rfl) (hf (22, 0, 1) (by decide))
  obtain ⟨f2, e2, xs2, h2, l2, g2⟩ := wf_slice (P := prog) (t := 23) (e := 71) (n := 22) (by kernel_rfl) (by kernel_rfl) (hf (23, 1, 1) (by decide))
  obtain ⟨f3, e3, xs3, h3, l3, g3⟩ := wf_slice (P := prog) (t := 24) (e := 73) (n := 5) (by kernel_rfl) (by kernel_rfl) (hf (24, 2, 1) (by decide))
  obtain ⟨ts, rfl, ht⟩ := list_choose (f := fun t : Tb => [tbIV t]) (Q := fun t => t.length < 2 ^ 63) (xs := xs1) fun x hm => by
    obtain ⟨p, a1, a2⟩ := wf_tb (g1 x hm); exact ⟨p, a2, a1⟩
  obtain ⟨es, rfl, he⟩ := list_choose (f := Ev.cells) (Q := Ev.Ok) (xs := xs2) fun x hm => by
    obtain ⟨p, a1, a2⟩ := wf_ev (g2 x hm); exact ⟨p, a2, a1⟩
  obtain ⟨os, rfl, ho⟩ := list_choose (f := Ins.cells) (Q := fun o => o.txns.length < 2 ^ 63 ∧ o.key.s.size < 2 ^ 63) (xs := xs3) fun x hm => by
    obtain ⟨p, a1, a2⟩ := wf_ins (g3 x hm); exact ⟨p, a2, a1⟩
  refine ⟨⟨ts, es, os⟩, ?_, ⟨by simpa using l1, by simpa using l2, by simpa using l3, he, fun o h => (ho o h).1, ht, fun o h => (ho o h).2⟩⟩
  have e := cut_at cs 0 1 h1
  rw [cut_at cs 1 1 h2, cut_at cs 2 1 h3, cut_end hl] at e
  exact e
theorem wf_ask {f : Nat} {cs : List IV} (h : WfT prog f 44 cs) : ∃ a : Ask, cs = a.cells ∧ a.p.Ok := by
  obtain ⟨f, rfl, hl, hf⟩ := wf_struct (P := prog) (t := 44) (n := 17) (l := [(3, 0, 1), (3, 1, 1), (37, 2, 3), (39, 5, 2), (3, 7, 1), (42, 8, 9)]) (by kernel_rfl) (by kernel_rfl) h
  obtain ⟨a1, h1, _⟩ := wf_int u3 (hf (3, 0, 1) (by decide))
  obtain ⟨a2, h2, _⟩ := wf_int u3 (hf (3, 1, 1) (by decide))
  obtain ⟨k, h5, hk⟩ := wf_vl (hf (37, 2, 3) (by decide))
  obtain ⟨v, h6⟩ := wf_vs (hf (39, 5, 2) (by decide))
  obtain ⟨n, h7, _⟩ := wf_int u3 (hf (3, 7, 1) (by decide))
  obtain ⟨p, h9, hp⟩ := wf_pd (hf (42, 8, 9) (by decide))
  refine ⟨⟨a1, a2, k, v, n, p⟩, ?_, hp⟩
  have e := cut_at cs 0 1 h1
  rw [cut_at cs 1 1 h2, cut_at cs 2 3 h5, cut_at cs 5 2 h6, cut_at cs 7 1 h7, cut_at cs 8 9 h9, cut_end hl] at e
  rw [Pd.cells_eq] at e
  exact e
theorem wf_asks {f : Nat} {cs : List IV} (h : WfT prog f 27 cs) : ∃ l : List Ask, cs = [.lst 17 (asksC l)] ∧ l.length < 2 ^ 63 ∧ ∀ a, a ∈ l → a.p.Ok := by
  obtain ⟨f, rfl, xs, rfl, hl, hx⟩ := wf_slice (P := prog) (t := 27) (e := 44) (n := 17) (by kernel_rfl) (by kernel_rfl) h
  obtain ⟨r, rfl, hr⟩ := list_choose (f := Ask.cells) (Q := fun a => a.p.Ok) (xs := xs) fun x hm => by
    obtain ⟨v, h1, h2⟩ := wf_ask (hx x hm); exact ⟨v, h2, h1⟩
  exact ⟨r, rfl, by simpa using hl, hr⟩
end
end Go.Rt
end

/- What the rows of this chapter share. -/
section
namespace Go.Proofs.YtahalmofaboejaaGreat
open Go.ChangeShapes Go.WideShapes Go.ChangeAt Go.RowKit Go.Vm Go.Rt
open Go.Proofs (Tryz.prog)
theorem own : ownKnob Tryz.prog.godebug = none := by kernel_rfl
theorem laidOut : laidOutB Tryz.prog = true := by kernel_rfl
def tset : List TypeId := [26, 22, 23, 24, 80, 78, 4, 71, 3, 37, 2, 9, 39, 47, 42, 40, 69, 76, 73, 33, 44, 27]
theorem tset_ok : plainSet Tryz.prog tset = true := by kernel_rfl
theorem readable : ∀ t ∈ [26, 27], Tryz.prog.readableRec t = true ∧ t < Tryz.prog.types.size := by
  intro t ht
  simp only [List.mem_cons, List.not_mem_nil, or_false] at ht
  rcases ht with rfl | rfl
  · exact ⟨by kernel_rfl, of_decide_eq_true (by kernel_rfl)⟩
  · exact ⟨by kernel_rfl, of_decide_eq_true (by kernel_rfl)⟩
theorem agg26 : isAggT Tryz.prog 26 = true := by kernel_rfl
theorem agg27 : isAggT Tryz.prog 27 = false := by kernel_rfl
theorem args_ha {css : List (List IV)} (h : WfArgs Tryz.prog [26, 27] css) : ∃ (h : Hs) (l : List Go.Rt.Ask), h.Ok ∧ l.length < 2 ^ 63 ∧ (∀ a, a ∈ l → a.p.Ok) ∧ argsT Tryz.prog [26, 27] css = [h.av, .iv (.lst 17 (asksC l))] := by
  match css, h with
  | [cs, ds], ⟨⟨f, h1⟩, ⟨i, h2⟩, _⟩ =>
    obtain ⟨h, rfl, hok⟩ := wf_hs h1
    obtain ⟨l, rfl, hl, hp⟩ := wf_asks h2
    exact ⟨h, l, hok, hl, hp, by simp only [argsT, agg26, agg27]; rfl⟩
end Go.Proofs.YtahalmofaboejaaGreat
end
