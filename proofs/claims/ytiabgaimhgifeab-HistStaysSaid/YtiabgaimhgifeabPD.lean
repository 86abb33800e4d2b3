/- Contracts of functions of the program, and what they lean on. Conditions: those of each theorem. -/
import Derived.Test.YtiabgaimhgifeabPC
import Derived.Test.YtiabgaimhgifeabPA

set_option linter.unusedVariables false
set_option linter.unusedSimpArgs false

/- Contracts: the document's history, events. -/
section
namespace Go.Rt
open Go.Vm
/-- rule 3 -/
def WriteOk (h : Hs) (es : List Ev) (e : Ev) : Prop := KeyOk h e.table e.key ∧ e.n = wrote es e.txn e.table e.key + 1 ∧ (e.row = [] ∨ ∃ t, h.tables[e.table.toNat]? = some t ∧ Fits t e.row ∧ e.row[0]? = some e.key)
/-- rule 4 -/
def ReadOk (h : Hs) (es : List Ev) (e : Ev) : Prop := KeyOk h e.table e.key ∧
  if 0 < wrote es e.txn e.table e.key then e.frm = ⟨e.txn, wrote es e.txn e.table e.key⟩ else e.frm = ⟨0, 0⟩ ∨ VerOk es e.table e.key e.frm
/-- each place's references -/
def RefAt (h : Hs) (es : List Ev) (e : Ev) (i : Nat) : Prop := ∀ r, e.refs[i]? = some r → KeyOk h e.table r.key ∧ VerOk es e.table r.key r.frm ∧ (∀ q, 0 < i → e.refs[i - 1]? = some q → q.key.cmp r.key < 0)
/-- each own write is seen -/
def SeenAt (es : List Ev) (e : Ev) (x : Ev) : Prop := x.kind = 3 → x.txn = e.txn → x.table = e.table → ∃ r, r ∈ e.refs ∧ r.key = x.key ∧ r.frm = ⟨e.txn, wrote es e.txn e.table x.key⟩
/-- rule 5 -/
def PredOk (h : Hs) (es : List Ev) (e : Ev) : Prop := (0 ≤ e.table ∧ ∃ t, h.tables[e.table.toNat]? = some t ∧ PdOk t e.pred) ∧ Upto e.refs.length (RefAt h es e) ∧ ∀ x, x ∈ es → SeenAt es e x
def There (l : List Rf) (k : Vl) (v : Vs) : Prop := ∃ r, r ∈ l ∧ r.key = k ∧ r.frm = v
@[simp] theorem there_nil {k : Vl} {v : Vs} : There [] k v ↔ False := by unfold There; simp
theorem there_next {l : List Rf} {q : Rf} {k : Vl} {v : Vs} : There (l ++ [q]) k v ↔ There l k v ∨ ((q.key.text = k.text ∧ q.key.n = k.n ∧ q.key.s = k.s) ∧ q.frm.txn = v.txn ∧ q.frm.n = v.n) := by
  unfold There
  rw [← Vl.eq_iff, ← Vs.eq_iff]
  constructor
  · rintro ⟨r, hr, g⟩
    rcases List.mem_append.1 hr with hr | hr
    · exact .inl ⟨r, hr, g⟩
    · simp only [List.mem_singleton] at hr; subst hr; exact .inr g
  · rintro (⟨r, hr, g⟩ | g)
    · exact ⟨r, List.mem_append_left _ hr, g⟩
    · exact ⟨q, by simp, g⟩
end Go.Rt
end

/- Contracts: the document's history, whether it is well formed. -/
section
namespace Go.Rt
open Go.Vm
def EventOk (h : Hs) (es : List Ev) (e : Ev) : Prop := FrameOk es e ∧ (e.kind = 2 → ReadOk h es e) ∧ (e.kind = 3 → WriteOk h es e) ∧ (e.kind = 4 → PredOk h es e)
/-- an order of an object's versions -/
def Ins.isOf (table : Int) (k : Vl) (o : Ins) : Prop := o.table = table ∧ o.key = k
/-- rule 6, of a write -/
def InstalledOk (h : Hs) (e : Ev) : Prop := e.kind = 3 → ended h.events e.txn = 5 → ∃ o, o ∈ h.order ∧ o.isOf e.table e.key ∧ e.txn ∈ o.txns
/-- rule 6, of an order -/
def InstallOk (h : Hs) (a : Nat) (o : Ins) : Prop := (∀ x, x ∈ h.order.take a → ¬x.isOf o.table o.key) ∧
  (Upto o.txns.length fun i => ∀ t, o.txns[i]? = some t → ended h.events t = 5 ∧ wrote h.events t o.table o.key ≠ 0 ∧ t ∉ o.txns.take i) ∧ 0 < o.txns.length
/-- rule 1 -/
def TablesOk (h : Hs) : Prop := (1 ≤ h.tables.length ∧ h.tables.length ≤ 3) ∧ h.TbsOk
/-- P18.1 -/
def WellP (h : Hs) : Prop := TablesOk h ∧ (Upto h.events.length fun i => ∀ e, h.events[i]? = some e → EventOk h (h.events.take i) e ∧ InstalledOk h e) ∧ Upto h.order.length fun i => ∀ o, h.order[i]? = some o → InstallOk h i o
end Go.Rt
end

/- Contracts: is a history small? -/
section
namespace Go.Rt
open Go.Vm
mutual
def Pd.Flat (d : Int) : Pd → Prop
  | .mk o c v w l => d ≤ 6 ∧ l.length ≤ 6 ∧ Pd.FlatL (d + 1) l ∧ IntKind.i64.wrap (Pd.size (.mk o c v w l)) ≤ 30
def Pd.FlatL (d : Int) : List Pd → Prop
  | [] => True
  | p :: r => p.Flat d ∧ Pd.FlatL d r
end
theorem Pd.flat_eq (d : Int) (p : Pd) : p.Flat d ↔ d ≤ 6 ∧ p.l.length ≤ 6 ∧ Pd.FlatL (d + 1) p.l ∧ IntKind.i64.wrap p.size ≤ 30 := by cases p; rw [Pd.Flat]; rfl
theorem Pd.flatL_iff (d : Int) : ∀ l : List Pd, Pd.FlatL d l ↔ ∀ p, p ∈ l → p.Flat d
  | [] => by simp [Pd.FlatL]
  | p :: r => by simp [Pd.FlatL, Pd.flatL_iff d r]
theorem ref18_flat_spec {p : Pd} (h : p.Ok) : ∀ d : Int, 0 ≤ d → GSpec prog true n_ratlineref18_flat [p.av, vi d] [] (vb (ofP (p.Flat d))) [] := by
  induction h with
  | mk p hl hv hw hq ih =>
  intro d hd
  refine gspec1 ratlineref18_flat_is (by simp) (by decide) rfl ?_
  by_cases h1 : d ≤ 6
  · by_cases h2 : p.l.length ≤ 6
    · have n1 : ¬6 < d := by omega
      have n2 : ¬(6 : Int) < p.l.length := by omega
      simp -dsimp [ratlineref18_flat, Pd.av_eq, n1, n2]
      refine loop_idx [] [] p.l.length (fun i => ⟨[(5, vi i), (1, vi d), (2, .ptr 2 0)], [(2, p.box)]⟩) (fun i => Upto i fun j => ∀ q, p.l[j]? = some q → q.Flat (d + 1)) ?_ ?_ ?_
      · simp -dsimp [Pd.box]
      · exact upto_zero
      · intro i hi hqq
        simp -dsimp [ratlineref18_flat_l9, Pd.box]
        refine ⟨fun hlt => ?_, fun hge => ?_⟩
        · obtain ⟨q, hqi⟩ := some_at hlt
          have hw := wrap_in (n := (i : Int) + 1) (by omega)
          have hwd := wrap_in (n := d + 1) (by omega)
          simp -dsimp [hqi, Pd.cells_eq q, hwd]
          refine call_pure (ih q (List.mem_of_getElem? hqi) (d + 1) (by omega)) (by simp [Pd.av_eq]) (by simp [Pd.av_eq]) ?_
          simp -dsimp [hw]
          exact ⟨fun g g2 => g ((Pd.flatL_iff _ _).1 ((Pd.flat_eq d p).1 g2).2.2.1 q (List.mem_of_getElem? hqi)), fun g => ⟨hlt, hqq.succ fun q' hq' => by rw [hqi] at hq'; cases hq'; exact g⟩⟩
        · have hall : Pd.FlatL (d + 1) p.l := (Pd.flatL_iff _ _).2 fun q hqm => by
            obtain ⟨j, hj⟩ := List.getElem?_of_mem hqm
            exact hqq j (by have := (List.getElem?_eq_some_iff.1 hj).1; omega) q hj
          refine call_pure (ref03_Size_spec (.mk p hl hv hw hq)) (by simp [Pd.av_eq]) (by simp [Pd.av_eq]) ?_
          simp -dsimp [dec_ofP, Pd.flat_eq d p, h1, h2, hall]
    · have n1 : ¬6 < d := by omega
      have n2 : (6 : Int) < p.l.length := by omega
      simp -dsimp [ratlineref18_flat, Pd.av_eq, n1, n2]
      exact fun g => h2 ((Pd.flat_eq d p).1 g).2.1
  · have n1 : 6 < d := by omega
    simp -dsimp [ratlineref18_flat, Pd.av_eq, n1]
    exact fun g => h1 ((Pd.flat_eq d p).1 g).1
structure SmallEv (e : Ev) : Prop where
  refs : e.refs.length ≤ 12
  row : e.row.length ≤ 12
  flat : e.pred.Flat 0
structure SmallP (h : Hs) : Prop where
  tables : h.tables.length ≤ 6
  events : h.events.length ≤ 60
  order : h.order.length ≤ 30
  ev : Upto h.events.length fun i => ∀ e, h.events[i]? = some e → SmallEv e
  txns : Upto h.order.length fun i => ∀ o, h.order[i]? = some o → o.txns.length ≤ 20
theorem ref18_Small_spec {h : Hs} (hok : h.Ok) : GSpec prog true n_ratlineref18_Small [h.av] [] (vb (ofP (SmallP h))) [] := by
  refine gspec1 ratlineref18_Small_is (by simp) (by decide) rfl ?_
  by_cases h1 : h.tables.length ≤ 6
  · by_cases h2 : h.events.length ≤ 60
    · by_cases h3 : h.order.length ≤ 30
      · have n1 : ¬(6 : Int) < h.tables.length := by omega
        have n2 : ¬(60 : Int) < h.events.length := by omega
        have n3 : ¬(30 : Int) < h.order.length := by omega
        simp -dsimp [ratlineref18_Small, Hs.av, n1, n2, n3]
        refine loop_idx [] [4] h.events.length (fun i => ⟨[(3, vi i), (1, .ptr 1 0)], [(1, .box [.iv (.lst 1 (tbsC h.tables)), .iv (.lst 22 (evsC h.events)), .iv (.lst 5 (insC h.order))])]⟩)
          (fun i => Upto i fun i => ∀ e, h.events[i]? = some e → SmallEv e) ?_ ?_ ?_
        · simp -dsimp
        · exact upto_zero
        · intro i hi hq
          simp -dsimp [ratlineref18_Small_l9]
          refine ⟨fun hlt => ?_, fun hge => ?_⟩
          · obtain ⟨e, he⟩ := some_at hlt
            have hw := wrap_in (n := (i : Int) + 1) (by omega)
            have hno : ¬SmallEv e → ¬SmallP h := fun g g2 => g (g2.ev i hlt e he)
            have heok := hok.ev e (List.mem_of_getElem? he)
            by_cases e1 : e.refs.length ≤ 12
            · by_cases e2 : e.row.length ≤ 12
              · have m1 : ¬(12 : Int) < e.refs.length := by omega
                have m2 : ¬(12 : Int) < e.row.length := by omega
                simp -dsimp [he, m1, m2]
                refine call_pure (ref18_flat_spec heok.pred 0 (by omega)) (by simp [Pd.av]) (by simp [Pd.av]) ?_
                simp -dsimp [hw]
                exact ⟨fun g => hno fun g2 => g g2.flat, fun g => ⟨hlt, hq.succ fun e' he' => by rw [he] at he'; cases he'; exact ⟨e1, e2, g⟩⟩⟩
              · have m1 : ¬(12 : Int) < e.refs.length := by omega
                have m2 : (12 : Int) < e.row.length := by omega
                simp -dsimp [he, m1, m2]
                exact hno fun g => e2 g.row
            · have m1 : (12 : Int) < e.refs.length := by omega
              simp -dsimp [he, m1]
              exact hno fun g => e1 g.refs
          · refine loop_idx [] [] h.order.length (fun i => ⟨[(5, vi i), (1, .ptr 1 0)], [(1, .box [.iv (.lst 1 (tbsC h.tables)), .iv (.lst 22 (evsC h.events)), .iv (.lst 5 (insC h.order))])]⟩)
              (fun i => Upto i fun i => ∀ o, h.order[i]? = some o → o.txns.length ≤ 20) ?_ ?_ ?_
            · simp -dsimp
            · exact upto_zero
            · intro j hj hqj
              simp -dsimp [ratlineref18_Small_l15]
              refine ⟨fun hjlt => ?_, fun hjge => ?_⟩
              · obtain ⟨o, ho⟩ := some_at hjlt
                have hw := wrap_in (n := (j : Int) + 1) (by omega)
                simp -dsimp [ho, Ins.cells_eq o, hw]
                refine ⟨fun g g2 => ?_, fun g => ⟨hjlt, hqj.succ fun o' ho' => by rw [ho] at ho'; cases ho'; omega⟩⟩
                have := g2.txns j hjlt o ho
                omega
              · exact ⟨h1, h2, h3, fun k hk => hq k (by omega), fun k hk => hqj k (by omega)⟩
      · have n1 : ¬(6 : Int) < h.tables.length := by omega
        have n2 : ¬(60 : Int) < h.events.length := by omega
        have n3 : (30 : Int) < h.order.length := by omega
        simp -dsimp [ratlineref18_Small, Hs.av, n1, n2, n3]
        exact fun g => h3 g.order
    · have n1 : ¬(6 : Int) < h.tables.length := by omega
      have n2 : (60 : Int) < h.events.length := by omega
      simp -dsimp [ratlineref18_Small, Hs.av, n1, n2]
      exact fun g => h2 g.events
  · have n1 : (6 : Int) < h.tables.length := by omega
    simp -dsimp [ratlineref18_Small, Hs.av, n1]
    exact fun g => h1 g.tables
end Go.Rt
end

/- Contracts: the checker looks. -/
section
namespace Go.Rt
open Go.Vm
theorem hist_key_spec {h : Hs} (ht : h.TbsOk) (a es : List Ev) (table : Int) (k : Vl) : GSpec prog true n_hist_checker_key [.iv (ckIV h a es), vi table, k.av] [] (vb (ofP (KeyOk h table k))) [] := by
  refine gspec1 hist_checker_key_is (by simp) (by decide) rfl ?_
  simp -dsimp [hist_checker_key, ckIV]
  refine ⟨fun h1 => ⟨fun h2 => ?_, fun h2 => ?_⟩, fun h1 g => absurd g.1 (by omega)⟩
  · obtain ⟨n, rfl⟩ := Int.eq_ofNat_of_zero_le h1
    obtain ⟨t, htn⟩ : ∃ t, h.tables[n]? = some t := some_at (by omega)
    have hT := ht t (List.mem_of_getElem? htn)
    obtain ⟨c, hc⟩ : ∃ c, t[0]? = some c := some_at hT.1
    have hK : KeyOk h n k ↔ k.right = true ∧ k.text = c := by
      unfold KeyOk
      constructor
      · rintro ⟨_, t', h3, h4, h5⟩
        rw [show ((n : Int)).toNat = n from rfl, htn] at h3; cases h3
        rw [hc] at h5; cases h5
        exact ⟨h4, rfl⟩
      · rintro ⟨h4, h5⟩; exact ⟨h1, t, by simpa using htn, h4, by rw [hc, h5]⟩
    refine call_pure (value_Right_spec k) (by simp) (by simp) ?_
    simp -dsimp
    refine ⟨fun h3 => ?_, fun h3 g => by rw [hK] at g; rw [h3] at g; cases g.1⟩

    simp -dsimp [htn, hc, tbIV, ofP_eq, hK, h3]
  · rintro ⟨_, t, h3, _⟩
    have := (List.getElem?_eq_some_iff.1 h3).1
    omega
theorem hist_version_spec (h : Hs) (a es : List Ev) (table : Int) (k : Vl) (v : Vs) :
    GSpec prog true n_hist_checker_version [.iv (ckIV h a es), .agg [.iv (ci table), .iv (cb k.text), .iv (ci k.n), .iv (.v (.string k.s))], v.av] [] (vb (ofP (VerOk es table k v))) [] := by
  refine gspec1 hist_checker_version_is (by simp) (by decide) rfl ?_
  simp -dsimp [hist_checker_version, ckIV, ofP_eq, VerOk]
  grind
end Go.Rt
end

/- Contracts: the checker looks at reads. -/
section
namespace Go.Rt
open Go.Vm
theorem hist_read_spec {h : Hs} (ht : h.TbsOk) (a es : List Ev) (e : Ev) : GSpec prog true n_hist_checker_read [.iv (ckIV h a es), e.av] [] (vb (ofP (e.kind = 2 → ReadOk h es e))) [] := by
  refine gspec1 hist_checker_read_is (by simp) (by decide) rfl ?_
  by_cases k2 : e.kind = 2
  · by_cases hw : 0 < wrote es e.txn e.table e.key
    · simp -dsimp [hist_checker_read, ckIV, Ev.av, k2, hw]
      refine call_pure (hist_key_spec ht a es e.table e.key) (by simp [ckIV]) (by simp [ckIV]) ?_
      simp -dsimp
      refine ⟨fun g => ?_, fun g g2 => g g2.1⟩
      rw [ofP_eq]
      unfold ReadOk
      rw [if_pos hw]
      simp [g, Vs.eq_iff]
    · have hR : ReadOk h es e ↔ KeyOk h e.table e.key ∧ ((e.frm.txn = 0 ∧ e.frm.n = 0) ∨ VerOk es e.table e.key e.frm) := by
        unfold ReadOk
        rw [if_neg hw]
        simp [Vs.eq_iff]
      simp -dsimp [hist_checker_read, ckIV, Ev.av, k2, hw]
      refine call_pure (hist_key_spec ht a es e.table e.key) (by simp [ckIV]) (by simp [ckIV]) ?_
      simp -dsimp
      refine ⟨fun g => ⟨fun g2 => ?_, fun g2 g3 => hR.2 ⟨g, .inl ⟨g2, g3⟩⟩⟩, fun g g2 => g g2.1⟩
      refine call_pure (hist_version_spec h a es e.table e.key e.frm) (by simp [ckIV]) (by simp [ckIV]) ?_
      simp -dsimp [ofP_inj, hR]
      grind
  · simp -dsimp [hist_checker_read, ckIV, Ev.av, k2]
/-- what a predicate's read is asked, as the checker asks -/
def SawOk (h : Hs) (es : List Ev) (e : Ev) : Prop := (0 ≤ e.table ∧ ∃ t, h.tables[e.table.toNat]? = some t ∧ PdOk t e.pred) ∧ Upto e.refs.length (RefAt h es e) ∧
  ∀ o, o ∈ spots es e.txn → o.1 = e.table → (lastRef e.refs o.2).getD ⟨0, 0⟩ = ⟨e.txn, wrote es e.txn o.1 o.2⟩
theorem hist_saw_spec {h : Hs} (ht : h.TbsOk) (htl : h.tables.length < 2 ^ 63) (a es : List Ev) (hes : es.length < 2 ^ 63) (e : Ev) (heok : e.Ok) : GSpec prog true n_hist_checker_saw [.iv (ckIV h a es), e.av] [] (vb (ofP (e.kind = 4 → SawOk h es e))) [] := by
  refine gspec1 hist_checker_saw_is (by simp) (by decide) rfl ?_
  by_cases k4 : e.kind = 4
  · by_cases hT : 0 ≤ e.table ∧ e.table < h.tables.length
    · obtain ⟨t0, t1⟩ := id hT
      obtain ⟨t, htt⟩ : ∃ t, h.tables[e.table.toNat]? = some t := some_at (by omega)
      have t2 : ¬(h.tables.length : Int) ≤ e.table := by omega
      have t3 : ¬e.table < 0 := by omega
      simp -dsimp [hist_checker_saw, ckIV, Ev.av, k4, t0, t3, t2, htt]
      refine call_pure (pred_Check_spec t heok.pred) (by simp [tbAV, Pd.av]) (by simp [tbAV, Pd.av]) ?_
      simp -dsimp
      have hS : SawOk h es e ↔ PdOk t e.pred ∧ Upto e.refs.length (RefAt h es e) ∧ ∀ o, o ∈ spots es e.txn → o.1 = e.table → (lastRef e.refs o.2).getD ⟨0, 0⟩ = ⟨e.txn, wrote es e.txn o.1 o.2⟩ := by
        unfold SawOk
        constructor
        · rintro ⟨⟨_, t', g1, g2⟩, g3⟩
          rw [htt] at g1; cases g1; exact ⟨g2, g3⟩
        · rintro ⟨g2, g3⟩; exact ⟨⟨t0, t, htt, g2⟩, g3⟩
      refine ⟨fun h2 g => h2 (hS.1 g).1, fun h2 => ?_⟩
      refine loop_idx [] [7, 8] e.refs.length (fun i => ⟨[(47, vi i), (46, vi e.refs.length), (45, .iv (.lst 5 (refsC e.refs))), (0, .iv (ckIV h a es)), (3, .ptr 3 0), (5, .mpr 43)],
          [(43, .map skO (gR e.table (e.refs.take i))), (3, .box (e.cells.map .iv))]⟩) (fun i => Upto i (RefAt h es e)) ?_ ?_ ?_
      · simp -dsimp [gR_nil, ckIV]
      · simp
      · intro i hi hq
        simp -dsimp [hist_checker_saw_l14, ckIV]
        refine ⟨fun hlt => ?_, fun hge => ?_⟩
        · obtain ⟨q, hqi⟩ := some_at hlt
          have hre := heok.refs
          have hw := wrap_in (n := (i : Int) + 1) (by omega)
          have hw1 := wrap_in (n := (i : Int) - 1) (by omega)
          have hno : ¬RefAt h es e i → ¬SawOk h es e := fun g1 g => g1 (g.2.1 i hlt)
          have hat : RefAt h es e i ↔ KeyOk h e.table q.key ∧ VerOk es e.table q.key q.frm ∧ (∀ p, 0 < i → e.refs[i - 1]? = some p → p.key.cmp q.key < 0) := by
            unfold RefAt; rw [hqi]
            exact ⟨fun g => g q rfl, fun g r hr => by cases hr; exact g⟩
          simp -dsimp [hqi, Rf.cells_eq q]
          refine call_pure (hist_key_spec ht a es e.table q.key) (by simp [ckIV]) (by simp [ckIV]) ?_
          simp -dsimp
          by_cases k1 : KeyOk h e.table q.key
          · simp -dsimp [k1]
            refine call_pure (hist_version_spec h a es e.table q.key q.frm) (by simp [ckIV]) (by simp [ckIV]) ?_
            simp -dsimp
            by_cases k2 : VerOk es e.table q.key q.frm
            · by_cases hi0 : 0 < i
              · obtain ⟨p, hp⟩ : ∃ p, e.refs[i - 1]? = some p := some_at (by omega)
                have e1 : ((i : Int) - 1).toNat = i - 1 := by omega
                have e2 : (0 : Int) ≤ (i : Int) - 1 := by omega
                simp -dsimp [k2, hi0, hw1, e1, e2, hp, Rf.cells_eq p]
                refine ⟨⟨by omega, call_pure (value_Compare_spec p.key q.key) (by simp) (by simp) ?_⟩, fun g => absurd g (by omega)⟩
                simp -dsimp [hw, gset_gR, take_next hqi]
                refine ⟨fun k3 => hno fun g => absurd ((hat.1 g).2.2 p hi0 hp) (by omega), fun k3 => ⟨hlt, hq.succ (hat.2 ⟨k1, k2, fun p' _ hp' => by rw [hp] at hp'; cases hp'; exact k3⟩)⟩⟩
              · simp -dsimp [k2, hi0, hw, gset_gR, take_next hqi]
                exact fun _ => ⟨hlt, hq.succ (hat.2 ⟨k1, k2, fun p h => absurd h hi0⟩)⟩
            · simp -dsimp [k2]
              exact hno fun g => k2 (hat.1 g).2.1
          · simp -dsimp [k1]
            exact hno fun g => k1 (hat.1 g).1
        · have hall : Upto e.refs.length (RefAt h es e) := fun j hj => hq j (by omega)
          rw [List.take_of_length_le hge]
          by_cases hs : spots es e.txn = []
          · simp -dsimp [gPi_nil hs]
            refine loop_idx [] [] 0 (fun i => ⟨[(102, vi i), (101, vi 0), (100, .nil 4), (0, .iv (ckIV h a es)), (3, .ptr 3 0), (5, .mpr 43)],
              [(43, .map skO (gR e.table e.refs)), (3, .box (e.cells.map .iv))]⟩) (fun _ => True) ?_ trivial ?_
            · simp -dsimp [ckIV]
            · intro j hj _
              obtain rfl : j = 0 := by omega
              simp -dsimp [hist_checker_saw_l21]
              exact hS.2 ⟨h2, hall, by rw [hs]; simp⟩
          · simp -dsimp [gPi_some hs]
            refine loop_idx [] [10] (spots es e.txn).length (fun i => ⟨[(102, vi i), (101, vi (spots es e.txn).length), (100, .iv (.lst 4 ((spots es e.txn).map obC))), (0, .iv (ckIV h a es)), (3, .ptr 3 0), (5, .mpr 43)],
              [(43, .map skO (gR e.table e.refs)), (3, .box (e.cells.map .iv))]⟩) (fun i => ∀ o, o ∈ (spots es e.txn).take i → o.1 = e.table → (lastRef e.refs o.2).getD ⟨0, 0⟩ = ⟨e.txn, wrote es e.txn o.1 o.2⟩) ?_ ?_ ?_
            · simp -dsimp [ckIV]
            · simp
            · intro j hj hqj
              have hsl := spots_le es e.txn
              simp -dsimp [hist_checker_saw_l21, ckIV]
              refine ⟨fun hjlt => ?_, fun hjge => ?_⟩
              · obtain ⟨o, ho⟩ := some_at hjlt
                have hwj := wrap_in (n := (j : Int) + 1) (by omega)
                by_cases c : o.1 = e.table
                · simp -dsimp [ho, obC, c, hwj, take_next ho]
                  constructor
                  · intro g g2
                    have g3 := (hS.1 g2).2.2 o (List.mem_of_getElem? ho) c
                    rw [c] at g3
                    rw [g3] at g
                    simp at g
                  · intro g1 g2
                    refine ⟨hjlt, ?_⟩
                    rintro a' b (g | rfl) rfl
                    · exact hqj _ g rfl
                    · exact Vs.eq_iff.2 ⟨g1, g2⟩
                · simp -dsimp [ho, obC, c, hwj, take_next ho]
                  refine ⟨hjlt, ?_⟩
                  rintro a' b (g | rfl) rfl
                  · exact hqj _ g rfl
                  · exact absurd rfl c
              · rw [List.take_of_length_le hjge] at hqj
                exact hS.2 ⟨h2, hall, hqj⟩
    · have hno : ¬SawOk h es e := by
        rintro ⟨⟨g0, t, g, _⟩, _⟩
        have := (List.getElem?_eq_some_iff.1 g).1
        omega
      by_cases t0 : 0 ≤ e.table
      · have t1 : ¬e.table < h.tables.length := fun g => hT ⟨t0, g⟩
        simp -dsimp [hist_checker_saw, ckIV, Ev.av, k4, t0, t1, hno]
      · simp -dsimp [hist_checker_saw, ckIV, Ev.av, k4, t0, hno]
  · simp -dsimp [hist_checker_saw, ckIV, Ev.av, k4]
end Go.Rt
end

/- Contracts: the checker's frame and write. -/
section
namespace Go.Rt
open Go.Vm
/-- rule 2, as the checker asks -/
def CkFrame (es : List Ev) (e : Ev) : Prop := 1 ≤ e.txn ∧ 1 ≤ e.kind ∧ e.kind ≤ 6 ∧ (e.kind = 1 → stOf es e.txn = 0 ∧ 1 ≤ e.level ∧ e.level ≤ 5) ∧ (e.kind ≠ 1 → stOf es e.txn = 1)
instance (es : List Ev) (e : Ev) : Decidable (CkFrame es e) := by unfold CkFrame; exact inferInstance
def esF (es : List Ev) (e : Ev) : List Ev := if CkFrame es e then es ++ [e] else es
theorem hist_frame_spec (h : Hs) (es b c : List Ev) (e : Ev) : GSpec prog false n_hist_checker_frame [.ptr 1000 0, e.av] (ckH h es b c) (vb (ofP (CkFrame es e))) (ckH h (esF es e) b c) := by
  refine gspecM1 hist_checker_frame_is (by simp) (by decide) rfl rfl ?_
  by_cases hF : CkFrame es e
  · have hE : esF es e = es ++ [e] := if_pos hF
    rw [hE]
    obtain ⟨h1, h2, h3, h4, h5⟩ := id hF
    have n1 : ¬e.txn < 1 := by omega
    have n2 : ¬e.kind < 1 := by omega
    have n3 : ¬6 < e.kind := by omega
    by_cases k1 : e.kind = 1
    · obtain ⟨g1, g2, g3⟩ := h4 k1
      have n4 : ¬e.level < 1 := by omega
      have n5 : ¬5 < e.level := by omega
      have hg := gset_gS (es := es) (e := e) (.inl k1)
      rw [k1] at hg
      simp -dsimp [hist_checker_frame, Ev.av, n1, n2, n3, k1, g1, n4, n5, hg, hF]
    · have g1 := h5 k1
      by_cases k5 : e.kind = 5
      · have hg := gset_gS (es := es) (e := e) (.inr (.inl k5))
        rw [k5] at hg
        simp -dsimp [hist_checker_frame, Ev.av, n1, n2, n3, k1, g1, k5, hg, hF]
      · by_cases k6 : e.kind = 6
        · have hg := gset_gS (es := es) (e := e) (.inr (.inr k6))
          rw [k6] at hg
          simp -dsimp [hist_checker_frame, Ev.av, n1, n2, n3, k1, g1, k6, hg, hF]
        · have hg := gS_same (es := es) (e := e) (by omega)
          simp -dsimp [hist_checker_frame, Ev.av, n1, n2, n3, k1, g1, k5, k6, hg, hF]
  · have hE : esF es e = es := if_neg hF
    rw [hE]
    simp -dsimp [hist_checker_frame, Ev.av, hF]
    unfold CkFrame at hF
    grind
/-- rule 3, as the checker asks ahead of its writing -/
def CkW (h : Hs) (es : List Ev) (e : Ev) : Prop := e.kind = 3 → KeyOk h e.table e.key ∧ e.n = wrote es e.txn e.table e.key + 1
noncomputable def esW (h : Hs) (es : List Ev) (e : Ev) : List Ev := @ite _ (CkW h es e) (Classical.propDecidable _) (es ++ [e]) es
set_option maxRecDepth 5000 in
set_option maxHeartbeats 4000000 in
theorem hist_write_spec {h : Hs} (ht : h.TbsOk) (a es : List Ev) (hes : es.length < 2 ^ 32) (e : Ev) : GSpec prog false n_hist_checker_write [.ptr 1000 0, e.av] (ckH h a es es) (vb (ofP (e.kind = 3 → WriteOk h es e))) (ckH h a (esW h es e) (esW h es e)) := by
  refine gspecM1 hist_checker_write_is (by simp) (by decide) rfl rfl ?_
  by_cases k3 : e.kind = 3
  · simp -dsimp [hist_checker_write, Ev.av, k3]
    refine call_pure (hist_key_spec ht a es e.table e.key) (by simp [ckIV]; rfl) (by simp [ckIV]) ?_
    by_cases hK : KeyOk h e.table e.key
    · have hwl := wrote_le es e.txn e.table e.key
      have hw := wrap_in (n := (wrote es e.txn e.table e.key : Int) + 1) (by omega)
      by_cases hn : e.n = wrote es e.txn e.table e.key + 1
      · have hE : esW h es e = es ++ [e] := if_pos fun g => ⟨hK, hn⟩
        rw [hE]
        obtain ⟨h0, t, htt, hr, hc⟩ := id hK
        have hgW := gset_gW (es := es) (e := e) k3
        have hWO : WriteOk h es e ↔ e.row = [] ∨ (Fits t e.row ∧ e.row[0]? = some e.key) := by
          unfold WriteOk
          constructor
          · rintro ⟨_, _, g | ⟨t', g2, g3, g4⟩⟩
            · exact .inl g
            · rw [htt] at g2; cases g2; exact .inr ⟨g3, g4⟩
          · rintro (g | ⟨g3, g4⟩)
            · exact ⟨hK, hn, .inl g⟩
            · exact ⟨hK, hn, .inr ⟨t, htt, g3, g4⟩⟩
        have hw1 : IntKind.i64.wrap 1 = 1 := by rw [IntKind.wrap_i64]; omega
        by_cases h1 : wrote es e.txn e.table e.key = 0
        · have hn1 : e.n = 1 := by omega
          rw [h1] at hgW
          have hgP := gset_gP (es := es) (e := e) k3 hn1
          by_cases hs : spots es e.txn = []
          · rw [hs] at hgP
            by_cases hrow : e.row = []
            · simp -dsimp [hK, hw1, hn1, h1, gP_nil hs, hrow, hWO]
              exact ⟨hgW, hgP⟩
            · obtain ⟨v, hv⟩ : ∃ v, e.row[0]? = some v := some_at (List.length_pos_iff.2 hrow)
              simp -dsimp [hK, hw1, hn1, h1, gP_nil hs, hrow, h0, htt]
              repeat' apply And.intro
              all_goals try omega
              all_goals
                refine call_pure (row_Fits_spec t e.row) (by simp [tbAV, rowIV, rowC]) (by simp [tbAV]) ?_
                by_cases hf : Fits t e.row
                · simp -dsimp [hf, hv, hWO, hrow, ofP_eq, Vl.eq_iff]
                  exact ⟨hgW, hgP⟩
                · simp -dsimp [hf, hWO, hrow]
                  exact ⟨hgW, hgP⟩
          · have hsl := spots_le es e.txn
            by_cases hrow : e.row = []
            · simp -dsimp [hK, hw1, hn1, h1, gP_some hs, hrow, hWO]
              exact ⟨by omega, by omega, hgW, hgP⟩
            · obtain ⟨v, hv⟩ : ∃ v, e.row[0]? = some v := some_at (List.length_pos_iff.2 hrow)
              simp -dsimp [hK, hw1, hn1, h1, gP_some hs, hrow, h0, htt]
              repeat' apply And.intro
              all_goals try omega
              all_goals
                refine call_pure (row_Fits_spec t e.row) (by simp [tbAV, rowIV, rowC]) (by simp [tbAV]) ?_
                by_cases hf : Fits t e.row
                · simp -dsimp [hf, hv, hWO, hrow, ofP_eq, Vl.eq_iff]
                  exact ⟨hgW, hgP⟩
                · simp -dsimp [hf, hWO, hrow]
                  exact ⟨hgW, hgP⟩
        · have hgP := gP_same (es := es) (e := e) (by omega)
          have hn1 : ¬((wrote es e.txn e.table e.key : Int) + 1 = 1) := by omega
          by_cases hrow : e.row = []
          · simp -dsimp [hK, hw, hn, hn1, hrow, hWO]
            exact ⟨hgW, hgP.symm⟩
          · obtain ⟨v, hv⟩ : ∃ v, e.row[0]? = some v := some_at (List.length_pos_iff.2 hrow)
            simp -dsimp [hK, hw, hn, hn1, hrow, h0, htt]
            repeat' apply And.intro
            all_goals
              refine call_pure (row_Fits_spec t e.row) (by simp [tbAV, rowIV, rowC]) (by simp [tbAV]) ?_
              by_cases hf : Fits t e.row
              · simp -dsimp [hf, hv, hWO, hrow, ofP_eq, Vl.eq_iff]
                exact ⟨hgW, hgP.symm⟩
              · simp -dsimp [hf, hWO, hrow]
                exact ⟨hgW, hgP.symm⟩
      · have hE : esW h es e = es := if_neg fun g => hn (g k3).2
        rw [hE]
        simp -dsimp [hK, hw, hn]
        exact fun g => hn g.2.1
    · have hE : esW h es e = es := if_neg fun g => hK (g k3).1
      rw [hE]
      simp -dsimp [hK]
      exact fun g => hK g.1
  · have hE : esW h es e = es ++ [e] := if_pos fun g => absurd g k3
    rw [hE]
    simp -dsimp [hist_checker_write, Ev.av, k3, gW_same k3, gP_same (fun g => k3 g.1)]
end Go.Rt
end
