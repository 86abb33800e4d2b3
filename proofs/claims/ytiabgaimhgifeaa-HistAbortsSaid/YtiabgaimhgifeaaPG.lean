/- Contracts of functions of the program, and what they lean on. Conditions: those of each theorem. -/
import Derived.Test.YtiabgaimhgifeaaPF

set_option linter.unusedVariables false
set_option linter.unusedSimpArgs false

/- Histories cut short, or with one who gives up. No program in sight. -/
section
namespace Go.Rt
open Go.Vm

/-- orders of some transactions alone -/
def keepOne (p : Int → Bool) (o : Ins) : List Ins := if o.txns.filter p = [] then [] else [⟨o.table, o.key, o.txns.filter p⟩]
def keepOrder (p : Int → Bool) (os : List Ins) : List Ins := os.flatMap (keepOne p)
@[simp] theorem keepOrder_nil (p : Int → Bool) : keepOrder p [] = [] := rfl
theorem keepOrder_snoc (p : Int → Bool) (os : List Ins) (o : Ins) : keepOrder p (os ++ [o]) = keepOrder p os ++ keepOne p o := by simp [keepOrder]
theorem keepOrder_len (p : Int → Bool) (os : List Ins) : (keepOrder p os).length ≤ os.length := by
  induction os using rev_ind with
  | nil => simp
  | snoc os o ih =>
    rw [keepOrder_snoc, List.length_append, List.length_append]
    have : (keepOne p o).length ≤ 1 := by unfold keepOne; split <;> simp
    simp only [List.length_singleton]; omega
theorem keepOrder_mem {p : Int → Bool} {os : List Ins} {x : Ins} : x ∈ keepOrder p os ↔ ∃ o, o ∈ os ∧ o.txns.filter p ≠ [] ∧ x = ⟨o.table, o.key, o.txns.filter p⟩ := by
  unfold keepOrder keepOne
  rw [List.mem_flatMap]
  constructor
  · rintro ⟨o, h1, h2⟩
    split at h2
    · cases h2
    · exact ⟨o, h1, by assumption, by simpa using h2⟩
  · rintro ⟨o, h1, h2, rfl⟩
    exact ⟨o, h1, by rw [if_neg h2]; simp⟩
/-- at which place of which order -/
theorem keepOrder_at {p : Int → Bool} {os : List Ins} : ∀ {i : Nat} {x : Ins}, (keepOrder p os)[i]? = some x → ∃ (j : Nat) (o : Ins), os[j]? = some o ∧ o.txns.filter p ≠ [] ∧ x = ⟨o.table, o.key, o.txns.filter p⟩ ∧
    ∀ y, y ∈ (keepOrder p os).take i → ∃ (j' : Nat) (o' : Ins), j' < j ∧ os[j']? = some o' ∧ y.table = o'.table ∧ y.key = o'.key := by
  induction os using rev_ind with
  | nil => intro i x h; simp at h
  | snoc os o ih =>
    intro i x h
    rw [keepOrder_snoc] at h
    by_cases hl : i < (keepOrder p os).length
    · rw [List.getElem?_append_left hl] at h
      obtain ⟨j, o1, h1, h2, h3, h4⟩ := ih h
      have hj := (List.getElem?_eq_some_iff.1 h1).1
      refine ⟨j, o1, by rw [List.getElem?_append_left hj]; exact h1, h2, h3, fun y hy => ?_⟩
      rw [keepOrder_snoc, List.take_append_of_le_length (by omega)] at hy
      obtain ⟨j', o', g1, g2, g3⟩ := h4 y hy
      exact ⟨j', o', g1, by rw [List.getElem?_append_left (by omega)]; exact g2, g3⟩
    · rw [List.getElem?_append_right (by omega)] at h
      unfold keepOne at h
      split at h
      · simp at h
      · rename_i hne
        have hi : i = (keepOrder p os).length := by
          have := (List.getElem?_eq_some_iff.1 h).1; simp at this; omega
        subst hi
        simp only [Nat.sub_self, List.getElem?_cons_zero, Option.some.injEq] at h
        refine ⟨os.length, o, by simp, hne, h.symm, fun y hy => ?_⟩
        rw [keepOrder_snoc, List.take_left] at hy
        obtain ⟨o1, g1, g2, rfl⟩ := keepOrder_mem.1 hy
        obtain ⟨j', hj'⟩ := List.getElem?_of_mem g1
        have hjl := (List.getElem?_eq_some_iff.1 hj').1
        exact ⟨j', o1, hjl, by rw [List.getElem?_append_left hjl]; exact hj', rfl, rfl⟩

theorem take_filter {l : List Int} {p : Int → Bool} : ∀ {k : Nat} {t : Int}, (l.filter p)[k]? = some t → t ∈ (l.filter p).take k → ∃ i j : Nat, i < j ∧ l[i]? = some t ∧ l[j]? = some t := by
  induction l using rev_ind with
  | nil => intro k t h; simp at h
  | snoc l x ih =>
    intro k t h hm
    rw [List.filter_append] at h hm
    by_cases hl : k < (l.filter p).length
    · rw [List.getElem?_append_left hl] at h
      rw [List.take_append_of_le_length (by omega)] at hm
      obtain ⟨i, j, h1, h2, h3⟩ := ih h hm
      have hj := (List.getElem?_eq_some_iff.1 h3).1
      exact ⟨i, j, h1, by rw [List.getElem?_append_left (by omega)]; exact h2, by rw [List.getElem?_append_left hj]; exact h3⟩
    · rw [List.getElem?_append_right (by omega)] at h
      have hx : p x = true := by
        cases hp : p x with
        | true => rfl
        | false => rw [List.filter_cons_of_neg (by simp [hp])] at h; simp at h
      rw [List.filter_cons_of_pos hx] at h
      have hk : k = (l.filter p).length := by
        have := (List.getElem?_eq_some_iff.1 h).1; simp at this; omega
      subst hk
      simp only [Nat.sub_self, List.getElem?_cons_zero, Option.some.injEq] at h
      subst h
      rw [List.take_left] at hm
      obtain ⟨i, hi⟩ := List.getElem?_of_mem (List.mem_filter.1 hm).1
      have hil := (List.getElem?_eq_some_iff.1 hi).1
      exact ⟨i, l.length, hil, by rw [List.getElem?_append_left hil]; exact hi, by simp⟩

/-- other events, and the orders of some transactions alone -/
theorem kept_well {h : Hs} (hw : WellP h) {es : List Ev} (he : Events h es) {p : Int → Bool}
    (h1 : ∀ o, o ∈ h.order → ∀ t, t ∈ o.txns → p t = true → ended es t = 5 ∧ wrote es t o.table o.key ≠ 0)
    (h2 : ∀ e, e ∈ es → e.kind = 3 → ended es e.txn = 5 → ∃ o, o ∈ h.order ∧ o.isOf e.table e.key ∧ e.txn ∈ o.txns ∧ p e.txn = true) : WellP ⟨h.tables, es, keepOrder p h.order⟩ := by
  have hap := @well_apart h hw
  rw [well_iff] at hw ⊢
  refine ⟨hw.1, he, fun e hm k3 k5 => ?_, fun i hi x hx => ?_⟩
  · obtain ⟨o, g1, g2, g3, g4⟩ := h2 e hm k3 k5
    have hne : e.txn ∈ o.txns.filter p := List.mem_filter.2 ⟨g3, g4⟩
    exact ⟨_, keepOrder_mem.2 ⟨o, g1, List.ne_nil_of_mem hne, rfl⟩, g2, hne⟩
  · obtain ⟨j, o, g1, g2, rfl, g4⟩ := keepOrder_at hx
    have hom := List.mem_of_getElem? g1
    refine ⟨fun y hy hk => ?_, fun k hk t ht => ?_, List.length_pos_iff.2 g2⟩
    · obtain ⟨j', o', f1, f2, f3, f4⟩ := g4 y hy
      have := hap f2 g1 ⟨by rw [← f3]; exact hk.1, by rw [← f4]; exact hk.2⟩
      omega
    · have ht2 := List.mem_filter.1 (List.mem_of_getElem? ht)
      obtain ⟨q1, q2⟩ := h1 o hom t ht2.1 ht2.2
      refine ⟨q1, q2, fun hm => ?_⟩
      obtain ⟨a, b, f1, f2, f3⟩ := take_filter ht hm
      exact ((hw.2.2.2 j (List.getElem?_eq_some_iff.1 g1).1 o g1).2.1 b (List.getElem?_eq_some_iff.1 f3).1 t f3).2.2 (mem_take.2 ⟨a, f1, f2⟩)

theorem events_take {h : Hs} {es : List Ev} (he : Events h es) (m : Nat) : Events h (es.take m) := by
  intro i hi e hg
  rw [List.length_take] at hi
  rw [List.getElem?_take, if_pos (by omega)] at hg
  rw [List.take_take, Nat.min_eq_left (by omega)]
  exact he i (by omega) e hg
theorem ended_take {es : List Ev} {m : Nat} {t : Int} (h : ended (es.take m) t ≠ 0) : ended es t = ended (es.take m) t := by
  have hn : ¬NoEnd (es.take m) t := fun g => h (noEnd_ended g)
  have := ended_yes (r := es.drop m) hn
  rwa [List.take_append_drop] at this
theorem wrote_append (a b : List Ev) (t tab : Int) (k : Vl) : wrote (a ++ b) t tab k = wrote a t tab k + wrote b t tab k := by
  unfold wrote; rw [List.filter_append, List.length_append]
theorem wrote_take_ended {h : Hs} {es : List Ev} (he : Events h es) {m : Nat} {t : Int} (hE : ended (es.take m) t ≠ 0) (tab : Int) (k : Vl) : wrote es t tab k = wrote (es.take m) t tab k := by
  have hn : ¬NoEnd (es.take m) t := fun g => hE (noEnd_ended g)
  have h0 : wrote (es.drop m) t tab k = 0 := by
    apply Classical.byContradiction
    intro g
    obtain ⟨x, hx, _, hxt, _⟩ := wrote_pos.1 (Nat.pos_of_ne_zero g)
    obtain ⟨j, hj⟩ := List.getElem?_of_mem hx
    rw [List.getElem?_drop] at hj
    have hf := (he (m + j) (List.getElem?_eq_some_iff.1 hj).1 x hj).1.2.2.2.1
    rw [hxt] at hf
    exact hn (hf.take (by omega))
  have := wrote_append (es.take m) (es.drop m) t tab k
  rwa [List.take_append_drop, h0, Nat.add_zero] at this
/-- a beginning of a well formed history -/
theorem begins_well {h : Hs} (hw : WellP h) (m : Nat) : WellP ⟨h.tables, h.events.take m, keepOrder (fun t => decide (ended (h.events.take m) t = 5)) h.order⟩ := by
  obtain ⟨w1, w2, w3, w4⟩ := (well_iff h).1 hw
  refine kept_well hw (events_take w2 m) (fun o ho t ht hp => ?_) (fun e he k3 k5 => ?_)
  · have h5 : ended (h.events.take m) t = 5 := by simpa using hp
    obtain ⟨i, hi⟩ := List.getElem?_of_mem ho
    obtain ⟨k, hk⟩ := List.getElem?_of_mem ht
    obtain ⟨q1, q2, _⟩ := (w4 i (List.getElem?_eq_some_iff.1 hi).1 o hi).2.1 k (List.getElem?_eq_some_iff.1 hk).1 t hk
    exact ⟨h5, by rw [← wrote_take_ended w2 (by omega)]; exact q2⟩
  · have h5 : ended h.events e.txn = 5 := by rw [ended_take (m := m) (by omega)]; exact k5
    obtain ⟨o, g1, g2, g3⟩ := w3 e (List.mem_of_mem_take he) k3 h5
    exact ⟨o, g1, g2, g3, by simpa using k5⟩
end Go.Rt
end

/- Histories in which one who committed had been ended instead. No program in sight. -/
section
namespace Go.Rt
open Go.Vm

/-- a commit that is none -/
def Ev.noCommit (txn : Int) (e : Ev) : Ev := if e.txn = txn ∧ e.kind = 5 then { e with kind := 6 } else e
section
variable (txn : Int) (e : Ev)
@[simp] theorem nc_txn : (e.noCommit txn).txn = e.txn := by unfold Ev.noCommit; split <;> rfl
@[simp] theorem nc_level : (e.noCommit txn).level = e.level := by unfold Ev.noCommit; split <;> rfl
@[simp] theorem nc_table : (e.noCommit txn).table = e.table := by unfold Ev.noCommit; split <;> rfl
@[simp] theorem nc_key : (e.noCommit txn).key = e.key := by unfold Ev.noCommit; split <;> rfl
@[simp] theorem nc_frm : (e.noCommit txn).frm = e.frm := by unfold Ev.noCommit; split <;> rfl
@[simp] theorem nc_n : (e.noCommit txn).n = e.n := by unfold Ev.noCommit; split <;> rfl
@[simp] theorem nc_row : (e.noCommit txn).row = e.row := by unfold Ev.noCommit; split <;> rfl
@[simp] theorem nc_pred : (e.noCommit txn).pred = e.pred := by unfold Ev.noCommit; split <;> rfl
@[simp] theorem nc_refs : (e.noCommit txn).refs = e.refs := by unfold Ev.noCommit; split <;> rfl
theorem nc_kind : (e.noCommit txn).kind = if e.txn = txn ∧ e.kind = 5 then 6 else e.kind := by unfold Ev.noCommit; split <;> rfl
theorem nc_is {k : Int} (h5 : k ≠ 5) (h6 : k ≠ 6) : (e.noCommit txn).kind = k ↔ e.kind = k := by rw [nc_kind]; split <;> omega
theorem nc_end : ((e.noCommit txn).kind = 5 ∨ (e.noCommit txn).kind = 6) ↔ (e.kind = 5 ∨ e.kind = 6) := by rw [nc_kind]; split <;> omega
theorem nc_isW (t tab : Int) (k : Vl) : (e.noCommit txn).isW t tab k = e.isW t tab k := by
  rw [Bool.eq_iff_iff, Ev.isW_iff, Ev.isW_iff, nc_is txn e (by decide) (by decide)]
  simp
theorem nc_ends (t : Int) : (e.noCommit txn).ends t ↔ e.ends t := by unfold Ev.ends; rw [nc_end, nc_txn]
end
def ncs (txn : Int) (es : List Ev) : List Ev := es.map (Ev.noCommit txn)
section
variable (txn : Int) (es : List Ev)
theorem ncs_wrote (t tab : Int) (k : Vl) : wrote (ncs txn es) t tab k = wrote es t tab k := by
  unfold wrote ncs
  rw [List.filter_map, List.length_map]
  congr 1
  exact List.filter_congr fun e _ => nc_isW txn e t tab k
theorem ncs_begun (t : Int) : Begun (ncs txn es) t ↔ Begun es t := by
  unfold Begun ncs
  constructor
  · rintro ⟨x, hx, h⟩
    obtain ⟨y, hy, rfl⟩ := List.mem_map.1 hx
    exact ⟨y, hy, by simpa using h⟩
  · rintro ⟨y, hy, h⟩
    exact ⟨_, List.mem_map_of_mem hy, by simpa using h⟩
theorem ncs_noEnd (t : Int) : NoEnd (ncs txn es) t ↔ NoEnd es t := by
  rw [noEnd_iff, noEnd_iff]
  unfold ncs
  constructor
  · intro h y hy g; exact h _ (List.mem_map_of_mem hy) ((nc_ends txn y t).2 g)
  · intro h x hx g
    obtain ⟨y, hy, rfl⟩ := List.mem_map.1 hx
    exact h y hy ((nc_ends txn y t).1 g)
theorem ncs_ended (t : Int) : ended (ncs txn es) t = if t = txn ∧ ended es t = 5 then 6 else ended es t := by
  unfold ncs
  induction es with
  | nil => simp [ended]
  | cons e r ih =>
    rw [List.map_cons, ended, ended]
    by_cases h : e.ends t
    · rw [if_pos ((nc_ends txn e t).2 h), if_pos h, nc_kind, h.1]
    · rw [if_neg (fun g => h ((nc_ends txn e t).1 g)), if_neg h, ih]
theorem ncs_five (t : Int) : ended (ncs txn es) t = 5 ↔ t ≠ txn ∧ ended es t = 5 := by
  rw [ncs_ended]; split <;> omega
theorem ncs_ver (tab : Int) (k : Vl) (v : Vs) : VerOk (ncs txn es) tab k v ↔ VerOk es tab k v := by unfold VerOk; rw [ncs_wrote]
theorem ncs_event (h : Hs) (e : Ev) : EventOk h (ncs txn es) (e.noCommit txn) ↔ EventOk h es e := by
  have k1 := nc_is txn e (k := 1) (by decide) (by decide)
  have k2 := nc_is txn e (k := 2) (by decide) (by decide)
  have k3 := nc_is txn e (k := 3) (by decide) (by decide)
  have k4 := nc_is txn e (k := 4) (by decide) (by decide)
  have hr : (1 ≤ (e.noCommit txn).kind ∧ (e.noCommit txn).kind ≤ 6) ↔ (1 ≤ e.kind ∧ e.kind ≤ 6) := by rw [nc_kind]; split <;> omega
  have hf : FrameOk (ncs txn es) (e.noCommit txn) ↔ FrameOk es e := by
    unfold FrameOk
    rw [ncs_noEnd, ncs_begun, nc_txn, nc_level, k1, ne_eq, k1]
    constructor
    · rintro ⟨a1, a2, a3, a4⟩; exact ⟨a1, (hr.1 ⟨a2, a3⟩).1, (hr.1 ⟨a2, a3⟩).2, a4⟩
    · rintro ⟨a1, a2, a3, a4⟩; exact ⟨a1, (hr.2 ⟨a2, a3⟩).1, (hr.2 ⟨a2, a3⟩).2, a4⟩
  have hrd : ReadOk h (ncs txn es) (e.noCommit txn) ↔ ReadOk h es e := by
    unfold ReadOk VerOk
    simp only [nc_table, nc_key, nc_txn, nc_frm, ncs_wrote]
  have hwr : WriteOk h (ncs txn es) (e.noCommit txn) ↔ WriteOk h es e := by
    unfold WriteOk
    simp only [nc_table, nc_key, nc_txn, nc_n, nc_row, ncs_wrote]
  have hra : ∀ i, RefAt h (ncs txn es) (e.noCommit txn) i ↔ RefAt h es e i := fun i => by
    unfold RefAt VerOk
    simp only [nc_table, nc_refs, ncs_wrote]
  have hsee : ∀ x, SeenAt (ncs txn es) (e.noCommit txn) (x.noCommit txn) ↔ SeenAt es e x := fun x => by
    unfold SeenAt
    rw [nc_is txn x (by decide) (by decide)]
    simp only [nc_txn, nc_table, nc_refs, nc_key, ncs_wrote]
  have hpr : PredOk h (ncs txn es) (e.noCommit txn) ↔ PredOk h es e := by
    unfold PredOk
    rw [nc_table, nc_pred, nc_refs]
    refine and_congr_right fun _ => and_congr ?_ ?_
    · exact ⟨fun g i hi => (hra i).1 (g i hi), fun g i hi => (hra i).2 (g i hi)⟩
    · constructor
      · intro g x hx; exact (hsee x).1 (g _ (List.mem_map_of_mem hx))
      · intro g x hx
        obtain ⟨y, hy, rfl⟩ := List.mem_map.1 hx
        exact (hsee y).2 (g y hy)
  unfold EventOk
  rw [hf, k2, k3, k4, hrd, hwr, hpr]
theorem ncs_events {h : Hs} (he : Events h es) : Events h (ncs txn es) := by
  intro i hi e hg
  unfold ncs at hi hg
  rw [List.length_map] at hi
  rw [List.getElem?_map] at hg
  obtain ⟨y, hy, rfl⟩ := Option.map_eq_some_iff.1 hg
  have : (List.map (Ev.noCommit txn) es).take i = ncs txn (es.take i) := by unfold ncs; rw [List.map_take]
  show EventOk h ((List.map (Ev.noCommit txn) es).take i) _
  rw [this]
  exact (ncs_event txn (es.take i) h y).2 (he i hi y hy)
end

theorem keepOrder_id {p : Int → Bool} {os : List Ins} (h : ∀ o, o ∈ os → o.txns ≠ [] ∧ ∀ t, t ∈ o.txns → p t = true) : keepOrder p os = os := by
  induction os using rev_ind with
  | nil => rfl
  | snoc os o ih =>
    rw [keepOrder_snoc, ih fun x hx => h x (List.mem_append_left _ hx)]
    obtain ⟨h1, h2⟩ := h o (by simp)
    have hf : o.txns.filter p = o.txns := List.filter_eq_self.2 h2
    unfold keepOne
    rw [hf, if_neg h1]

section
variable {h : Hs} {txn : Int}
theorem aborts_well (hw : WellP h) : WellP ⟨h.tables, ncs txn h.events, keepOrder (fun t => decide (t ≠ txn)) h.order⟩ := by
  obtain ⟨w1, w2, w3, w4⟩ := (well_iff h).1 hw
  refine kept_well hw (ncs_events txn h.events w2) (fun o ho t ht hp => ?_) (fun e he k3 k5 => ?_)
  · have hne : t ≠ txn := by simpa using hp
    obtain ⟨i, hi⟩ := List.getElem?_of_mem ho
    obtain ⟨k, hk⟩ := List.getElem?_of_mem ht
    obtain ⟨q1, q2, _⟩ := (w4 i (List.getElem?_eq_some_iff.1 hi).1 o hi).2.1 k (List.getElem?_eq_some_iff.1 hk).1 t hk
    exact ⟨(ncs_five _ _ _).2 ⟨hne, q1⟩, by rw [ncs_wrote]; exact q2⟩
  · obtain ⟨y, hy, rfl⟩ := List.mem_map.1 he
    rw [nc_is txn y (by decide) (by decide)] at k3
    rw [nc_txn] at k5 ⊢
    obtain ⟨g1, g2⟩ := (ncs_five _ _ _).1 k5
    obtain ⟨o, f1, f2, f3⟩ := w3 y hy k3 g2
    exact ⟨o, f1, by rw [nc_table, nc_key]; exact f2, f3, by simpa using g1⟩
theorem with_well (hw : WellP h) : WellP ⟨h.tables, ncs txn h.events, h.order⟩ ↔ ¬∃ o, o ∈ h.order ∧ txn ∈ o.txns := by
  obtain ⟨w1, w2, w3, w4⟩ := (well_iff h).1 hw
  constructor
  · rintro g ⟨o, ho, ht⟩
    obtain ⟨i, hi⟩ := List.getElem?_of_mem ho
    obtain ⟨k, hk⟩ := List.getElem?_of_mem ht
    have := (((well_iff _).1 g).2.2.2 i (List.getElem?_eq_some_iff.1 hi).1 o hi).2.1 k (List.getElem?_eq_some_iff.1 hk).1 txn hk
    exact ((ncs_five _ _ _).1 this.1).1 rfl
  · intro g
    have hk : keepOrder (fun t => decide (t ≠ txn)) h.order = h.order := keepOrder_id fun o ho => by
      obtain ⟨i, hi⟩ := List.getElem?_of_mem ho
      refine ⟨List.length_pos_iff.1 (w4 i (List.getElem?_eq_some_iff.1 hi).1 o hi).2.2, fun t ht => ?_⟩
      simp only [ne_eq, decide_not, Bool.not_eq_eq_eq_not, Bool.not_true, decide_eq_false_iff_not]
      rintro rfl
      exact g ⟨o, ho, ht⟩
    have := aborts_well (txn := txn) hw
    rwa [hk] at this
theorem spoilt_well (hw : WellP h) : WellP ⟨h.tables, ncs txn h.events, []⟩ ↔ keepOrder (fun t => decide (t ≠ txn)) h.order = [] := by
  have ha := aborts_well (txn := txn) hw
  constructor
  · intro g
    apply Classical.byContradiction
    intro hne
    obtain ⟨x, hx⟩ := List.exists_mem_of_ne_nil _ hne
    obtain ⟨i, hi⟩ := List.getElem?_of_mem hx
    obtain ⟨o, h1, h2, rfl⟩ := keepOrder_mem.1 hx
    obtain ⟨t, ht⟩ := List.exists_mem_of_ne_nil _ h2
    obtain ⟨e, a1, a2, a3, _⟩ := wrote_of ha hi ht
    obtain ⟨o', b1, _⟩ := ((well_iff _).1 g).2.2.1 e a1 a2 a3
    cases b1
  · intro g
    rw [g] at ha; exact ha
end
end Go.Rt
end
