/- Contracts of functions of the program, and what they lean on. Conditions: those of each theorem. -/
import Derived.Test.YtahalmofaboejaaPE
import Derived.Test.YtahalmofaboejaaPC
import Derived.Test.YtahalmofaboejaaPD
import Derived.Test.YtahalmofaboejaaMD
import Derived.SizedLaws
import Derived.Test.YtahalmofaboejaaRows

set_option linter.unusedVariables false
set_option linter.unusedSimpArgs false

/- Contracts: whether a version changed what a predicate holds of. -/
section
namespace Go.Rt
open Go.Vm

theorem ok_Changes_1 : okFn prog n_order_Book_Changes_1 = true := by kernel_rfl
theorem rowB_len {es : List Ev} {table : Int} {k : Vl} {v : Vs} (hrow : RowsOk es) : ((rowB es table k v).getD []).length < 2 ^ 40 := by
  unfold rowB
  split
  · simp
  · cases h : lastB (Ev.isN v.txn table k v.n) es with
    | none => simp
    | some e => exact hrow e (lastB_some h).1 (isN_kind (lastB_some h).2)
set_option maxHeartbeats 4000000 in
theorem Changes_1_spec (es : List Ev) (os : List Ins) (table : Int) (k : Vl) {p : Pd} (hp : p.Ok) (v : Vs) (hrow : RowsOk es) :
    GSpec prog true n_order_Book_Changes_1 [v.av, .iv (.pt [bkIV es os]), .iv (.pt [ci table]), .iv (.pt k.cells), .iv (.pt p.cells)] [] (vb (hldB es table k p v)) [] := by
  refine gspec1 order_Book_Changes_1_is (by simp) (by decide) rfl ?_
  simp -dsimp [order_Book_Changes_1]
  refine call_newH (Row_spec es os table k v hrow) rfl (by simp) (by simp) (by simp) (by simp) ?_
  have hl := rowB_len (table := table) (k := k) (v := v) hrow
  have hp9 : p.cells.length = 9 := by rw [Pd.cells_eq]; rfl
  unfold hldB
  generalize (rowB es table k v).getD [] = r at *
  cases r with
  | nil =>
    simp -dsimp [rowC]
  | cons a b =>
    have hne : 0 < (rowC (a :: b)).length := by simp
    simp -dsimp
    have ht : List.take 9 (p.cells.map AV.iv) = p.cells.map AV.iv := List.take_of_length_le (by simp [hp9])
    refine ⟨by omega, ?_⟩
    refine call_pure (pred_Holds_spec hp (a :: b) (by omega)) (by simp [ht, Pd.av]) (by simp [Pd.av]) ?_
    simp -dsimp
theorem Changes_nil (table : Int) (k : Vl) (place : Int) (p : Pd) : GSpec prog true n_order_Book_Changes [nilP, vi table, k.av, vi place, p.av] [] (vb false) [] := by
  refine gspec1 order_Book_Changes_is (by simp) (by decide) rfl ?_
  simp -dsimp [order_Book_Changes, Pd.av_eq]
theorem chaB_pos (es : List Ev) (os : List Ins) (table : Int) (k : Vl) : 0 < (chaB es os table k).length := by
  unfold chaB; split <;> simp [chnI]
set_option maxHeartbeats 8000000 in
theorem Changes_spec (es : List Ev) (os : List Ins) (table : Int) (k : Vl) (place : Int) {p : Pd} (hp : p.Ok) (hrow : RowsOk es) (hc : (chaB es os table k).length < 2 ^ 42) :
    GSpec prog true n_order_Book_Changes [.iv (bkIV es os), vi table, k.av, vi place, p.av] [] (vb (chgB es os table k place p)) [] := by
  refine gspec1 order_Book_Changes_is (by simp) (by decide) rfl ?_
  have h1 := fun v => Changes_1_spec es os table k hp v hrow
  have hch := chain_spec es os table k
  have hres : chgB es os table k place p = if place < 1 ∨ (chaB es os table k).length ≤ place then false else hldB es table k p (((chaB es os table k)[(place - 1).toNat]?).getD ⟨0, 0⟩) != hldB es table k p (((chaB es os table k)[place.toNat]?).getD ⟨0, 0⟩) := rfl
  generalize chgB es os table k place p = res at *
  generalize chaB es os table k = l at *
  simp -dsimp [order_Book_Changes, Pd.av_eq, bkIV]
  refine call_newH hch rfl (by simp [bkIV]) (by simp) (by simp) (by simp) ?_
  by_cases p1 : place < 1
  · rw [if_pos (.inl p1)] at hres
    subst hres
    simp -dsimp [p1]
  · by_cases p2 : (l.length : Int) ≤ place
    · rw [if_pos (.inr p2)] at hres
      subst hres
      simp -dsimp [p1, p2]
    · obtain ⟨q, rfl⟩ : ∃ q : Nat, place = ((q + 1 : Nat) : Int) := ⟨(place - 1).toNat, by omega⟩
      obtain ⟨x, hx⟩ : ∃ x, l[q]? = some x := some_at (by omega)
      obtain ⟨y, hy⟩ : ∃ y, l[q + 1]? = some y := some_at (by omega)
      have hw := wrap_in (n := ((q + 1 : Nat) : Int) - 1) (by omega)
      have hq : ((q + 1 : Nat) : Int) - 1 = q := by omega
      rw [if_neg (by omega), hq, Int.toNat_natCast, Int.toNat_natCast, hx, hy] at hres
      rw [hq] at hw
      subst hres
      have p1' : ¬((q : Int) + 1 < 1) := by omega
      have p2' : ¬((l.length : Int) ≤ (q : Int) + 1) := by omega
      have p0 : (0 : Int) ≤ (q : Int) + 1 := by omega
      have hw' : IntKind.i64.wrap (q : Int) = q := hw
      simp -dsimp [p1', p2', p0, hw', hx, hy, setRange]
      refine ⟨⟨ok_Changes_1, call_purev (h1 x) (by simp) (by simp [bkIV, Pd.cells_eq]) (by simp) ?_⟩, ?_⟩
      · simp -dsimp [setRange]
        refine ⟨ok_Changes_1, call_purev (h1 y) (by simp) (by simp [bkIV, Pd.cells_eq]) (by simp) ?_⟩
        simp -dsimp
      · refine ⟨ok_Changes_1, call_purev (h1 x) (by simp) (by simp [bkIV, Pd.cells_eq]) (by simp) ?_⟩
        simp -dsimp
        refine ⟨ok_Changes_1, call_purev (h1 y) (by simp) (by simp [bkIV, Pd.cells_eq]) (by simp) ?_⟩
        simp -dsimp
end Go.Rt
end

/- What a well formed history is like: its writes, its beginnings, its rows. -/
section
namespace Go.Rt
open Go.Vm

theorem lastB_uniq {α : Type} {p : α → Bool} {l : List α} (h : ∀ (i j : Nat) (a b : α), l[i]? = some a → l[j]? = some b → p a = true → p b = true → i = j) : lastB p l = l.find? p := by
  cases hf : l.find? p with
  | none =>
    rw [List.find?_eq_none] at hf
    rw [lastB_none]
    intro e he
    simpa using hf e he
  | some a =>
    have ha := List.mem_of_find?_eq_some hf
    have hpa := List.find?_some hf
    cases hl : lastB p l with
    | none => rw [lastB_none] at hl; rw [hl a ha] at hpa; cases hpa
    | some b =>
      obtain ⟨hb, hpb⟩ := lastB_some hl
      obtain ⟨i, hi⟩ := List.getElem?_of_mem ha
      obtain ⟨j, hj⟩ := List.getElem?_of_mem hb
      have := h i j a b hi hj hpa hpb
      subst this
      rw [hi] at hj; exact hj.symm
section
variable {h : Hs}
theorem well_ev (hw : WellP h) {i : Nat} {e : Ev} (he : h.events[i]? = some e) : EventOk h (h.events.take i) e ∧ InstalledOk h e := hw.2.1 i (List.getElem?_eq_some_iff.1 he).1 e he
theorem well_ins (hw : WellP h) {i : Nat} {o : Ins} (ho : h.order[i]? = some o) : InstallOk h i o := hw.2.2 i (List.getElem?_eq_some_iff.1 ho).1 o ho
theorem well_write (hw : WellP h) {i : Nat} {e : Ev} (he : h.events[i]? = some e) (hk : e.kind = 3) : WriteOk h (h.events.take i) e := (well_ev hw he).1.2.2.1 hk
theorem wrote_up {es : List Ev} {i j : Nat} (hij : i ≤ j) (txn table : Int) (k : Vl) : wrote (es.take i) txn table k ≤ wrote (es.take j) txn table k := by
  unfold wrote
  exact ((List.take_sublist_take_left hij).filter _).length_le
theorem wrote_lt {es : List Ev} {i j : Nat} {e : Ev} (he : es[i]? = some e) (hij : i < j) {txn table : Int} {k : Vl} (hw : e.isW txn table k = true) : wrote (es.take i) txn table k < wrote (es.take j) txn table k := by
  have h1 := wrote_take he txn table k
  rw [if_pos hw] at h1
  have h2 := wrote_up (es := es) (i := i + 1) (j := j) hij txn table k
  omega
theorem isW_key {e : Ev} {txn table : Int} {k : Vl} (h : e.isW txn table k = true) : e.kind = 3 ∧ e.txn = txn ∧ e.table = table ∧ e.key = k := by
  obtain ⟨h1, h2, h3, h4, h5, h6⟩ := Ev.isW_iff.1 h
  exact ⟨h1, h2, h3, Vl.eq_iff.2 ⟨h4, h5, h6⟩⟩
/-- a write's number -/
theorem write_n (hw : WellP h) {i : Nat} {e : Ev} (he : h.events[i]? = some e) {txn table : Int} {k : Vl} (hk : e.isW txn table k = true) : e.n = wrote (h.events.take i) txn table k + 1 := by
  obtain ⟨h1, rfl, rfl, rfl⟩ := isW_key hk
  exact (well_write hw he h1).2.1
theorem isN_iff {e : Ev} {txn table : Int} {k : Vl} {m : Int} : e.isN txn table k m = true ↔ e.isW txn table k = true ∧ e.n = m := by
  unfold Ev.isN; rw [Bool.and_eq_true, decide_eq_true_eq]
theorem isN_uniq (hw : WellP h) {txn table : Int} {k : Vl} {m : Int} : ∀ (i j : Nat) (a b : Ev), h.events[i]? = some a → h.events[j]? = some b → a.isN txn table k m = true → b.isN txn table k m = true → i = j := by
  intro i j a b hi hj ha hb
  rw [isN_iff] at ha hb
  have h1 := write_n hw hi ha.1
  have h2 := write_n hw hj hb.1
  rcases Nat.lt_trichotomy i j with g | g | g
  · have := wrote_lt hi g ha.1; omega
  · exact g
  · have := wrote_lt hj g hb.1; omega
/-- the version that was written last is as many as were written -/
theorem lastN_wrote (hw : WellP h) (txn table : Int) (k : Vl) : ∀ i, i ≤ h.events.length → lastN' (h.events.take i) txn table k = wrote (h.events.take i) txn table k := by
  intro i
  induction i with
  | zero => intro _; simp [lastN', lastB_nil, wrote]
  | succ i ih =>
    intro hi
    obtain ⟨e, he⟩ := some_at (l := h.events) (i := i) (by omega)
    have h1 := wrote_take he txn table k
    have htn : h.events.take (i + 1) = h.events.take i ++ [e] := by rw [List.take_add_one, he]; rfl
    rw [h1]
    unfold lastN'
    rw [htn, lastB_next]
    by_cases hk : e.isW txn table k = true
    · rw [if_pos hk, if_pos hk]
      have := write_n hw he hk
      simp [this]
    · rw [if_neg hk, if_neg hk]
      have := ih (by omega)
      unfold lastN' at this
      rw [this]; simp
/-- each of these versions was written -/
theorem wrote_has (hw : WellP h) (txn table : Int) (k : Vl) {m : Int} : ∀ i, i ≤ h.events.length → 1 ≤ m → m ≤ wrote (h.events.take i) txn table k → ∃ j e, j < i ∧ h.events[j]? = some e ∧ e.isN txn table k m = true := by
  intro i
  induction i with
  | zero => intro _ h1 h2; simp [wrote] at h2; omega
  | succ i ih =>
    intro hi h1 h2
    obtain ⟨e, he⟩ := some_at (l := h.events) (i := i) (by omega)
    have h3 := wrote_take he txn table k
    by_cases hm : m ≤ wrote (h.events.take i) txn table k
    · obtain ⟨j, x, g1, g2, g3⟩ := ih (by omega) h1 hm
      exact ⟨j, x, by omega, g2, g3⟩
    · by_cases hk : e.isW txn table k = true
      · rw [if_pos hk] at h3
        have := write_n hw he hk
        exact ⟨i, e, by omega, he, isN_iff.2 ⟨hk, by omega⟩⟩
      · rw [if_neg hk] at h3; omega
/-- no version beyond these was written -/
theorem isN_wrote (hw : WellP h) {txn table : Int} {k : Vl} {m : Int} {e : Ev} (he : e ∈ h.events) (hn : e.isN txn table k m = true) : 1 ≤ m ∧ m ≤ wrote h.events txn table k := by
  obtain ⟨i, hi⟩ := List.getElem?_of_mem he
  obtain ⟨h1, rfl⟩ := isN_iff.1 hn
  have h2 := write_n hw hi h1
  have h3 := wrote_lt hi (j := h.events.length) (List.getElem?_eq_some_iff.1 hi).1 h1
  rw [List.take_length] at h3
  omega
theorem lastN_all (hw : WellP h) (txn table : Int) (k : Vl) : lastN' h.events txn table k = wrote h.events txn table k := by
  have := lastN_wrote hw txn table k h.events.length (Nat.le_refl _)
  rwa [List.take_length] at this
theorem find_isN (hw : WellP h) (txn table : Int) (k : Vl) (m : Int) : lastB (Ev.isN txn table k m) h.events = h.events.find? (Ev.isN txn table k m) := lastB_uniq (isN_uniq hw)
theorem isN_some (hw : WellP h) {txn table : Int} {k : Vl} {m : Int} : (lastB (Ev.isN txn table k m) h.events).isSome = true ↔ 1 ≤ m ∧ m ≤ wrote h.events txn table k := by
  constructor
  · intro hs
    obtain ⟨e, he⟩ := Option.isSome_iff_exists.1 hs
    obtain ⟨h1, h2⟩ := lastB_some he
    exact isN_wrote hw h1 h2
  · rintro ⟨h1, h2⟩
    obtain ⟨j, e, g1, g2, g3⟩ := wrote_has hw txn table k h.events.length (Nat.le_refl _) h1 (by rw [List.take_length]; exact h2)
    cases hl : lastB (Ev.isN txn table k m) h.events with
    | some x => rfl
    | none => rw [lastB_none] at hl; rw [hl e (List.mem_of_getElem? g2)] at g3; cases g3
theorem right_size {v : Vl} (h : v.right = true) : v.s.size < 2 ^ 63 := by
  unfold Vl.right at h
  split at h
  · simp only [Bool.and_eq_true, decide_eq_true_eq] at h; omega
  · simp only [decide_eq_true_eq] at h; rw [h]; decide
theorem write_row (hw : WellP h) {e : Ev} (he : e ∈ h.events) (hk : e.kind = 3) : e.row.length < 2 ^ 40 ∧ ∀ x, x ∈ e.row → x.s.size < 2 ^ 63 := by
  obtain ⟨i, hi⟩ := List.getElem?_of_mem he
  rcases (well_write hw hi hk).2.2 with h1 | ⟨t, h1, h2, _⟩
  · rw [h1]; simp
  · obtain ⟨f1, f2, f3⟩ := h2
    have : t.length ≤ 4 := f1.2
    refine ⟨by omega, fun x hx => ?_⟩
    obtain ⟨j, hj⟩ := List.getElem?_of_mem hx
    have hjl := (List.getElem?_eq_some_iff.1 hj).1
    obtain ⟨c, hc⟩ := some_at (l := t) (i := j) (by omega)
    exact right_size (f3 j hjl x c hj hc).2
end
end Go.Rt
end

/- Whether a history is well formed can be decided, where it has no predicates. -/
section
namespace Go.Rt
open Go.Vm

instance decAt {α : Type} {l : List α} {i : Nat} {p : α → Prop} [∀ x, Decidable (p x)] : Decidable (∀ x, l[i]? = some x → p x) :=
  match h : l[i]? with
  | none => .isTrue fun x hx => by cases hx
  | some y => if hp : p y then .isTrue fun x hx => by cases hx; exact hp else .isFalse fun g => hp (g y rfl)
instance decEx {α : Type} {l : List α} {i : Nat} {p : α → Prop} [∀ x, Decidable (p x)] : Decidable (∃ x, l[i]? = some x ∧ p x) :=
  match h : l[i]? with
  | none => .isFalse fun ⟨x, hx, _⟩ => by cases hx
  | some y => if hp : p y then .isTrue ⟨y, rfl, hp⟩ else .isFalse fun ⟨x, hx, g⟩ => by cases hx; exact hp g
instance decUpto {n : Nat} {p : Nat → Prop} [∀ j, Decidable (p j)] : Decidable (Upto n p) := by unfold Upto; infer_instance
instance {es : List Ev} {t : Int} : Decidable (NoEnd es t) := by unfold NoEnd; infer_instance
instance {es : List Ev} {t : Int} : Decidable (Begun es t) := by unfold Begun; infer_instance
instance {es : List Ev} {e : Ev} : Decidable (FrameOk es e) := by unfold FrameOk; infer_instance
instance {t : Tb} : Decidable (TbOk t) := by unfold TbOk; infer_instance
instance {h : Hs} {table : Int} {k : Vl} : Decidable (KeyOk h table k) := by unfold KeyOk; infer_instance
instance {es : List Ev} {table : Int} {k : Vl} {v : Vs} : Decidable (VerOk es table k v) := by unfold VerOk; infer_instance
instance {t : Tb} {r : List Vl} {i : Nat} : Decidable (∀ (v : Vl) (c : Bool), r[i]? = some v → t[i]? = some c → v.text = c ∧ v.right = true) :=
  decidable_of_iff (∀ v, r[i]? = some v → ∀ c, t[i]? = some c → v.text = c ∧ v.right = true) ⟨fun h v c a b => h v a c b, fun h v a c b => h v c a b⟩
instance {t : Tb} {r : List Vl} {i : Nat} : Decidable (FitsAt t r i) := by unfold FitsAt; infer_instance
instance {t : Tb} {r : List Vl} : Decidable (Fits t r) := by unfold Fits; infer_instance
instance {h : Hs} {es : List Ev} {e : Ev} : Decidable (WriteOk h es e) := by unfold WriteOk; infer_instance
instance {h : Hs} {es : List Ev} {e : Ev} : Decidable (ReadOk h es e) := by unfold ReadOk; infer_instance
noncomputable instance {h : Hs} {es : List Ev} {e : Ev} : Decidable (PredOk h es e) := Classical.propDecidable _
noncomputable instance {h : Hs} {es : List Ev} {e : Ev} : Decidable (EventOk h es e) := by unfold EventOk; infer_instance
instance {table : Int} {k : Vl} {o : Ins} : Decidable (o.isOf table k) := by unfold Ins.isOf; infer_instance
instance {h : Hs} {e : Ev} : Decidable (InstalledOk h e) := by unfold InstalledOk; infer_instance
instance {h : Hs} {a : Nat} {o : Ins} : Decidable (InstallOk h a o) := by unfold InstallOk; infer_instance
instance {h : Hs} : Decidable (h.TbsOk) := by unfold Hs.TbsOk; infer_instance
instance {h : Hs} : Decidable (TablesOk h) := by unfold TablesOk; infer_instance
noncomputable instance {h : Hs} : Decidable (WellP h) := by unfold WellP; infer_instance

def k5 : Vl := ⟨false, 5, ⟨#[]⟩⟩
def noPd : Pd := .mk 0 0 Vl.zero Vl.zero []
def exB (t l : Int) : Ev := ⟨t, 1, l, 0, Vl.zero, ⟨0, 0⟩, 0, [], noPd, [], false⟩
def exW (t n : Int) (r : List Vl) : Ev := ⟨t, 3, 0, 0, k5, ⟨0, 0⟩, n, r, noPd, [], false⟩
def exC (t : Int) : Ev := ⟨t, 5, 0, 0, Vl.zero, ⟨0, 0⟩, 0, [], noPd, [], false⟩
def exH : Hs := ⟨[[false]], [exB 1 1, exB 2 2, exW 1 1 [k5], exW 1 2 [], exW 2 1 [k5], exC 1, exC 2], [⟨0, k5, [2, 1]⟩]⟩
theorem exH_well : WellP exH := by decide
end Go.Rt
end

/- Contracts: the document's example of ch. 19. -/
section
namespace Go.Rt
open Go.Vm

theorem noPd_ok : noPd.Ok := .mk _ (by decide) (by decide) (by decide) fun q hq => by cases hq
theorem exH_ok : exH.Ok := by
  refine ⟨by decide, by decide, by decide, fun e he => ?_, fun o ho => ?_, fun t ht => ?_, fun o ho => ?_⟩
  · have : e.row.length ≤ 1 ∧ e.refs = [] ∧ e.pred = noPd ∧ e.key.s = ⟨#[]⟩ := by
      simp only [exH, List.mem_cons, List.not_mem_nil, or_false] at he
      rcases he with rfl | rfl | rfl | rfl | rfl | rfl | rfl <;> exact ⟨by decide, rfl, rfl, rfl⟩
    obtain ⟨h1, h2, h3, h4⟩ := this
    exact ⟨by omega, by rw [h2]; decide, by rw [h3]; exact noPd_ok, by rw [h4]; decide, fun r hr => by rw [h2] at hr; cases hr⟩
  · simp only [exH, List.mem_singleton] at ho; subst ho; decide
  · simp only [exH, List.mem_singleton] at ht; subst ht; decide
  · simp only [exH, List.mem_singleton] at ho; subst ho; decide
theorem rows_ok {h : Hs} (hw : WellP h) : RowsOk h.events := fun _ he hk => (write_row hw he hk).1
theorem exH_rows : RowsOk exH.events := rows_ok exH_well
theorem ex_read : GSpec prog false n_order_Read [exH.av] [] (.iv (bkIV exH.events exH.order)) [] :=
  order_Read_yes exH_ok (by decide) exH_well exH_rows (by decide)
theorem exH_av : exH.av = .agg [.iv (.lst 1 [[.lst 1 [[cb false]]]]), .iv (.lst 22 (exH.events.map Ev.cells)), .iv (.lst 5 [[ci 0, cb false, ci 5, .v (.string ⟨#[]⟩), .lst 1 [[ci 2], [ci 1]]]])] := rfl
theorem exH_evs : exH.events.map Ev.cells = [(exB 1 1).cells, (exB 2 2).cells, (exW 1 1 [k5]).cells, (exW 1 2 []).cells, (exW 2 1 [k5]).cells, (exC 1).cells, (exC 2).cells] := rfl
theorem exB_c (t l : Int) : (exB t l).cells = [ci t, ci 1, ci l, ci 0, cb false, ci 0, .v (.string ⟨#[]⟩), ci 0, ci 0, ci 0, .lst 3 [], ci 0, ci 0, cb false, ci 0, .v (.string ⟨#[]⟩), cb false, ci 0, .v (.string ⟨#[]⟩), .lst 9 [], .lst 5 [], cb false] := by rw [Ev.cells_eq]; rfl
theorem exC_c (t : Int) : (exC t).cells = [ci t, ci 5, ci 0, ci 0, cb false, ci 0, .v (.string ⟨#[]⟩), ci 0, ci 0, ci 0, .lst 3 [], ci 0, ci 0, cb false, ci 0, .v (.string ⟨#[]⟩), cb false, ci 0, .v (.string ⟨#[]⟩), .lst 9 [], .lst 5 [], cb false] := by rw [Ev.cells_eq]; rfl
theorem exW_c (t n : Int) (r : List Vl) : (exW t n r).cells = [ci t, ci 3, ci 0, ci 0, cb false, ci 5, .v (.string ⟨#[]⟩), ci 0, ci 0, ci n, .lst 3 (rowC r), ci 0, ci 0, cb false, ci 0, .v (.string ⟨#[]⟩), cb false, ci 0, .v (.string ⟨#[]⟩), .lst 9 [], .lst 5 [], cb false] := by rw [Ev.cells_eq]; rfl
theorem ex_chain : chaB exH.events exH.order 0 k5 = [⟨0, 0⟩, ⟨2, 1⟩, ⟨1, 2⟩] := by decide
theorem ex_place : plaB exH.events exH.order 0 k5 ⟨1, 1⟩ = 2 := by decide
theorem ex_level : levB exH.events 2 = 2 := by decide
def trPd : Pd := .mk 1 0 Vl.zero Vl.zero []
theorem trPd_ok : trPd.Ok := .mk _ (by decide) (by decide) (by decide) fun q hq => by cases hq
theorem tr_holds (r : List Vl) : trPd.holds r = true := by rw [Pd.holds_eq]; rfl
theorem ex_changes : chgB exH.events exH.order 0 k5 2 trPd = true := by
  have h1 : rowB exH.events 0 k5 ⟨2, 1⟩ = some [k5] := by decide
  have h2 : rowB exH.events 0 k5 ⟨1, 2⟩ = some [] := by decide
  unfold chgB
  rw [ex_chain]
  simp [hldB, h1, h2, tr_holds]
theorem ex_chl : (chaB exH.events exH.order 0 k5).length < 2 ^ 42 := by rw [ex_chain]; decide
theorem ex_cs : GSpec prog false n_order_Book_Chain [.iv (bkIV exH.events exH.order), vi 0, k5.av] [] (.iv (.lst 2 [[ci 0, ci 0], [ci 2, ci 1], [ci 1, ci 2]])) [] := by
  have := Chain_spec exH.events exH.order 0 k5 ex_chl
  rw [ex_chain] at this
  exact this
theorem ex_ps : GSpec prog true n_order_Book_Place [.iv (bkIV exH.events exH.order), vi 0, k5.av, Vs.av ⟨1, 1⟩] [] (vi 2) [] := by
  have := Place_spec exH.events exH.order 0 k5 ⟨1, 1⟩ exH_rows ex_chl
  rw [ex_place] at this
  exact this
theorem ex_ls : GSpec prog true n_order_Book_Level [.iv (bkIV exH.events exH.order), vi 2] [] (vi 2) [] := by
  have := Level_spec exH.events exH.order 2
  rw [ex_level] at this
  exact this
theorem ex_gs : GSpec prog true n_order_Book_Changes [.iv (bkIV exH.events exH.order), vi 0, k5.av, vi 2, trPd.av] [] (vb true) [] := by
  have := Changes_spec exH.events exH.order 0 k5 2 trPd_ok exH_rows ex_chl
  rw [ex_changes] at this
  exact this
theorem bk_ne (es : List Ev) (os : List Ins) : peqV (.iv (bkIV es os)) (.iv (.v (.pointer none))) = some false := by simp [bkIV]
set_option maxHeartbeats 8000000 in
theorem awake_spec : GSpec prog true n_ratlinelaw19_awake [] [] (vb true) [] := by
  refine gspec1 ratlinelaw19_awake_is (by simp) (by decide) rfl ?_
  simp -dsimp [ratlinelaw19_awake]
  refine call_le (le_drops [9, 14, 18, 23, 27, 29, 31, 34, 36, 2, 10, 19, 28] (by decide) _) ?_
  refine call_newH ex_read rfl (by rw [exH_av, exH_evs]; simp [exB_c, exC_c, exW_c, rowC, k5]) (by simp [exH_av]) (by simp) (by simp) ?_
  simp -dsimp
  refine call_newH ex_cs rfl (by simp [k5]) (by simp) (by simp) (by simp) ?_
  simp -dsimp [bk_ne, setRange]
  refine call_pure ex_ps (by simp [k5]) (by simp) ?_
  simp -dsimp
  refine call_pure ex_ls (by simp) (by simp) ?_
  simp -dsimp
  refine call_pure ex_gs (by simp [k5, trPd, Pd.av, Pd.cells, Pd.cellsL, Vl.zero]) (by simp [Pd.av]) ?_
  simp -dsimp
end Go.Rt
end

/- OrderNone as a contract. -/
section
namespace Go.Rt
open Go.Vm

/-- something that is asked of a book -/
structure Ask where
  txn : Int
  table : Int
  key : Vl
  v : Vs
  place : Int
  p : Pd
def Ask.cells (a : Ask) : List IV := [ci a.txn, ci a.table, cb a.key.text, ci a.key.n, .v (.string a.key.s), ci a.v.txn, ci a.v.n, ci a.place, ci a.p.op, ci a.p.col, cb a.p.v.text, ci a.p.v.n, .v (.string a.p.v.s), cb a.p.w.text, ci a.p.w.n, .v (.string a.p.w.s), .lst 9 (a.p.l.map Pd.cells)]
def Ask.av (a : Ask) : AV := .agg (a.cells.map .iv)
def noH : Hs := ⟨[], [], []⟩
theorem noH_ill : ¬WellP noH := fun h => by have := h.1.1.1; simp [noH] at this
theorem noH_ok : noH.Ok := ⟨by decide, by decide, by decide, fun e he => (by cases he), fun o ho => (by cases ho), fun t ht => (by cases ht), fun o ho => (by cases ho)⟩
theorem no_read : GSpec prog false n_order_Read [noH.av] [] (.iv (.v (.pointer none))) [] := order_Read_no noH_ok (by decide) noH_ill
set_option maxHeartbeats 8000000 in
theorem OrderNone_spec (a : Ask) : GSpec prog true n_ratlinelaw19_OrderNone [a.av] [] (vb true) [] := by
  refine gspec1 ratlinelaw19_OrderNone_is (by simp) (by decide) rfl ?_
  simp -dsimp [ratlinelaw19_OrderNone, Ask.av, Ask.cells]
  refine call_pure awake_spec (by simp) (by simp) ?_
  simp -dsimp [setRange]
  refine call_newH (Row_nil a.table a.key a.v) rfl (by simp) (by simp) (by simp) (by simp) ?_
  simp -dsimp
  refine call_newH Committed_nil rfl (by simp) (by simp) (by simp) (by simp) ?_
  simp -dsimp [intsIV, intsC]
  refine call_pure (Level_nil a.txn) (by simp) (by simp) ?_
  simp -dsimp [setRange]
  refine call_newH (Chain_nil a.table a.key) rfl (by simp) (by simp) (by simp) (by simp) ?_
  simp -dsimp [setRange]
  refine call_pure (Place_nil a.table a.key a.v) (by simp) (by simp) ?_
  simp -dsimp [setRange]
  refine call_pure (Changes_nil a.table a.key a.place trPd) (by simp [trPd, Pd.av, Pd.cells, Pd.cellsL, Vl.zero]) (by simp [Pd.av]) ?_
  simp -dsimp
  refine call_newH no_read rfl (by simp [noH, Hs.av, tbsC, evsC, insC]) (by simp [Hs.av]) (by simp) (by simp) ?_
  simp -dsimp
end Go.Rt
end

/- Chains of well formed histories. -/
section
namespace Go.Rt
open Go.Vm

theorem nodup_sub {α : Type} [DecidableEq α] : ∀ {l r : List α}, l.Nodup → (∀ x, x ∈ l → x ∈ r) → l.length ≤ r.length
  | [], _, _, _ => Nat.zero_le _
  | a :: l, r, hn, h => by
    have hn := List.nodup_cons.1 hn
    have ha := h a List.mem_cons_self
    have := nodup_sub (l := l) (r := r.erase a) hn.2 fun x hx => by
      refine (List.mem_erase_of_ne ?_).2 (h x (List.mem_cons_of_mem _ hx))
      rintro rfl; exact hn.1 hx
    rw [List.length_erase_of_mem ha] at this
    have := List.length_pos_of_mem ha
    simp only [List.length_cons]; omega
theorem take_nodup {α : Type} {l : List α} (h : ∀ (i : Nat) (t : α), l[i]? = some t → t ∉ l.take i) : l.Nodup := by
  unfold List.Nodup
  rw [List.pairwise_iff_getElem]
  intro i j hi hj hij he
  refine h j l[j] (List.getElem?_eq_getElem hj) (List.mem_of_getElem? (i := i) ?_)
  rw [List.getElem?_take_of_lt hij, List.getElem?_eq_getElem hi, he]
section
variable {h : Hs}
theorem wrote_mem {es : List Ev} {txn table : Int} {k : Vl} (hw : wrote es txn table k ≠ 0) : ∃ e, e ∈ es ∧ e.isW txn table k = true := by
  unfold wrote at hw
  obtain ⟨e, he⟩ := List.exists_mem_of_length_pos (Nat.pos_of_ne_zero hw)
  rw [List.mem_filter] at he
  exact ⟨e, he.1, he.2⟩
theorem txns_nodup (hw : WellP h) {o : Ins} (ho : o ∈ h.order) : o.txns.Nodup := by
  obtain ⟨i, hi⟩ := List.getElem?_of_mem ho
  exact take_nodup fun j t hj => ((well_ins hw hi).2.1 j (List.getElem?_eq_some_iff.1 hj).1 t hj).2.2
theorem txns_in (hw : WellP h) {o : Ins} (ho : o ∈ h.order) {t : Int} (ht : t ∈ o.txns) : ended h.events t = 5 ∧ wrote h.events t o.table o.key ≠ 0 := by
  obtain ⟨i, hi⟩ := List.getElem?_of_mem ho
  obtain ⟨j, hj⟩ := List.getElem?_of_mem ht
  have := (well_ins hw hi).2.1 j (List.getElem?_eq_some_iff.1 hj).1 t hj
  exact ⟨this.1, this.2.1⟩
theorem txns_le (hw : WellP h) {o : Ins} (ho : o ∈ h.order) : o.txns.length ≤ h.events.length := by
  have := nodup_sub (l := o.txns) (r := h.events.map Ev.txn) (txns_nodup hw ho) fun t ht => by
    obtain ⟨e, he, hk⟩ := wrote_mem (txns_in hw ho ht).2
    exact List.mem_map.2 ⟨e, he, (isW_key hk).2.1⟩
  simpa using this
theorem txn_pos (hw : WellP h) {e : Ev} (he : e ∈ h.events) : 1 ≤ e.txn := by
  obtain ⟨i, hi⟩ := List.getElem?_of_mem he
  exact (well_ev hw hi).1.1.1
theorem isO_iff {table : Int} {k : Vl} {o : Ins} : o.isO table k = true ↔ o.isOf table k := by
  unfold Ins.isO Ins.isOf
  rw [Bool.and_eq_true, decide_eq_true_eq, decide_eq_true_eq]
theorem isO_uniq (hw : WellP h) {table : Int} {k : Vl} : ∀ (i j : Nat) (a b : Ins), h.order[i]? = some a → h.order[j]? = some b → a.isO table k = true → b.isO table k = true → i = j := by
  have key : ∀ (i j : Nat) (a b : Ins), i < j → h.order[i]? = some a → h.order[j]? = some b → a.isO table k = true → b.isO table k = true → False := by
    intro i j a b hij hi hj ha hb
    rw [isO_iff] at ha hb
    refine (well_ins hw hj).1 a (List.mem_of_getElem? (i := i) ?_) ⟨ha.1.trans hb.1.symm, ha.2.trans hb.2.symm⟩
    rw [List.getElem?_take_of_lt hij]; exact hi
  intro i j a b hi hj ha hb
  rcases Nat.lt_trichotomy i j with g | g | g
  · exact (key i j a b g hi hj ha hb).elim
  · exact g
  · exact (key j i b a g hj hi hb ha).elim
theorem chaB_le (hw : WellP h) (table : Int) (k : Vl) : (chaB h.events h.order table k).length ≤ h.events.length + 1 := by
  unfold chaB
  cases ho : lastB (Ins.isO table k) h.order with
  | none => simp
  | some o =>
    have := txns_le hw (lastB_some ho).1
    simp [chnI]; omega
theorem chaB_zero (es : List Ev) (os : List Ins) (table : Int) (k : Vl) : (chaB es os table k)[0]? = some ⟨0, 0⟩ := by
  unfold chaB; split <;> rfl
end

/-- whether a number of changes is odd -/
def oddF (H : Nat → Bool) (n k : Nat) : Bool := if k ≤ 1 then false else H (min (k - 2) (n - 1))
theorem oddF_step {H : Nat → Bool} {n k : Nat} {c : Bool} (hn : 0 < n) (h0 : H 0 = false) (hc : c = if k ≤ 1 ∨ n + 1 ≤ k then false else H (k - 2) != H (k - 1)) : oddF H n (k + 1) = if c = true then !oddF H n k else oddF H n k := by
  subst hc
  unfold oddF
  by_cases h1 : k ≤ 1
  · simp only [h1, true_or, if_true, Bool.false_eq_true, if_false]
    by_cases h2 : k + 1 ≤ 1
    · rw [if_pos h2]
    · rw [if_neg h2, show k + 1 - 2 = 0 by omega, Nat.zero_min, h0]
  · by_cases h3 : n + 1 ≤ k
    · simp only [h3, or_true, if_true, Bool.false_eq_true, if_false, h1]
      rw [if_neg (by omega)]
      congr 1; omega
    · have h4 : ¬(k ≤ 1 ∨ n + 1 ≤ k) := by omega
      rw [if_neg h4, if_neg (by omega), if_neg h1, show min (k + 1 - 2) (n - 1) = k - 1 by omega, show min (k - 2) (n - 1) = k - 2 by omega]
      cases H (k - 2) <;> cases H (k - 1) <;> rfl
end Go.Rt
end

/- OrderChanges as a contract. -/
section
namespace Go.Rt
open Go.Vm

theorem read_spec {h : Hs} (hok : h.Ok) (hev : h.events.length < 2 ^ 40) : (WellP h ∧ GSpec prog false n_order_Read [h.av] [] (.iv (bkIV h.events h.order)) []) ∨ (¬WellP h ∧ GSpec prog false n_order_Read [h.av] [] nilP []) := by
  by_cases hw : WellP h
  · exact .inl ⟨hw, order_Read_yes hok hev hw (rows_ok hw) fun o ho => Nat.lt_of_le_of_lt (txns_le hw ho) hev⟩
  · exact .inr ⟨hw, order_Read_no hok hev hw⟩
theorem hld_row {h : Hs} (hw : WellP h) {table : Int} {k : Vl} {v : Vs} : ∀ x, x ∈ (rowB h.events table k v).getD [] → x.s.size < 2 ^ 63 := by
  unfold rowB
  split
  · simp
  · cases hl : lastB (Ev.isN v.txn table k v.n) h.events with
    | none => simp
    | some e => exact (write_row hw (lastB_some hl).1 (isN_kind (lastB_some hl).2)).2
set_option maxHeartbeats 8000000 in
theorem OrderChanges_spec {h : Hs} (hok : h.Ok) (k : Vl) {p : Pd} (hp : p.Ok) : GSpec prog true n_ratlinelaw19_OrderChanges [h.av, k.av, p.av] [] (vb true) [] := by
  refine gspec1 ratlinelaw19_OrderChanges_is (by simp) (by decide) rfl ?_
  simp -dsimp [ratlinelaw19_OrderChanges, Hs.av, Pd.av_eq]
  refine call_pure awake_spec (by simp) (by simp) ?_
  simp -dsimp
  refine call_pure (ref18_Small_spec hok) (by simp [Hs.av]) (by simp [Hs.av]) ?_
  by_cases hs : SmallP h
  · have hs1 : ofP (SmallP h) = true := ofP_true.2 hs
    have hev : h.events.length ≤ 60 := hs.events
    simp -dsimp [hs1]
    refine call_pure (ref03_Size_spec hp) (by simp [Pd.av_eq]) (by simp [Pd.av_eq]) ?_
    by_cases hz : 30 < IntKind.i64.wrap p.size
    · simp -dsimp [hz]
    · simp -dsimp [hz]
      rcases read_spec hok (by omega) with ⟨hw, hr⟩ | ⟨hw, hr⟩
      · refine call_newH hr rfl (by simp [Hs.av]) (by simp [Hs.av]) (by simp) (by simp) ?_
        simp -dsimp [bk_ne]
        have hcl := chaB_le hw 0 k
        have hrows := rows_ok hw
        refine call_newH (Chain_spec h.events h.order 0 k (by omega)) rfl (by simp) (by simp) (by simp) (by simp) ?_
        have hpos := chaB_pos h.events h.order 0 k
        have h0 := chaB_zero h.events h.order 0 k
        have hch := fun place => Changes_spec h.events h.order 0 k place hp hrows (by omega)
        have hcg : ∀ place, chgB h.events h.order 0 k place p = if place < 1 ∨ (chaB h.events h.order 0 k).length ≤ place then false else hldB h.events 0 k p (((chaB h.events h.order 0 k)[(place - 1).toNat]?).getD ⟨0, 0⟩) != hldB h.events 0 k p (((chaB h.events h.order 0 k)[place.toNat]?).getD ⟨0, 0⟩) := fun _ => rfl
        generalize hl : chaB h.events h.order 0 k = l at *
        have hne : ¬l = [] := List.length_pos_iff.1 hpos
        simp -dsimp [hne]
        obtain ⟨H, hH⟩ : ∃ H : Nat → Bool, ∀ j, H j = hldB h.events 0 k p ((l[j]?).getD ⟨0, 0⟩) := ⟨_, fun _ => rfl⟩
        have hH0 : H 0 = false := by rw [hH, h0]; simp [hldB, rowB]
        refine loop_idx [3] [] (l.length + 2) (fun j => ⟨[(12, vi ((j : Int) - 1)), (11, vb (oddF H l.length j)), (10, .iv (.lst 2 (vsC l))), (9, .iv (bkIV h.events h.order)), (4, .ptr 4 0), (5, .ptr 5 0)],
          [(4, .box (k.cells.map .iv)), (5, p.box)]⟩) (fun _ => True) ?_ trivial ?_
        · simp [oddF, Pd.box]
        · intro j hj _
          by_cases hjl : j < l.length + 2
          · have hle : (j : Int) - 1 ≤ l.length := by omega
            have hw1 := wrap_in (n := (j : Int) - 1 + 1) (by omega)
            have hst := oddF_step (H := H) (n := l.length) (k := j) (c := chgB h.events h.order 0 k ((j : Int) - 1) p) hpos hH0 (by
              rw [hcg]
              by_cases g : (j : Int) - 1 < 1 ∨ (l.length : Int) ≤ (j : Int) - 1
              · rw [if_pos g, if_pos (by omega)]
              · rw [if_neg g, if_neg (by omega), hH, hH, show ((j : Int) - 1 - 1).toNat = j - 2 by omega, show ((j : Int) - 1).toNat = j - 1 by omega])
            have hout : chgB h.events h.order 0 k ((j : Int) - 1) p = true → ¬((j : Int) - 1 < 1) ∧ ¬((l.length : Int) ≤ (j : Int) - 1) := fun hc => by
              rw [hcg] at hc
              by_cases g : (j : Int) - 1 < 1 ∨ (l.length : Int) ≤ (j : Int) - 1
              · rw [if_pos g] at hc; cases hc
              · exact ⟨fun h => g (.inl h), fun h => g (.inr h)⟩
            have hcj := hch ((j : Int) - 1)
            rw [hst]
            generalize chgB h.events h.order 0 k ((j : Int) - 1) p = c at *
            simp -dsimp [ratlinelaw19_OrderChanges_l22, hle, Pd.box, setRange]
            refine call_pure hcj (by simp [Pd.av_eq]) (by simp [Pd.av_eq]) ?_
            cases c with
            | false =>
              simp -dsimp [hw1]
              exact ⟨hjl, wrap_in (by omega)⟩
            | true =>
              obtain ⟨o1, o2⟩ := hout rfl
              simp -dsimp [hw1, o1, o2]
              exact ⟨hjl, wrap_in (by omega)⟩
          · have hje : j = l.length + 2 := by omega
            have hnle : ¬(j : Int) - 1 ≤ l.length := by omega
            have hodd : oddF H l.length j = H (l.length - 1) := by
              unfold oddF
              rw [if_neg (by omega)]
              congr 1; omega
            rw [hodd]
            obtain ⟨v, hv⟩ : ∃ v, l[l.length - 1]? = some v := some_at (by omega)
            have hw1 := wrap_in (n := (l.length : Int) - 1) (by omega)
            have hi : (l.length : Int) - 1 = ((l.length - 1 : Nat) : Int) := by omega
            have hHl : H (l.length - 1) = hldB h.events 0 k p v := by rw [hH, hv]; rfl
            obtain ⟨q, hq⟩ : ∃ q, l.length - 1 = q := ⟨_, rfl⟩
            rw [hq] at hv hi
            rw [hi] at hw1
            simp -dsimp [ratlinelaw19_OrderChanges_l22, hnle, hi, hw1, hv, setRange]
            refine call_newH (Row_spec h.events h.order 0 k v hrows) rfl (by simp) (by simp) (by simp) (by simp) ?_
            have hsz := hld_row (table := 0) (k := k) (v := v) hw
            have hrl := rowB_len (table := 0) (k := k) (v := v) hrows
            rw [hq] at hHl
            unfold hldB at hHl
            generalize (rowB h.events 0 k v).getD [] = r at *
            cases r with
            | nil =>
              have hHl' : H q = false := by rw [hHl]; rfl
              simp -dsimp [rowC, hq, hHl']
            | cons a b =>
              have hHl' : H q = p.holds (a :: b) := by rw [hHl]; rfl
              simp -dsimp [hq, hHl', Pd.box, setRange]
              refine call_pure (ref03_Holds_spec hp (a :: b) (by omega) hsz) (by simp [Pd.av_eq]) (by simp [Pd.av_eq]) ?_
              simp -dsimp
      · refine call_newH hr rfl (by simp [Hs.av]) (by simp [Hs.av]) (by simp) (by simp) ?_
        simp -dsimp
  · have hs1 : ofP (SmallP h) = false := ofP_false.2 hs
    simp -dsimp [hs1]
end Go.Rt
end

/- What comes in is a history. -/
section
namespace Go.Rt
open Go.Vm

theorem wf_int {P : Program} {f : Nat} {t : TypeId} {cs : List IV} {k : IntKind} (hu : P.underlying t = some (.int k)) (h : WfT P f t cs) : ∃ n, cs = [.v (.int k n)] ∧ (Lit.int k n).wf = true := by
  cases f with
  | zero => exact h.elim
  | succ f => simpa only [WfT, hu] using h
theorem wf_bool {P : Program} {f : Nat} {t : TypeId} {cs : List IV} (hu : P.underlying t = some .bool) (h : WfT P f t cs) : ∃ b, cs = [.v (.bool b)] := by
  cases f with
  | zero => exact h.elim
  | succ f => simpa only [WfT, hu] using h
theorem wf_str {P : Program} {f : Nat} {t : TypeId} {cs : List IV} (hu : P.underlying t = some .string) (h : WfT P f t cs) : ∃ s : ByteArray, cs = [.v (.string s)] ∧ s.size < 2 ^ 63 := by
  cases f with
  | zero => exact h.elim
  | succ f =>
    simp only [WfT, hu] at h
    obtain ⟨s, h1, h2⟩ := h
    refine ⟨s, h1, Nat.lt_of_le_of_lt h2 (by decide)⟩
theorem wf_slice {P : Program} {f : Nat} {t e n : Nat} {cs : List IV} (hu : P.underlying t = some (.slice e)) (hn : P.cellsOf e = n) (h : WfT P f t cs) : ∃ f', f = f' + 1 ∧ ∃ xs, cs = [.lst n xs] ∧ xs.length < 2 ^ 63 ∧ ∀ x ∈ xs, WfT P f' e x := by
  cases f with
  | zero => exact h.elim
  | succ f =>
    simp only [WfT, hu, hn] at h
    obtain ⟨xs, h1, h2, h3⟩ := h
    exact ⟨f, rfl, xs, h1, Nat.lt_of_le_of_lt h2 (by decide), h3⟩
/-- a struct's fields: type, place, size -/
def fieldsOf (P : Program) (t : TypeId) : Option (List (Nat × Nat × Nat)) := match P.underlying t with
  | some (.struct fs) => some (fs.toList.map fun f => (f.type, f.offset, P.cellsOf f.type))
  | _ => none
theorem wf_struct {P : Program} {f : Nat} {t n : Nat} {l : List (Nat × Nat × Nat)} {cs : List IV} (hu : fieldsOf P t = some l) (hn : P.cellsOf t = n) (h : WfT P f t cs) :
    ∃ f', f = f' + 1 ∧ cs.length = n ∧ ∀ p ∈ l, WfT P f' p.1 ((cs.drop p.2.1).take p.2.2) := by
  unfold fieldsOf at hu
  split at hu
  · rename_i fs hu'
    cases f with
    | zero => exact h.elim
    | succ f =>
      simp only [WfT, hu', hn] at h
      refine ⟨f, rfl, h.1, fun p hp => ?_⟩
      cases hu
      obtain ⟨fld, h1, rfl⟩ := List.mem_map.1 hp
      exact h.2 fld h1
  · cases hu
theorem cut_at {α : Type} (cs : List α) (o n : Nat) {x : List α} (h : (cs.drop o).take n = x) : cs.drop o = x ++ cs.drop (o + n) := by
  rw [← h, ← List.drop_drop, List.take_append_drop]
theorem cut_end {α : Type} {cs : List α} {o : Nat} (h : cs.length = o) : cs.drop o = [] := List.drop_eq_nil_of_le (by omega)

theorem list_choose {α β : Type} {f : α → β} {Q : α → Prop} : ∀ {xs : List β}, (∀ x, x ∈ xs → ∃ p, Q p ∧ x = f p) → ∃ ps : List α, xs = ps.map f ∧ ∀ p, p ∈ ps → Q p
  | [], _ => ⟨[], rfl, fun _ h => by cases h⟩
  | x :: r, h => by
    obtain ⟨p, h1, rfl⟩ := h x List.mem_cons_self
    obtain ⟨ps, rfl, h3⟩ := list_choose (xs := r) fun y hy => h y (List.mem_cons_of_mem _ hy)
    exact ⟨p :: ps, rfl, fun q hq => by
      rcases List.mem_cons.1 hq with rfl | hq
      · exact h1
      · exact h3 q hq⟩


section
theorem u4 : prog.underlying 4 = some .bool := by kernel_rfl
theorem u2 : prog.underlying 2 = some (.int .i64) := by kernel_rfl
theorem u3 : prog.underlying 3 = some (.int .i64) := by kernel_rfl
theorem u9 : prog.underlying 9 = some .string := by kernel_rfl
theorem wf_vl {f : Nat} {cs : List IV} (h : WfT prog f 28 cs) : ∃ v : Vl, cs = v.cells ∧ v.s.size < 2 ^ 63 := by
  obtain ⟨f, rfl, hl, hf⟩ := wf_struct (P := prog) (t := 28) (n := 3) (l := [(4, 0, 1), (2, 1, 1), (9, 2, 1)]) (by kernel_rfl) (by kernel_rfl) h
  obtain ⟨b, h1⟩ := wf_bool u4 (hf (4, 0, 1) (by decide))
  obtain ⟨n, h2, _⟩ := wf_int u2 (hf (2, 1, 1) (by decide))
  obtain ⟨s, h3, h4⟩ := wf_str u9 (hf (9, 2, 1) (by decide))
  refine ⟨⟨b, n, s⟩, ?_, h4⟩
  have e := cut_at cs 0 1 h1
  rw [cut_at cs 1 1 h2, cut_at cs 2 1 h3, cut_end hl] at e
  exact e
theorem wf_vs {f : Nat} {cs : List IV} (h : WfT prog f 45 cs) : ∃ v : Vs, cs = v.cells := by
  obtain ⟨f, rfl, hl, hf⟩ := wf_struct (P := prog) (t := 45) (n := 2) (l := [(3, 0, 1), (3, 1, 1)]) (by kernel_rfl) (by kernel_rfl) h
  obtain ⟨b, h1, _⟩ := wf_int u3 (hf (3, 0, 1) (by decide))
  obtain ⟨n, h2, _⟩ := wf_int u3 (hf (3, 1, 1) (by decide))
  refine ⟨⟨b, n⟩, ?_⟩
  have e := cut_at cs 0 1 h1
  rw [cut_at cs 1 1 h2, cut_end hl] at e
  exact e
theorem wf_row {f : Nat} {cs : List IV} (h : WfT prog f 41 cs) : ∃ r : List Vl, cs = [.lst 3 (rowC r)] ∧ r.length < 2 ^ 63 := by
  obtain ⟨f, rfl, xs, rfl, hl, hx⟩ := wf_slice (P := prog) (t := 41) (e := 28) (n := 3) (by kernel_rfl) (by kernel_rfl) h
  obtain ⟨r, rfl, _⟩ := list_choose (f := Vl.cells) (Q := fun _ => True) (xs := xs) fun x hm => by
    obtain ⟨v, h1, _⟩ := wf_vl (hx x hm); exact ⟨v, trivial, h1⟩
  exact ⟨r, rfl, by simpa using hl⟩
theorem wf_pd : ∀ {f : Nat} {cs : List IV}, WfT prog f 31 cs → ∃ p : Pd, cs = p.cells ∧ p.Ok := by
  intro f
  induction f using Nat.strongRecOn with
  | ind f ih =>
    intro cs h
    obtain ⟨f1, rfl, hl, hf⟩ := wf_struct (P := prog) (t := 31) (n := 9) (l := [(3, 0, 1), (3, 1, 1), (28, 2, 3), (28, 5, 3), (29, 8, 1)]) (by kernel_rfl) (by kernel_rfl) h
    obtain ⟨o, h1, _⟩ := wf_int u3 (hf (3, 0, 1) (by decide))
    obtain ⟨c, h2, _⟩ := wf_int u3 (hf (3, 1, 1) (by decide))
    obtain ⟨v, h3, hv⟩ := wf_vl (hf (28, 2, 3) (by decide))
    obtain ⟨w, h4, hw⟩ := wf_vl (hf (28, 5, 3) (by decide))
    obtain ⟨f2, rfl, xs, h5, hxl, hx⟩ := wf_slice (P := prog) (t := 29) (e := 31) (n := 9) (by kernel_rfl) (by kernel_rfl) (hf (29, 8, 1) (by decide))
    obtain ⟨ps, rfl, hps⟩ := list_choose (f := Pd.cells) (Q := Pd.Ok) (xs := xs) fun x hm => by
      obtain ⟨p, g1, g2⟩ := ih f2 (by omega) (hx x hm); exact ⟨p, g2, g1⟩
    refine ⟨.mk o c v w ps, ?_, .mk _ (by rw [List.length_map] at hxl; exact hxl) hv hw hps⟩
    have e := cut_at cs 0 1 h1
    rw [cut_at cs 1 1 h2, cut_at cs 2 3 h3, cut_at cs 5 3 h4, cut_at cs 8 1 h5, cut_end hl] at e
    rw [Pd.cells_eq]
    exact e
theorem wf_rf {f : Nat} {cs : List IV} (h : WfT prog f 125 cs) : ∃ r : Rf, cs = r.cells ∧ r.key.s.size < 2 ^ 63 := by
  obtain ⟨f, rfl, hl, hf⟩ := wf_struct (P := prog) (t := 125) (n := 5) (l := [(28, 0, 3), (45, 3, 2)]) (by kernel_rfl) (by kernel_rfl) h
  obtain ⟨v, h1, hv⟩ := wf_vl (hf (28, 0, 3) (by decide))
  obtain ⟨n, h2⟩ := wf_vs (hf (45, 3, 2) (by decide))
  refine ⟨⟨v, n⟩, ?_, hv⟩
  have e := cut_at cs 0 3 h1
  rw [cut_at cs 3 2 h2, cut_end hl] at e
  exact e
set_option maxRecDepth 10000 in
theorem wf_ev {f : Nat} {cs : List IV} (h : WfT prog f 50 cs) : ∃ e : Ev, cs = e.cells ∧ e.Ok := by
  obtain ⟨f, rfl, hl, hf⟩ := wf_struct (P := prog) (t := 50) (n := 22) (l := [(3, 0, 1), (3, 1, 1), (3, 2, 1), (3, 3, 1), (28, 4, 3), (45, 7, 2), (3, 9, 1), (41, 10, 1), (31, 11, 9), (48, 20, 1), (4, 21, 1)]) (by kernel_rfl) (by kernel_rfl) h
  obtain ⟨a1, h1, _⟩ := wf_int u3 (hf (3, 0, 1) (by decide))
  obtain ⟨a2, h2, _⟩ := wf_int u3 (hf (3, 1, 1) (by decide))
  obtain ⟨a3, h3, _⟩ := wf_int u3 (hf (3, 2, 1) (by decide))
  obtain ⟨a4, h4, _⟩ := wf_int u3 (hf (3, 3, 1) (by decide))
  obtain ⟨k, h5, hk⟩ := wf_vl (hf (28, 4, 3) (by decide))
  obtain ⟨v, h6⟩ := wf_vs (hf (45, 7, 2) (by decide))
  obtain ⟨n, h7, _⟩ := wf_int u3 (hf (3, 9, 1) (by decide))
  obtain ⟨r, h8, hr⟩ := wf_row (hf (41, 10, 1) (by decide))
  obtain ⟨p, h9, hp⟩ := wf_pd (hf (31, 11, 9) (by decide))
  obtain ⟨f2, rfl, xs, h10, hxl, hx⟩ := wf_slice (P := prog) (t := 48) (e := 125) (n := 5) (by kernel_rfl) (by kernel_rfl) (hf (48, 20, 1) (by decide))
  obtain ⟨b, h11⟩ := wf_bool u4 (hf (4, 21, 1) (by decide))
  obtain ⟨rs, rfl, hrs⟩ := list_choose (f := Rf.cells) (Q := fun r => r.key.s.size < 2 ^ 63) (xs := xs) fun x hm => by
    obtain ⟨p, g1, g2⟩ := wf_rf (hx x hm); exact ⟨p, g2, g1⟩
  refine ⟨⟨a1, a2, a3, a4, k, v, n, r, p, rs, b⟩, ?_, ⟨hr, by simpa using hxl, hp, hk, hrs⟩⟩
  have e := cut_at cs 0 1 h1
  rw [cut_at cs 1 1 h2, cut_at cs 2 1 h3, cut_at cs 3 1 h4, cut_at cs 4 3 h5, cut_at cs 7 2 h6, cut_at cs 9 1 h7, cut_at cs 10 1 h8, cut_at cs 11 9 h9, cut_at cs 20 1 h10, cut_at cs 21 1 h11, cut_end hl] at e
  rw [Ev.cells_eq]
  rw [Pd.cells_eq] at e
  exact e
theorem wf_ints {f : Nat} {cs : List IV} (h : WfT prog f 55 cs) : ∃ r : List Int, cs = [.lst 1 (intsC r)] ∧ r.length < 2 ^ 63 := by
  obtain ⟨f, rfl, xs, rfl, hl, hx⟩ := wf_slice (P := prog) (t := 55) (e := 3) (n := 1) (by kernel_rfl) (by kernel_rfl) h
  obtain ⟨r, rfl, _⟩ := list_choose (f := fun i => [ci i]) (Q := fun _ => True) (xs := xs) fun x hm => by
    obtain ⟨v, h1, _⟩ := wf_int u3 (hx x hm); exact ⟨v, trivial, h1⟩
  exact ⟨r, rfl, by simpa using hl⟩
theorem wf_bools {f : Nat} {cs : List IV} (h : WfT prog f 67 cs) : ∃ r : List Bool, cs = [.lst 1 (boolsC r)] ∧ r.length < 2 ^ 63 := by
  obtain ⟨f, rfl, xs, rfl, hl, hx⟩ := wf_slice (P := prog) (t := 67) (e := 4) (n := 1) (by kernel_rfl) (by kernel_rfl) h
  obtain ⟨r, rfl, _⟩ := list_choose (f := fun b => [cb b]) (Q := fun _ => True) (xs := xs) fun x hm => by
    obtain ⟨v, h1⟩ := wf_bool u4 (hx x hm); exact ⟨v, trivial, h1⟩
  exact ⟨r, rfl, by simpa using hl⟩
theorem wf_ins {f : Nat} {cs : List IV} (h : WfT prog f 71 cs) : ∃ o : Ins, cs = o.cells ∧ (o.txns.length < 2 ^ 63 ∧ o.key.s.size < 2 ^ 63) := by
  obtain ⟨f, rfl, hl, hf⟩ := wf_struct (P := prog) (t := 71) (n := 5) (l := [(3, 0, 1), (28, 1, 3), (55, 4, 1)]) (by kernel_rfl) (by kernel_rfl) h
  obtain ⟨a, h1, _⟩ := wf_int u3 (hf (3, 0, 1) (by decide))
  obtain ⟨k, h2, hk⟩ := wf_vl (hf (28, 1, 3) (by decide))
  obtain ⟨r, h3, hr⟩ := wf_ints (hf (55, 4, 1) (by decide))
  refine ⟨⟨a, k, r⟩, ?_, hr, hk⟩
  have e := cut_at cs 0 1 h1
  rw [cut_at cs 1 3 h2, cut_at cs 4 1 h3, cut_end hl] at e
  exact e
theorem wf_tb {f : Nat} {cs : List IV} (h : WfT prog f 69 cs) : ∃ t : Tb, cs = [tbIV t] ∧ t.length < 2 ^ 63 := by
  obtain ⟨f, rfl, hl, hf⟩ := wf_struct (P := prog) (t := 69) (n := 1) (l := [(67, 0, 1)]) (by kernel_rfl) (by kernel_rfl) h
  obtain ⟨r, h1, hr⟩ := wf_bools (hf (67, 0, 1) (by decide))
  refine ⟨r, ?_, hr⟩
  have e := cut_at cs 0 1 h1
  rw [cut_end hl] at e
  exact e
theorem wf_hs {f : Nat} {cs : List IV} (h : WfT prog f 26 cs) : ∃ h : Hs, cs = h.cells ∧ h.Ok := by
  obtain ⟨f, rfl, hl, hf⟩ := wf_struct (P := prog) (t := 26) (n := 3) (l := [(22, 0, 1), (23, 1, 1), (24, 2, 1)]) (by kernel_rfl) (by kernel_rfl) h
  obtain ⟨f1, e1, xs1, h1, l1, g1⟩ := wf_slice (P := prog) (t := 22) (e := 69) (n := 1) (by kernel_rfl) (by kernel_rfl) (hf (22, 0, 1) (by decide))
  obtain ⟨f2, e2, xs2, h2, l2, g2⟩ := wf_slice (P := prog) (t := 23) (e := 50) (n := 22) (by kernel_rfl) (by kernel_rfl) (hf (23, 1, 1) (by decide))
  obtain ⟨f3, e3, xs3, h3, l3, g3⟩ := wf_slice (P := prog) (t := 24) (e := 71) (n := 5) (by kernel_rfl) (by kernel_rfl) (hf (24, 2, 1) (by decide))
  obtain ⟨ts, rfl, ht⟩ := list_choose (f := fun t : Tb => [tbIV t]) (Q := fun t => t.length < 2 ^ 63) (xs := xs1) fun x hm => by
    obtain ⟨p, a1, a2⟩ := wf_tb (g1 x hm); exact ⟨p, a2, a1⟩
  obtain ⟨es, rfl, he⟩ := list_choose (f := Ev.cells) (Q := Ev.Ok) (xs := xs2) fun x hm => by
    obtain ⟨p, a1, a2⟩ := wf_ev (g2 x hm); exact ⟨p, a2, a1⟩
  obtain ⟨os, rfl, ho⟩ := list_choose (f := Ins.cells) (Q := fun o => o.txns.length < 2 ^ 63 ∧ o.key.s.size < 2 ^ 63) (xs := xs3) fun x hm => by
    obtain ⟨p, a1, a2⟩ := wf_ins (g3 x hm); exact ⟨p, a2, a1⟩
  refine ⟨⟨ts, es, os⟩, ?_, ⟨by simpa using l1, by simpa using l2, by simpa using l3, he, fun o h => (ho o h).1, ht, fun o h => (ho o h).2⟩⟩
  have e := cut_at cs 0 1 h1
  rw [cut_at cs 1 1 h2, cut_at cs 2 1 h3, cut_end hl] at e
  exact e
theorem wf_ask {f : Nat} {cs : List IV} (h : WfT prog f 59 cs) : ∃ a : Ask, cs = a.cells := by
  obtain ⟨f, rfl, hl, hf⟩ := wf_struct (P := prog) (t := 59) (n := 17) (l := [(3, 0, 1), (3, 1, 1), (28, 2, 3), (45, 5, 2), (3, 7, 1), (31, 8, 9)]) (by kernel_rfl) (by kernel_rfl) h
  obtain ⟨a1, h1, _⟩ := wf_int u3 (hf (3, 0, 1) (by decide))
  obtain ⟨a2, h2, _⟩ := wf_int u3 (hf (3, 1, 1) (by decide))
  obtain ⟨k, h5, hk⟩ := wf_vl (hf (28, 2, 3) (by decide))
  obtain ⟨v, h6⟩ := wf_vs (hf (45, 5, 2) (by decide))
  obtain ⟨n, h7, _⟩ := wf_int u3 (hf (3, 7, 1) (by decide))
  obtain ⟨p, h9, hp⟩ := wf_pd (hf (31, 8, 9) (by decide))
  refine ⟨⟨a1, a2, k, v, n, p⟩, ?_⟩
  have e := cut_at cs 0 1 h1
  rw [cut_at cs 1 1 h2, cut_at cs 2 3 h5, cut_at cs 5 2 h6, cut_at cs 7 1 h7, cut_at cs 8 9 h9, cut_end hl] at e
  rw [Pd.cells_eq] at e
  exact e
end
end Go.Rt
end

/- What comes in is of the form's own reach: the columns of a table. -/
section
namespace Go.Rt
open Go.Vm

theorem sz_slice {P : Program} {f : Nat} {t e n : Nat} {xs : List (List IV)} (hu : P.underlying t = some (.slice e)) (hn : P.cellsOf e = n) (h : SzT P f t [.lst n xs]) : ∃ f', f = f' + 1 ∧ xs.length * P.bytesOf e ≤ reachBytes ∧ ∀ x ∈ xs, SzT P f' e x := by
  cases f with
  | zero => exact h.elim
  | succ f =>
    simp only [SzT, hu, hn] at h
    obtain ⟨ys, h1, h2, h3⟩ := h
    simp only [List.cons.injEq, IV.lst.injEq, true_and, and_true] at h1
    subst h1
    exact ⟨f, rfl, h2, h3⟩
theorem sz_struct {P : Program} {f : Nat} {t : Nat} {l : List (Nat × Nat × Nat)} {cs : List IV} (hu : fieldsOf P t = some l) (h : SzT P f t cs) :
    ∃ f', f = f' + 1 ∧ ∀ p ∈ l, SzT P f' p.1 ((cs.drop p.2.1).take p.2.2) := by
  unfold fieldsOf at hu
  split at hu
  · rename_i fs hu'
    cases f with
    | zero => exact h.elim
    | succ f =>
      simp only [SzT, hu'] at h
      refine ⟨f, rfl, fun p hp => ?_⟩
      cases hu
      obtain ⟨fld, h1, rfl⟩ := List.mem_map.1 hp
      exact h fld h1
  · cases hu
theorem sz_evs {h : Hs} {f : Nat} (hs : SzT prog f 26 h.cells) : h.events.length < 2 ^ 40 := by
  obtain ⟨f, rfl, h1⟩ := sz_struct (P := prog) (t := 26) (l := [(22, 0, 1), (23, 1, 1), (24, 2, 1)]) (by kernel_rfl) hs
  obtain ⟨f1, _, h2, _⟩ := sz_slice (P := prog) (t := 23) (e := 50) (n := 22) (xs := evsC h.events) (by kernel_rfl) (by kernel_rfl) (h1 (23, 1, 1) (by decide))
  have hb : prog.bytesOf 50 = 248 := by kernel_rfl
  rw [hb] at h2
  simp only [evsC_len] at h2
  have h3 : h.events.length * 248 ≤ 248 * (2 ^ 40 - 1) := Nat.le_trans h2 (by decide)
  omega
end Go.Rt
end

/- What the rows of this chapter share. -/
section
namespace Go.Proofs.Ytahalmofaboejaa
open Go.ChangeShapes Go.WideShapes Go.ChangeAt Go.RowKit Go.Vm Go.Rt
open Go.Proofs (Try.prog)

theorem own : ownKnob Try.prog.godebug = none := by kernel_rfl
theorem laidOut : laidOutB Try.prog = true := by kernel_rfl
def tset : List TypeId := [26, 22, 23, 24, 69, 67, 4, 50, 3, 28, 2, 9, 45, 41, 31, 29, 48, 125, 71, 55, 59]
theorem tset_ok : plainSet Try.prog tset = true := by kernel_rfl
theorem readable : ∀ t ∈ [26, 28, 31, 59], Try.prog.readableRec t = true ∧ t < Try.prog.types.size := by
  intro t ht
  simp only [List.mem_cons, List.not_mem_nil, or_false] at ht
  rcases ht with rfl | rfl | rfl | rfl
  · exact ⟨by kernel_rfl, of_decide_eq_true (by kernel_rfl)⟩
  · exact ⟨by kernel_rfl, of_decide_eq_true (by kernel_rfl)⟩
  · exact ⟨by kernel_rfl, of_decide_eq_true (by kernel_rfl)⟩
  · exact ⟨by kernel_rfl, of_decide_eq_true (by kernel_rfl)⟩
theorem agg26 : isAggT Try.prog 26 = true := by kernel_rfl
theorem agg28 : isAggT Try.prog 28 = true := by kernel_rfl
theorem agg31 : isAggT Try.prog 31 = true := by kernel_rfl
theorem agg59 : isAggT Try.prog 59 = true := by kernel_rfl

theorem args_a {css : List (List IV)} (h : WfArgs Try.prog [59] css) : ∃ a : Go.Rt.Ask, argsT Try.prog [59] css = [a.av] := by
  match css, h with
  | [cs], ⟨⟨f, h1⟩, _⟩ =>
    obtain ⟨a, rfl⟩ := wf_ask h1
    exact ⟨a, by simp only [argsT, agg59]; rfl⟩
theorem args_hkp {css : List (List IV)} (h : WfArgs Try.prog [26, 28, 31] css) : ∃ (h : Hs) (k : Vl) (p : Pd), h.Ok ∧ p.Ok ∧ argsT Try.prog [26, 28, 31] css = [h.av, k.av, p.av] := by
  match css, h with
  | [cs, ds, es], ⟨⟨f, h1⟩, ⟨g, h2⟩, ⟨i, h3⟩, _⟩ =>
    obtain ⟨h, rfl, hok⟩ := wf_hs h1
    obtain ⟨k, rfl, _⟩ := wf_vl h2
    obtain ⟨p, rfl, hp⟩ := wf_pd h3
    exact ⟨h, k, p, hok, hp, by simp only [argsT, agg26, agg28, agg31]; rfl⟩
theorem args_h {css : List (List IV)} (h : WfArgs Try.prog [26] css) (hsz : SzArgs Try.prog [26] css) : ∃ (h : Hs), h.Ok ∧ h.events.length < 2 ^ 40 ∧ argsT Try.prog [26] css = [h.av] := by
  match css, h, hsz with
  | [cs], ⟨⟨f, h1⟩, _⟩, ⟨⟨g, s1⟩, _⟩ =>
    obtain ⟨h, rfl, hok⟩ := wf_hs h1
    exact ⟨h, hok, sz_evs s1.2, by simp only [argsT, agg26]; rfl⟩
theorem args_hk {css : List (List IV)} (h : WfArgs Try.prog [26, 28] css) (hsz : SzArgs Try.prog [26, 28] css) : ∃ (h : Hs) (k : Vl), h.Ok ∧ h.events.length < 2 ^ 40 ∧ argsT Try.prog [26, 28] css = [h.av, k.av] := by
  match css, h, hsz with
  | [cs, ds], ⟨⟨f, h1⟩, ⟨i, h2⟩, _⟩, ⟨⟨g, s1⟩, _⟩ =>
    obtain ⟨h, rfl, hok⟩ := wf_hs h1
    obtain ⟨k, rfl, _⟩ := wf_vl h2
    exact ⟨h, k, hok, sz_evs s1.2, by simp only [argsT, agg26, agg28]; rfl⟩
theorem weightsEach_app {H : Type} {P : Program} : ∀ {ts vs : List TypeId} {ds gs : List (DataW H)} {n : Nat}, n ∈ DataW.weightsEach P ts ds → n ∈ DataW.weightsEach P (ts ++ vs) (ds ++ gs)
  | [], _, _, _, _, h => by simp [DataW.weightsEach] at h
  | _ :: _, _, [], _, _, h => by simp [DataW.weightsEach] at h
  | t :: ts, vs, d :: ds, gs, n, h => by
    simp only [List.cons_append, DataW.weightsEach, List.mem_append] at h ⊢
    exact h.imp id fun h => weightsEach_app (ts := ts) h
theorem sz_all {H : Type} {P : Program} {ts ts' vs : List TypeId} {ds gs : List (DataW H)} (e : ts' = ts) (h : (DataW.weightsEach P (ts' ++ vs) (ds ++ gs)).all (· ≤ reachBytes) = true) : ∀ n ∈ DataW.weightsEach P ts ds, n ≤ reachBytes := by
  subst e
  exact fun n hn => by simpa using List.all_eq_true.1 h n (weightsEach_app hn)
end Go.Proofs.Ytahalmofaboejaa
end
