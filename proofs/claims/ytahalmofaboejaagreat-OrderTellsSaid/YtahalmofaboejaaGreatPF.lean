/- Contracts of functions of the program, and what they lean on. Conditions: those of each theorem. -/
import Derived.Test.YtahalmofaboejaaGreatPE
import Derived.Test.YtahalmofaboejaaGreatPC
import Derived.Test.YtahalmofaboejaaGreatPD

set_option linter.unusedVariables false
set_option linter.unusedSimpArgs false

/- Contracts: whether a version changed what a predicate holds of. -/
section
namespace Go.Rt
open Go.Vm
theorem ok_Changes_1 : okFn prog n_order_Book_Changes_1 = true := by kernel_rfl
theorem rowB_len {es : List Ev} {table : Int} {k : Vl} {v : Vs} (hrow : RowsOk es) : ((rowB es table k v).getD []).length < 2 ^ 40 := by
  unfold rowB
  split
  · simp
  · cases h : lastB (Ev.isN v.txn table k v.n) es with
    | none => simp
    | some e => exact hrow e (lastB_some h).1 (isN_kind (lastB_some h).2)
set_option maxHeartbeats 4000000 in
theorem Changes_1_spec (es : List Ev) (os : List Ins) (table : Int) (k : Vl) {p : Pd} (hp : p.Ok) (v : Vs) (hrow : RowsOk es) :
    GSpec prog true n_order_Book_Changes_1 [v.av, .iv (.pt [bkIV es os]), .iv (.pt [ci table]), .iv (.pt k.cells), .iv (.pt p.cells)] [] (vb (hldB es table k p v)) [] := by
  refine gspec1 order_Book_Changes_1_is (by simp) (by decide) rfl ?_
  simp -dsimp [order_Book_Changes_1]
  refine call_newH (Row_spec es os table k v hrow) rfl (by simp) (by simp) (by simp) (by simp) ?_
  have hl := rowB_len (table := table) (k := k) (v := v) hrow
  have hp9 : p.cells.length = 9 := by rw [Pd.cells_eq]; rfl
  unfold hldB
  generalize (rowB es table k v).getD [] = r at *
  cases r with
  | nil =>
    simp -dsimp [rowC]
  | cons a b =>
    have hne : 0 < (rowC (a :: b)).length := by simp
    simp -dsimp
    have ht : List.take 9 (p.cells.map AV.iv) = p.cells.map AV.iv := List.take_of_length_le (by simp [hp9])
    refine ⟨by omega, ?_⟩
    refine call_pure (pred_Holds_spec hp (a :: b) (by omega)) (by simp [ht, Pd.av]) (by simp [Pd.av]) ?_
    simp -dsimp
set_option maxHeartbeats 8000000 in
theorem Changes_spec (es : List Ev) (os : List Ins) (table : Int) (k : Vl) (place : Int) {p : Pd} (hp : p.Ok) (hrow : RowsOk es) (hc : (chaB es os table k).length < 2 ^ 42) :
    GSpec prog true n_order_Book_Changes [.iv (bkIV es os), vi table, k.av, vi place, p.av] [] (vb (chgB es os table k place p)) [] := by
  refine gspec1 order_Book_Changes_is (by simp) (by decide) rfl ?_
  have h1 := fun v => Changes_1_spec es os table k hp v hrow
  have hch := chain_spec es os table k
  have hres : chgB es os table k place p = if place < 1 ∨ (chaB es os table k).length ≤ place then false else hldB es table k p (((chaB es os table k)[(place - 1).toNat]?).getD ⟨0, 0⟩) != hldB es table k p (((chaB es os table k)[place.toNat]?).getD ⟨0, 0⟩) := rfl
  generalize chgB es os table k place p = res at *
  generalize chaB es os table k = l at *
  simp -dsimp [order_Book_Changes, Pd.av_eq, bkIV]
  refine call_newH hch rfl (by simp [bkIV]) (by simp) (by simp) (by simp) ?_
  by_cases p1 : place < 1
  · rw [if_pos (.inl p1)] at hres
    subst hres
    simp -dsimp [p1]
  · by_cases p2 : (l.length : Int) ≤ place
    · rw [if_pos (.inr p2)] at hres
      subst hres
      simp -dsimp [p1, p2]
    · obtain ⟨q, rfl⟩ : ∃ q : Nat, place = ((q + 1 : Nat) : Int) := ⟨(place - 1).toNat, by omega⟩
      obtain ⟨x, hx⟩ : ∃ x, l[q]? = some x := some_at (by omega)
      obtain ⟨y, hy⟩ : ∃ y, l[q + 1]? = some y := some_at (by omega)
      have hw := wrap_in (n := ((q + 1 : Nat) : Int) - 1) (by omega)
      have hq : ((q + 1 : Nat) : Int) - 1 = q := by omega
      rw [if_neg (by omega), hq, Int.toNat_natCast, Int.toNat_natCast, hx, hy] at hres
      rw [hq] at hw
      subst hres
      have p1' : ¬((q : Int) + 1 < 1) := by omega
      have p2' : ¬((l.length : Int) ≤ (q : Int) + 1) := by omega
      have p0 : (0 : Int) ≤ (q : Int) + 1 := by omega
      have hw' : IntKind.i64.wrap (q : Int) = q := hw
      simp -dsimp [p1', p2', p0, hw', hx, hy, setRange]
      refine ⟨⟨ok_Changes_1, call_purev (h1 x) (by simp) (by simp [bkIV, Pd.cells_eq]) (by simp) ?_⟩, ?_⟩
      · simp -dsimp [setRange]
        refine ⟨ok_Changes_1, call_purev (h1 y) (by simp) (by simp [bkIV, Pd.cells_eq]) (by simp) ?_⟩
        simp -dsimp
      · refine ⟨ok_Changes_1, call_purev (h1 x) (by simp) (by simp [bkIV, Pd.cells_eq]) (by simp) ?_⟩
        simp -dsimp
        refine ⟨ok_Changes_1, call_purev (h1 y) (by simp) (by simp [bkIV, Pd.cells_eq]) (by simp) ?_⟩
        simp -dsimp
end Go.Rt
end

/- What a well formed history is like: its writes, its beginnings, its rows. -/
section
namespace Go.Rt
open Go.Vm
theorem lastB_uniq {α : Type} {p : α → Bool} {l : List α} (h : ∀ (i j : Nat) (a b : α), l[i]? = some a → l[j]? = some b → p a = true → p b = true → i = j) : lastB p l = l.find? p := by
  cases hf : l.find? p with
  | none =>
    rw [List.find?_eq_none] at hf
    rw [lastB_none]
    intro e he
    simpa using hf e he
  | some a =>
    have ha := List.mem_of_find?_eq_some hf
    have hpa := List.find?_some hf
    cases hl : lastB p l with
    | none => rw [lastB_none] at hl; rw [hl a ha] at hpa; cases hpa
    | some b =>
      obtain ⟨hb, hpb⟩ := lastB_some hl
      obtain ⟨i, hi⟩ := List.getElem?_of_mem ha
      obtain ⟨j, hj⟩ := List.getElem?_of_mem hb
      have := h i j a b hi hj hpa hpb
      subst this
      rw [hi] at hj; exact hj.symm
section
variable {h : Hs}
theorem well_ev (hw : WellP h) {i : Nat} {e : Ev} (he : h.events[i]? = some e) : EventOk h (h.events.take i) e ∧ InstalledOk h e := hw.2.1 i (List.getElem?_eq_some_iff.1 he).1 e he
theorem well_ins (hw : WellP h) {i : Nat} {o : Ins} (ho : h.order[i]? = some o) : InstallOk h i o := hw.2.2 i (List.getElem?_eq_some_iff.1 ho).1 o ho
theorem well_write (hw : WellP h) {i : Nat} {e : Ev} (he : h.events[i]? = some e) (hk : e.kind = 3) : WriteOk h (h.events.take i) e := (well_ev hw he).1.2.2.1 hk
theorem wrote_up {es : List Ev} {i j : Nat} (hij : i ≤ j) (txn table : Int) (k : Vl) : wrote (es.take i) txn table k ≤ wrote (es.take j) txn table k := by
  unfold wrote
  exact ((List.take_sublist_take_left hij).filter _).length_le
theorem wrote_lt {es : List Ev} {i j : Nat} {e : Ev} (he : es[i]? = some e) (hij : i < j) {txn table : Int} {k : Vl} (hw : e.isW txn table k = true) : wrote (es.take i) txn table k < wrote (es.take j) txn table k := by
  have h1 := wrote_take he txn table k
  rw [if_pos hw] at h1
  have h2 := wrote_up (es := es) (i := i + 1) (j := j) hij txn table k
  omega
theorem isW_key {e : Ev} {txn table : Int} {k : Vl} (h : e.isW txn table k = true) : e.kind = 3 ∧ e.txn = txn ∧ e.table = table ∧ e.key = k := by
  obtain ⟨h1, h2, h3, h4, h5, h6⟩ := Ev.isW_iff.1 h
  exact ⟨h1, h2, h3, Vl.eq_iff.2 ⟨h4, h5, h6⟩⟩
theorem write_n (hw : WellP h) {i : Nat} {e : Ev} (he : h.events[i]? = some e) {txn table : Int} {k : Vl} (hk : e.isW txn table k = true) : e.n = wrote (h.events.take i) txn table k + 1 := by
  obtain ⟨h1, rfl, rfl, rfl⟩ := isW_key hk
  exact (well_write hw he h1).2.1
theorem isN_iff {e : Ev} {txn table : Int} {k : Vl} {m : Int} : e.isN txn table k m = true ↔ e.isW txn table k = true ∧ e.n = m := by
  unfold Ev.isN; rw [Bool.and_eq_true, decide_eq_true_eq]
theorem isN_uniq (hw : WellP h) {txn table : Int} {k : Vl} {m : Int} : ∀ (i j : Nat) (a b : Ev), h.events[i]? = some a → h.events[j]? = some b → a.isN txn table k m = true → b.isN txn table k m = true → i = j := by
  intro i j a b hi hj ha hb
  rw [isN_iff] at ha hb
  have h1 := write_n hw hi ha.1
  have h2 := write_n hw hj hb.1
  rcases Nat.lt_trichotomy i j with g | g | g
  · have := wrote_lt hi g ha.1; omega
  · exact g
  · have := wrote_lt hj g hb.1; omega
theorem lastN_wrote (hw : WellP h) (txn table : Int) (k : Vl) : ∀ i, i ≤ h.events.length → lastN' (h.events.take i) txn table k = wrote (h.events.take i) txn table k := by
  intro i
  induction i with
  | zero => intro _; simp [lastN', lastB_nil, wrote]
  | succ i ih =>
    intro hi
    obtain ⟨e, he⟩ := some_at (l := h.events) (i := i) (by omega)
    have h1 := wrote_take he txn table k
    have htn : h.events.take (i + 1) = h.events.take i ++ [e] := by rw [List.take_add_one, he]; rfl
    rw [h1]
    unfold lastN'
    rw [htn, lastB_next]
    by_cases hk : e.isW txn table k = true
    · rw [if_pos hk, if_pos hk]
      have := write_n hw he hk
      simp [this]
    · rw [if_neg hk, if_neg hk]
      have := ih (by omega)
      unfold lastN' at this
      rw [this]; simp
theorem lastN_all (hw : WellP h) (txn table : Int) (k : Vl) : lastN' h.events txn table k = wrote h.events txn table k := by
  have := lastN_wrote hw txn table k h.events.length (Nat.le_refl _)
  rwa [List.take_length] at this
theorem find_isN (hw : WellP h) (txn table : Int) (k : Vl) (m : Int) : lastB (Ev.isN txn table k m) h.events = h.events.find? (Ev.isN txn table k m) := lastB_uniq (isN_uniq hw)
theorem right_size {v : Vl} (h : v.right = true) : v.s.size < 2 ^ 63 := by
  unfold Vl.right at h
  split at h
  · simp only [Bool.and_eq_true, decide_eq_true_eq] at h; omega
  · simp only [decide_eq_true_eq] at h; rw [h]; decide
theorem write_row (hw : WellP h) {e : Ev} (he : e ∈ h.events) (hk : e.kind = 3) : e.row.length < 2 ^ 40 ∧ ∀ x, x ∈ e.row → x.s.size < 2 ^ 63 := by
  obtain ⟨i, hi⟩ := List.getElem?_of_mem he
  rcases (well_write hw hi hk).2.2 with h1 | ⟨t, h1, h2, _⟩
  · rw [h1]; simp
  · obtain ⟨f1, f2, f3⟩ := h2
    have : t.length ≤ 4 := f1.2
    refine ⟨by omega, fun x hx => ?_⟩
    obtain ⟨j, hj⟩ := List.getElem?_of_mem hx
    have hjl := (List.getElem?_eq_some_iff.1 hj).1
    obtain ⟨c, hc⟩ := some_at (l := t) (i := j) (by omega)
    exact right_size (f3 j hjl x c hj hc).2
end
end Go.Rt
end

/- Whether a history is well formed can be decided, where it has no predicates. -/
section
namespace Go.Rt
open Go.Vm
instance decAt {α : Type} {l : List α} {i : Nat} {p : α → Prop} [∀ x, Decidable (p x)] : Decidable (∀ x, l[i]? = some x → p x) :=
  match h : l[i]? with
  | none => .isTrue fun x hx => by cases hx
  | some y => if hp : p y then .isTrue fun x hx => by cases hx; exact hp else .isFalse fun g => hp (g y rfl)
instance decEx {α : Type} {l : List α} {i : Nat} {p : α → Prop} [∀ x, Decidable (p x)] : Decidable (∃ x, l[i]? = some x ∧ p x) :=
  match h : l[i]? with
  | none => .isFalse fun ⟨x, hx, _⟩ => by cases hx
  | some y => if hp : p y then .isTrue ⟨y, rfl, hp⟩ else .isFalse fun ⟨x, hx, g⟩ => by cases hx; exact hp g
instance decUpto {n : Nat} {p : Nat → Prop} [∀ j, Decidable (p j)] : Decidable (Upto n p) := by unfold Upto; infer_instance
instance {es : List Ev} {t : Int} : Decidable (NoEnd es t) := by unfold NoEnd; infer_instance
instance {es : List Ev} {t : Int} : Decidable (Begun es t) := by unfold Begun; infer_instance
instance {es : List Ev} {e : Ev} : Decidable (FrameOk es e) := by unfold FrameOk; infer_instance
instance {t : Tb} : Decidable (TbOk t) := by unfold TbOk; infer_instance
instance {h : Hs} {table : Int} {k : Vl} : Decidable (KeyOk h table k) := by unfold KeyOk; infer_instance
instance {es : List Ev} {table : Int} {k : Vl} {v : Vs} : Decidable (VerOk es table k v) := by unfold VerOk; infer_instance
instance {t : Tb} {r : List Vl} {i : Nat} : Decidable (∀ (v : Vl) (c : Bool), r[i]? = some v → t[i]? = some c → v.text = c ∧ v.right = true) :=
  decidable_of_iff (∀ v, r[i]? = some v → ∀ c, t[i]? = some c → v.text = c ∧ v.right = true) ⟨fun h v c a b => h v a c b, fun h v a c b => h v c a b⟩
instance {t : Tb} {r : List Vl} {i : Nat} : Decidable (FitsAt t r i) := by unfold FitsAt; infer_instance
instance {t : Tb} {r : List Vl} : Decidable (Fits t r) := by unfold Fits; infer_instance
instance {h : Hs} {es : List Ev} {e : Ev} : Decidable (WriteOk h es e) := by unfold WriteOk; infer_instance
instance {h : Hs} {es : List Ev} {e : Ev} : Decidable (ReadOk h es e) := by unfold ReadOk; infer_instance
noncomputable instance {h : Hs} {es : List Ev} {e : Ev} : Decidable (PredOk h es e) := Classical.propDecidable _
noncomputable instance {h : Hs} {es : List Ev} {e : Ev} : Decidable (EventOk h es e) := by unfold EventOk; infer_instance
instance {table : Int} {k : Vl} {o : Ins} : Decidable (o.isOf table k) := by unfold Ins.isOf; infer_instance
instance {h : Hs} {e : Ev} : Decidable (InstalledOk h e) := by unfold InstalledOk; infer_instance
instance {h : Hs} {a : Nat} {o : Ins} : Decidable (InstallOk h a o) := by unfold InstallOk; infer_instance
instance {h : Hs} : Decidable (h.TbsOk) := by unfold Hs.TbsOk; infer_instance
instance {h : Hs} : Decidable (TablesOk h) := by unfold TablesOk; infer_instance
noncomputable instance {h : Hs} : Decidable (WellP h) := by unfold WellP; infer_instance
def k5 : Vl := ⟨false, 5, ⟨#[]⟩⟩
def noPd : Pd := .mk 0 0 Vl.zero Vl.zero []
def exB (t l : Int) : Ev := ⟨t, 1, l, 0, Vl.zero, ⟨0, 0⟩, 0, [], noPd, [], false⟩
def exW (t n : Int) (r : List Vl) : Ev := ⟨t, 3, 0, 0, k5, ⟨0, 0⟩, n, r, noPd, [], false⟩
def exC (t : Int) : Ev := ⟨t, 5, 0, 0, Vl.zero, ⟨0, 0⟩, 0, [], noPd, [], false⟩
def exH : Hs := ⟨[[false]], [exB 1 1, exB 2 2, exW 1 1 [k5], exW 1 2 [], exW 2 1 [k5], exC 1, exC 2], [⟨0, k5, [2, 1]⟩]⟩
theorem exH_well : WellP exH := by decide
end Go.Rt
end

/- Contracts: the document's example of ch. 19. -/
section
namespace Go.Rt
open Go.Vm
theorem noPd_ok : noPd.Ok := .mk _ (by decide) (by decide) (by decide) fun q hq => by cases hq
theorem exH_ok : exH.Ok := by
  refine ⟨by decide, by decide, by decide, fun e he => ?_, fun o ho => ?_, fun t ht => ?_, fun o ho => ?_⟩
  · have : e.row.length ≤ 1 ∧ e.refs = [] ∧ e.pred = noPd ∧ e.key.s = ⟨#[]⟩ := by
      simp only [exH, List.mem_cons, List.not_mem_nil, or_false] at he
      rcases he with rfl | rfl | rfl | rfl | rfl | rfl | rfl <;> exact ⟨by decide, rfl, rfl, rfl⟩
    obtain ⟨h1, h2, h3, h4⟩ := this
    exact ⟨by omega, by rw [h2]; decide, by rw [h3]; exact noPd_ok, by rw [h4]; decide, fun r hr => by rw [h2] at hr; cases hr⟩
  · simp only [exH, List.mem_singleton] at ho; subst ho; decide
  · simp only [exH, List.mem_singleton] at ht; subst ht; decide
  · simp only [exH, List.mem_singleton] at ho; subst ho; decide
theorem rows_ok {h : Hs} (hw : WellP h) : RowsOk h.events := fun _ he hk => (write_row hw he hk).1
theorem exH_rows : RowsOk exH.events := rows_ok exH_well
theorem ex_read : GSpec prog false n_order_Read [exH.av] [] (.iv (bkIV exH.events exH.order)) [] :=
  order_Read_yes exH_ok (by decide) exH_well exH_rows (by decide)
theorem exH_av : exH.av = .agg [.iv (.lst 1 [[.lst 1 [[cb false]]]]), .iv (.lst 22 (exH.events.map Ev.cells)), .iv (.lst 5 [[ci 0, cb false, ci 5, .v (.string ⟨#[]⟩), .lst 1 [[ci 2], [ci 1]]]])] := rfl
theorem exH_evs : exH.events.map Ev.cells = [(exB 1 1).cells, (exB 2 2).cells, (exW 1 1 [k5]).cells, (exW 1 2 []).cells, (exW 2 1 [k5]).cells, (exC 1).cells, (exC 2).cells] := rfl
theorem exB_c (t l : Int) : (exB t l).cells = [ci t, ci 1, ci l, ci 0, cb false, ci 0, .v (.string ⟨#[]⟩), ci 0, ci 0, ci 0, .lst 3 [], ci 0, ci 0, cb false, ci 0, .v (.string ⟨#[]⟩), cb false, ci 0, .v (.string ⟨#[]⟩), .lst 9 [], .lst 5 [], cb false] := by rw [Ev.cells_eq]; rfl
theorem exC_c (t : Int) : (exC t).cells = [ci t, ci 5, ci 0, ci 0, cb false, ci 0, .v (.string ⟨#[]⟩), ci 0, ci 0, ci 0, .lst 3 [], ci 0, ci 0, cb false, ci 0, .v (.string ⟨#[]⟩), cb false, ci 0, .v (.string ⟨#[]⟩), .lst 9 [], .lst 5 [], cb false] := by rw [Ev.cells_eq]; rfl
theorem exW_c (t n : Int) (r : List Vl) : (exW t n r).cells = [ci t, ci 3, ci 0, ci 0, cb false, ci 5, .v (.string ⟨#[]⟩), ci 0, ci 0, ci n, .lst 3 (rowC r), ci 0, ci 0, cb false, ci 0, .v (.string ⟨#[]⟩), cb false, ci 0, .v (.string ⟨#[]⟩), .lst 9 [], .lst 5 [], cb false] := by rw [Ev.cells_eq]; rfl
theorem ex_chain : chaB exH.events exH.order 0 k5 = [⟨0, 0⟩, ⟨2, 1⟩, ⟨1, 2⟩] := by decide
theorem ex_place : plaB exH.events exH.order 0 k5 ⟨1, 1⟩ = 2 := by decide
theorem ex_level : levB exH.events 2 = 2 := by decide
def trPd : Pd := .mk 1 0 Vl.zero Vl.zero []
theorem trPd_ok : trPd.Ok := .mk _ (by decide) (by decide) (by decide) fun q hq => by cases hq
theorem tr_holds (r : List Vl) : trPd.holds r = true := by rw [Pd.holds_eq]; rfl
theorem ex_changes : chgB exH.events exH.order 0 k5 2 trPd = true := by
  have h1 : rowB exH.events 0 k5 ⟨2, 1⟩ = some [k5] := by decide
  have h2 : rowB exH.events 0 k5 ⟨1, 2⟩ = some [] := by decide
  unfold chgB
  rw [ex_chain]
  simp [hldB, h1, h2, tr_holds]
theorem ex_chl : (chaB exH.events exH.order 0 k5).length < 2 ^ 42 := by rw [ex_chain]; decide
theorem ex_cs : GSpec prog false n_order_Book_Chain [.iv (bkIV exH.events exH.order), vi 0, k5.av] [] (.iv (.lst 2 [[ci 0, ci 0], [ci 2, ci 1], [ci 1, ci 2]])) [] := by
  have := Chain_spec exH.events exH.order 0 k5 ex_chl
  rw [ex_chain] at this
  exact this
theorem ex_ps : GSpec prog true n_order_Book_Place [.iv (bkIV exH.events exH.order), vi 0, k5.av, Vs.av ⟨1, 1⟩] [] (vi 2) [] := by
  have := Place_spec exH.events exH.order 0 k5 ⟨1, 1⟩ exH_rows ex_chl
  rw [ex_place] at this
  exact this
theorem ex_ls : GSpec prog true n_order_Book_Level [.iv (bkIV exH.events exH.order), vi 2] [] (vi 2) [] := by
  have := Level_spec exH.events exH.order 2
  rw [ex_level] at this
  exact this
theorem ex_gs : GSpec prog true n_order_Book_Changes [.iv (bkIV exH.events exH.order), vi 0, k5.av, vi 2, trPd.av] [] (vb true) [] := by
  have := Changes_spec exH.events exH.order 0 k5 2 trPd_ok exH_rows ex_chl
  rw [ex_changes] at this
  exact this
theorem bk_ne (es : List Ev) (os : List Ins) : peqV (.iv (bkIV es os)) (.iv (.v (.pointer none))) = some false := by simp [bkIV]
set_option maxHeartbeats 8000000 in
theorem awake_spec : GSpec prog true n_rl19_awake [] [] (vb true) [] := by
  refine gspec1 rl19_awake_is (by simp) (by decide) rfl ?_
  simp -dsimp [rl19_awake]
  refine call_le (le_drops [9, 14, 18, 23, 27, 29, 31, 34, 36, 2, 10, 19, 28] (by decide) _) ?_
  refine call_newH ex_read rfl (by rw [exH_av, exH_evs]; simp [exB_c, exC_c, exW_c, rowC, k5]) (by simp [exH_av]) (by simp) (by simp) ?_
  simp -dsimp
  refine call_newH ex_cs rfl (by simp [k5]) (by simp) (by simp) (by simp) ?_
  simp -dsimp [bk_ne, setRange]
  refine call_pure ex_ps (by simp [k5]) (by simp) ?_
  simp -dsimp
  refine call_pure ex_ls (by simp) (by simp) ?_
  simp -dsimp
  refine call_pure ex_gs (by simp [k5, trPd, Pd.av, Pd.cells, Pd.cellsL, Vl.zero]) (by simp [Pd.av]) ?_
  simp -dsimp
end Go.Rt
end

/- Chains of well formed histories. -/
section
namespace Go.Rt
open Go.Vm
theorem nodup_sub {α : Type} [DecidableEq α] : ∀ {l r : List α}, l.Nodup → (∀ x, x ∈ l → x ∈ r) → l.length ≤ r.length
  | [], _, _, _ => Nat.zero_le _
  | a :: l, r, hn, h => by
    have hn := List.nodup_cons.1 hn
    have ha := h a List.mem_cons_self
    have := nodup_sub (l := l) (r := r.erase a) hn.2 fun x hx => by
      refine (List.mem_erase_of_ne ?_).2 (h x (List.mem_cons_of_mem _ hx))
      rintro rfl; exact hn.1 hx
    rw [List.length_erase_of_mem ha] at this
    have := List.length_pos_of_mem ha
    simp only [List.length_cons]; omega
theorem take_nodup {α : Type} {l : List α} (h : ∀ (i : Nat) (t : α), l[i]? = some t → t ∉ l.take i) : l.Nodup := by
  unfold List.Nodup
  rw [List.pairwise_iff_getElem]
  intro i j hi hj hij he
  refine h j l[j] (List.getElem?_eq_getElem hj) (List.mem_of_getElem? (i := i) ?_)
  rw [List.getElem?_take_of_lt hij, List.getElem?_eq_getElem hi, he]
section
variable {h : Hs}
theorem wrote_mem {es : List Ev} {txn table : Int} {k : Vl} (hw : wrote es txn table k ≠ 0) : ∃ e, e ∈ es ∧ e.isW txn table k = true := by
  unfold wrote at hw
  obtain ⟨e, he⟩ := List.exists_mem_of_length_pos (Nat.pos_of_ne_zero hw)
  rw [List.mem_filter] at he
  exact ⟨e, he.1, he.2⟩
theorem txns_nodup (hw : WellP h) {o : Ins} (ho : o ∈ h.order) : o.txns.Nodup := by
  obtain ⟨i, hi⟩ := List.getElem?_of_mem ho
  exact take_nodup fun j t hj => ((well_ins hw hi).2.1 j (List.getElem?_eq_some_iff.1 hj).1 t hj).2.2
theorem txns_in (hw : WellP h) {o : Ins} (ho : o ∈ h.order) {t : Int} (ht : t ∈ o.txns) : ended h.events t = 5 ∧ wrote h.events t o.table o.key ≠ 0 := by
  obtain ⟨i, hi⟩ := List.getElem?_of_mem ho
  obtain ⟨j, hj⟩ := List.getElem?_of_mem ht
  have := (well_ins hw hi).2.1 j (List.getElem?_eq_some_iff.1 hj).1 t hj
  exact ⟨this.1, this.2.1⟩
theorem txns_le (hw : WellP h) {o : Ins} (ho : o ∈ h.order) : o.txns.length ≤ h.events.length := by
  have := nodup_sub (l := o.txns) (r := h.events.map Ev.txn) (txns_nodup hw ho) fun t ht => by
    obtain ⟨e, he, hk⟩ := wrote_mem (txns_in hw ho ht).2
    exact List.mem_map.2 ⟨e, he, (isW_key hk).2.1⟩
  simpa using this
theorem isO_iff {table : Int} {k : Vl} {o : Ins} : o.isO table k = true ↔ o.isOf table k := by
  unfold Ins.isO Ins.isOf
  rw [Bool.and_eq_true, decide_eq_true_eq, decide_eq_true_eq]
theorem isO_uniq (hw : WellP h) {table : Int} {k : Vl} : ∀ (i j : Nat) (a b : Ins), h.order[i]? = some a → h.order[j]? = some b → a.isO table k = true → b.isO table k = true → i = j := by
  have key : ∀ (i j : Nat) (a b : Ins), i < j → h.order[i]? = some a → h.order[j]? = some b → a.isO table k = true → b.isO table k = true → False := by
    intro i j a b hij hi hj ha hb
    rw [isO_iff] at ha hb
    refine (well_ins hw hj).1 a (List.mem_of_getElem? (i := i) ?_) ⟨ha.1.trans hb.1.symm, ha.2.trans hb.2.symm⟩
    rw [List.getElem?_take_of_lt hij]; exact hi
  intro i j a b hi hj ha hb
  rcases Nat.lt_trichotomy i j with g | g | g
  · exact (key i j a b g hi hj ha hb).elim
  · exact g
  · exact (key j i b a g hj hi hb ha).elim
theorem chaB_le (hw : WellP h) (table : Int) (k : Vl) : (chaB h.events h.order table k).length ≤ h.events.length + 1 := by
  unfold chaB
  cases ho : lastB (Ins.isO table k) h.order with
  | none => simp
  | some o =>
    have := txns_le hw (lastB_some ho).1
    simp [chnI]; omega
end
end Go.Rt
end

/- What a book of a well formed history tells of its events. -/
section
namespace Go.Rt
open Go.Vm
section
variable {h : Hs}
theorem isB_uniq (hw : WellP h) {txn : Int} : ∀ (i j : Nat) (a b : Ev), h.events[i]? = some a → h.events[j]? = some b → a.isB txn = true → b.isB txn = true → i = j := by
  have key : ∀ (i j : Nat) (a b : Ev), i < j → h.events[i]? = some a → h.events[j]? = some b → a.isB txn = true → b.isB txn = true → False := by
    intro i j a b hij hi hj ha hb
    simp only [Ev.isB, Bool.and_eq_true, decide_eq_true_eq] at ha hb
    obtain ⟨_, _, _, _, h5, _⟩ := (well_ev hw hj).1.1
    refine (h5 hb.1).1 ⟨a, List.mem_of_getElem? (i := i) ?_, ha.2.trans hb.2.symm⟩
    rw [List.getElem?_take_of_lt hij]; exact hi
  intro i j a b hi hj ha hb
  rcases Nat.lt_trichotomy i j with g | g | g
  · exact (key i j a b g hi hj ha hb).elim
  · exact g
  · exact (key j i b a g hj hi hb ha).elim
end
end Go.Rt
end

/- Plain facts of chains and of who committed. No code. -/
section
namespace Go.Rt
open Go.Vm
theorem ended_mem : ∀ {es : List Ev} {t : Int}, ended es t = 5 → ∃ e, e ∈ es ∧ e.txn = t ∧ e.kind = 5
  | [], _, h => by simp [ended] at h
  | x :: r, t, h => by
    rw [ended] at h
    by_cases hx : x.ends t
    · rw [if_pos hx] at h
      exact ⟨x, List.mem_cons_self, hx.1, h⟩
    · rw [if_neg hx] at h
      obtain ⟨e, h1, h2⟩ := ended_mem h
      exact ⟨e, List.mem_cons_of_mem _ h1, h2⟩
section
variable {h : Hs}
theorem commit_five (hw : WellP h) {t : Int} (ht : t ∈ commits h.events) : ended h.events t = 5 := by
  unfold commits at ht
  obtain ⟨e, he, rfl⟩ := List.mem_map.1 ht
  rw [List.mem_filter, decide_eq_true_eq] at he
  obtain ⟨i, hi⟩ := List.getElem?_of_mem he.1
  rw [ended_at (i := i) (e := e) ?_ hi ⟨rfl, .inl he.2⟩, he.2]
  intro j hj x hx hxe
  have := (well_ev hw hi).1.1.2.2.2.1 x (List.mem_of_getElem? (i := j) (by rw [List.getElem?_take_of_lt hj]; exact hx)) hxe.1
  rcases hxe.2 with g | g
  · exact this.1 g
  · exact this.2 g
theorem five_commit {t : Int} (h5 : ended h.events t = 5) : t ∈ commits h.events := by
  obtain ⟨e, h1, h2, h3⟩ := ended_mem h5
  unfold commits
  exact List.mem_map.2 ⟨e, List.mem_filter.2 ⟨h1, by simpa using h3⟩, h2⟩
theorem commits_nodup (hw : WellP h) : (commits h.events).Nodup := by
  unfold commits List.Nodup
  rw [List.pairwise_map, List.pairwise_filter, List.pairwise_iff_getElem]
  intro i j hi hj hij h1 h2 he
  simp only [decide_eq_true_eq] at h1 h2
  have hgi : h.events[i]? = some h.events[i] := List.getElem?_eq_getElem hi
  have hgj : h.events[j]? = some h.events[j] := List.getElem?_eq_getElem hj
  exact ((well_ev hw hgj).1.1.2.2.2.1 h.events[i] (List.mem_of_getElem? (i := i) (by rw [List.getElem?_take_of_lt hij]; exact hgi)) he).1 h1
def tsB (h : Hs) (table : Int) (k : Vl) : List Int := match lastB (Ins.isO table k) h.order with
  | some o => o.txns
  | none => []
variable {table : Int} {k : Vl}
theorem chaB_is (hw : WellP h) : chaB h.events h.order table k = ⟨0, 0⟩ :: (tsB h table k).map fun t => ⟨t, (wrote h.events t table k : Int)⟩ := by
  unfold chaB tsB
  cases ho : lastB (Ins.isO table k) h.order with
  | none => rfl
  | some o =>
    obtain ⟨h1, h2⟩ := lastB_some ho
    rw [isO_iff] at h2
    obtain ⟨h2, h3⟩ := h2
    simp only [chnI, lastN_all hw, h2, h3]
end
end Go.Rt
end

/- Reading a history as a contract. -/
section
namespace Go.Rt
open Go.Vm
theorem read_spec {h : Hs} (hok : h.Ok) (hev : h.events.length < 2 ^ 40) : (WellP h ∧ GSpec prog false n_order_Read [h.av] [] (.iv (bkIV h.events h.order)) []) ∨ (¬WellP h ∧ GSpec prog false n_order_Read [h.av] [] nilP []) := by
  by_cases hw : WellP h
  · exact .inl ⟨hw, order_Read_yes hok hev hw (rows_ok hw) fun o ho => Nat.lt_of_le_of_lt (txns_le hw ho) hev⟩
  · exact .inr ⟨hw, order_Read_no hok hev hw⟩
theorem hld_row {h : Hs} (hw : WellP h) {table : Int} {k : Vl} {v : Vs} : ∀ x, x ∈ (rowB h.events table k v).getD [] → x.s.size < 2 ^ 63 := by
  unfold rowB
  split
  · simp
  · cases hl : lastB (Ev.isN v.txn table k v.n) h.events with
    | none => simp
    | some e => exact (write_row hw (lastB_some hl).1 (isN_kind (lastB_some hl).2)).2
end Go.Rt
end

/- Contracts: all transactions, the document's way. -/
section
namespace Go.Rt
open Go.Vm
def posU (t : Int) : List Int → Nat
  | [] => 0
  | a :: r => if a < t then posU t r + 1 else 0
def insU (l : List Int) (t : Int) : List Int := if l[posU t l]? = some t then l else l.take (posU t l) ++ t :: l.drop (posU t l)
def stepT (out : List Int) (e : Ev) : List Int := if e.kind = 1 then insU out e.txn else out
def txns (es : List Ev) : List Int := es.foldl stepT []
theorem txns_next {es : List Ev} {i : Nat} {e : Ev} (h : es[i]? = some e) : txns (es.take (i + 1)) = stepT (txns (es.take i)) e := by
  unfold txns
  rw [List.take_add_one, h, List.foldl_append]; rfl
theorem posU_le (t : Int) : ∀ l, posU t l ≤ l.length
  | [] => Nat.le_refl _
  | a :: r => by
    unfold posU
    split
    · have := posU_le t r; simp only [List.length_cons]; omega
    · omega
theorem posU_lt {t : Int} : ∀ {l : List Int} {j : Nat} {x : Int}, j < posU t l → l[j]? = some x → x < t
  | [], j, x, h, _ => by simp [posU] at h
  | a :: r, j, x, h, hx => by
    unfold posU at h
    split at h
    · rename_i ha
      cases j with
      | zero => simp at hx; subst hx; exact ha
      | succ j => exact posU_lt (l := r) (j := j) (by omega) (by simpa using hx)
    · omega
theorem posU_at {t : Int} : ∀ {l : List Int} {x : Int}, l[posU t l]? = some x → ¬x < t
  | [], x, h => by simp [posU] at h
  | a :: r, x, h => by
    unfold posU at h
    split at h
    · exact posU_at (by simpa using h)
    · rename_i ha; simp at h; subst h; exact ha
theorem insU_len (l : List Int) (t : Int) : (insU l t).length ≤ l.length + 1 := by
  unfold insU
  split
  · omega
  · simp only [List.length_append, List.length_cons, List.length_take, List.length_drop]
    have := posU_le t l
    omega
theorem txns_len : ∀ (es : List Ev), (txns es).length ≤ es.length := by
  have : ∀ (es : List Ev) (l : List Int), (es.foldl stepT l).length ≤ l.length + es.length := by
    intro es
    induction es with
    | nil => intro l; simp
    | cons e es ih =>
      intro l
      have := ih (stepT l e)
      have h2 : (stepT l e).length ≤ l.length + 1 := by unfold stepT; split; exact insU_len _ _; omega
      simp only [List.foldl_cons, List.length_cons]
      omega
  intro es
  have := this es []
  simpa [txns] using this
theorem mem_insU {l : List Int} {t x : Int} : x ∈ insU l t ↔ x ∈ l ∨ x = t := by
  unfold insU
  split
  · rename_i h
    have := List.mem_of_getElem? h
    exact ⟨.inl, fun h => h.elim id fun e => e ▸ this⟩
  · simp only [List.mem_append, List.mem_cons]
    have : x ∈ l ↔ x ∈ l.take (posU t l) ∨ x ∈ l.drop (posU t l) := by
      rw [← List.mem_append, List.take_append_drop]
    rw [this]
    constructor
    · rintro (h | h | h)
      · exact .inl (.inl h)
      · exact .inr h
      · exact .inl (.inr h)
    · rintro ((h | h) | h)
      · exact .inl h
      · exact .inr (.inr h)
      · exact .inr (.inl h)
theorem mem_txns {es : List Ev} {t : Int} : t ∈ txns es ↔ ∃ e ∈ es, e.kind = 1 ∧ e.txn = t := by
  have key : ∀ (es : List Ev) (l : List Int), t ∈ es.foldl stepT l ↔ t ∈ l ∨ ∃ e ∈ es, e.kind = 1 ∧ e.txn = t := by
    intro es
    induction es with
    | nil => intro l; simp
    | cons e es ih =>
      intro l
      rw [List.foldl_cons, ih]
      unfold stepT
      split
      · rename_i hk
        rw [mem_insU]
        constructor
        · rintro ((h | h) | ⟨x, h1, h2⟩)
          · exact .inl h
          · exact .inr ⟨e, List.mem_cons_self, hk, h.symm⟩
          · exact .inr ⟨x, List.mem_cons_of_mem _ h1, h2⟩
        · rintro (h | ⟨x, h1, h2, h3⟩)
          · exact .inl (.inl h)
          · rcases List.mem_cons.1 h1 with rfl | h1
            · exact .inl (.inr h3.symm)
            · exact .inr ⟨x, h1, h2, h3⟩
      · rename_i hk
        constructor
        · rintro (h | ⟨x, h1, h2⟩)
          · exact .inl h
          · exact .inr ⟨x, List.mem_cons_of_mem _ h1, h2⟩
        · rintro (h | ⟨x, h1, h2, h3⟩)
          · exact .inl h
          · rcases List.mem_cons.1 h1 with rfl | h1
            · exact absurd h2 hk
            · exact .inr ⟨x, h1, h2, h3⟩
  simpa [txns] using key es []
theorem insU_sorted {l : List Int} {t : Int} (h : l.Pairwise (· < ·)) : (insU l t).Pairwise (· < ·) := by
  unfold insU
  split
  · exact h
  · rename_i hne
    have h1 : ∀ x ∈ l.take (posU t l), x < t := by
      intro x hx
      obtain ⟨i, hi⟩ := List.mem_iff_getElem?.1 hx
      rw [List.getElem?_take] at hi
      split at hi
      · rename_i hlt; exact posU_lt hlt hi
      · cases hi
    have h2 : ∀ x ∈ l.drop (posU t l), t < x := by
      intro x hx
      have hd : (l.drop (posU t l)).Pairwise (· < ·) := h.sublist (List.drop_sublist _ _)
      cases hdr : l.drop (posU t l) with
      | nil => rw [hdr] at hx; cases hx
      | cons y r =>
        have hy : l[posU t l]? = some y := by
          have : (l.drop (posU t l))[0]? = some y := by rw [hdr]; rfl
          simpa using this
        have h3 : t < y := by
          have := posU_at hy
          have : y ≠ t := fun e => hne (by rw [hy, e])
          omega
        rw [hdr] at hx hd
        rcases List.mem_cons.1 hx with rfl | hx
        · exact h3
        · have := (List.pairwise_cons.1 hd).1 x hx; omega
    refine List.pairwise_append.2 ⟨h.sublist (List.take_sublist _ _), List.pairwise_cons.2 ⟨h2, h.sublist (List.drop_sublist _ _)⟩, fun a ha b hb => ?_⟩
    rcases List.mem_cons.1 hb with rfl | hb
    · exact h1 a ha
    · have := h1 a ha; have := h2 b hb; omega
theorem txns_sorted (es : List Ev) : (txns es).Pairwise (· < ·) := by
  have key : ∀ (es : List Ev) (l : List Int), l.Pairwise (· < ·) → (es.foldl stepT l).Pairwise (· < ·) := by
    intro es
    induction es with
    | nil => intro l h; exact h
    | cons e es ih =>
      intro l h
      refine ih _ ?_
      unfold stepT
      split
      · exact insU_sorted h
      · exact h
  exact key es [] List.Pairwise.nil
def comT (es : List Ev) (l : List Int) : List Int := l.filter fun t => decide (ended es t = 5)
theorem comT_next {es : List Ev} {l : List Int} {i : Nat} {t : Int} (h : l[i]? = some t) : comT es (l.take (i + 1)) = if ended es t = 5 then comT es (l.take i) ++ [t] else comT es (l.take i) := by
  unfold comT
  rw [List.take_add_one, h, List.filter_append]
  by_cases hz : ended es t = 5 <;> simp [hz]
theorem comT_len (es : List Ev) (l : List Int) : (comT es l).length ≤ l.length := List.length_filter_le _ _
theorem comT_is {h : Hs} (hw : WellP h) : comT h.events (txns h.events) = sortI (commits h.events) := by
  have h1 : (comT h.events (txns h.events)).Pairwise (· < ·) := (txns_sorted _).filter _
  have hm : ∀ t, t ∈ comT h.events (txns h.events) ↔ t ∈ commits h.events := by
    intro t
    unfold comT
    rw [List.mem_filter, decide_eq_true_eq]
    constructor
    · exact fun g => five_commit g.2
    · intro g
      refine ⟨?_, commit_five hw g⟩
      rw [mem_txns]
      unfold commits at g
      obtain ⟨e, he, rfl⟩ := List.mem_map.1 g
      rw [List.mem_filter, decide_eq_true_eq] at he
      obtain ⟨i, hi⟩ := List.getElem?_of_mem he.1
      have hf := (well_ev hw hi).1.1
      obtain ⟨x, hx, hxt⟩ := hf.2.2.2.2.2 (by omega)
      have key : ∀ j, j ≤ h.events.length → ∀ x, x ∈ h.events.take j → ∃ y, y ∈ h.events ∧ y.kind = 1 ∧ y.txn = x.txn := by
        intro j
        induction j with
        | zero => intro _ x hx; simp at hx
        | succ j ih =>
          intro hj x hx
          obtain ⟨z, hz⟩ := some_at (l := h.events) (i := j) (by omega)
          rw [List.take_add_one, hz] at hx
          rcases List.mem_append.1 hx with hx | hx
          · exact ih (by omega) x hx
          · simp only [Option.toList_some, List.mem_singleton] at hx
            subst hx
            by_cases k1 : x.kind = 1
            · exact ⟨x, List.mem_of_getElem? hz, k1, rfl⟩
            · obtain ⟨y, hy, hyt⟩ := (well_ev hw hz).1.1.2.2.2.2.2 k1
              obtain ⟨q, q1, q2, q3⟩ := ih (by omega) y hy
              exact ⟨q, q1, q2, q3.trans hyt⟩
      obtain ⟨y, y1, y2, y3⟩ := key i (by have := (List.getElem?_eq_some_iff.1 hi).1; omega) x hx
      exact ⟨y, y1, y2, y3.trans hxt⟩
  have hnd : (comT h.events (txns h.events)).Nodup := h1.imp fun h => by omega
  have hp : (comT h.events (txns h.events)).Perm (commits h.events) := (List.perm_ext_iff_of_nodup hnd (commits_nodup hw)).2 hm
  have hp2 : (comT h.events (txns h.events)).Perm (sortI (commits h.events)) := hp.trans (List.mergeSort_perm _ _).symm
  refine hp2.eq_of_pairwise (le := fun a b : Int => decide (a ≤ b) = true) ?_ ?_ ?_
  · intro a b _ _ h1 h2; simp at h1 h2; omega
  · exact h1.imp fun h => by simp; omega
  · exact List.pairwise_mergeSort (by intro a b c; simp; omega) (by intro a b; simp; omega) _
end Go.Rt
end
