/- Contracts of functions of the program, and what they lean on. Conditions: those of each theorem. -/
import Derived.Test.YtiabgaimhgifeaaPE
import Derived.Test.YtiabgaimhgifeaaRows

set_option linter.unusedVariables false
set_option linter.unusedSimpArgs false

/- Contracts: HistShorter. -/
section
namespace Go.Rt
open Go.Vm

/-- what is asked of an event leans on the tables alone -/
theorem events_tables {h h' : Hs} (ht : h.tables = h'.tables) (es : List Ev) (e : Ev) : EventOk h es e ↔ EventOk h' es e := by
  obtain ⟨t, a, b⟩ := h
  obtain ⟨t', a', b'⟩ := h'
  cases ht
  exact Iff.rfl
theorem well_iff (h : Hs) : WellP h ↔ TablesOk h ∧ Events h h.events ∧ (∀ e, e ∈ h.events → InstalledOk h e) ∧ Upto h.order.length fun i => ∀ o, h.order[i]? = some o → InstallOk h i o := by
  unfold WellP Events
  refine and_congr_right fun _ => ?_
  constructor
  · rintro ⟨h1, h2⟩
    refine ⟨fun i hi e he => (h1 i hi e he).1, fun e he => ?_, h2⟩
    obtain ⟨i, hi⟩ := List.getElem?_of_mem he
    exact (h1 i (List.getElem?_eq_some_iff.1 hi).1 e hi).2
  · rintro ⟨h1, h2, h3⟩
    exact ⟨fun i hi e he => ⟨h1 i hi e he, h2 e (List.mem_of_getElem? he)⟩, h3⟩
theorem Events.snoc {h : Hs} {es : List Ev} {x : Ev} : Events h (es ++ [x]) ↔ Events h es ∧ EventOk h es x := upto_snoc (p := EventOk h)
theorem noEnd_ended {es : List Ev} {t : Int} (h : NoEnd es t) : ended es t = 0 := ended_none (noEnd_iff.1 h)

/-- behind an end nothing may be -/
theorem longer_ill {h : Hs} {e : Ev} (hE : ended h.events e.txn ≠ 0) : ¬WellP ⟨h.tables, h.events ++ [e], h.order⟩ := by
  rw [well_iff]
  rintro ⟨_, h2, _⟩
  have := (Events.snoc.1 h2).2.1.2.2.2.1
  exact hE (noEnd_ended this)
/-- without the last event, if that is no commit -/
theorem shorter_well {tb : List Tb} {es : List Ev} {x : Ev} {os : List Ins} (hx : x.kind ≠ 5) (h : WellP ⟨tb, es ++ [x], os⟩) : WellP ⟨tb, es, os⟩ := by
  rw [well_iff] at h ⊢
  obtain ⟨h1, h2, h3, h4⟩ := h
  obtain ⟨h5, h6⟩ := Events.snoc.1 h2
  have hE : ∀ t, ended (es ++ [x]) t = 5 ↔ ended es t = 5 := fun t => by
    by_cases hn : NoEnd es t
    · rw [ended_no hn, ended_one, noEnd_ended hn]
      split <;> omega
    · rw [ended_yes hn]
  refine ⟨h1, h5, fun e he k3 k5 => ?_, fun i hi o ho => ?_⟩
  · exact h3 e (List.mem_append_left _ he) k3 ((hE _).2 k5)
  · obtain ⟨g1, g2, g3⟩ := h4 i hi o ho
    refine ⟨g1, fun k hk t ht => ?_, g3⟩
    obtain ⟨a1, a2, a3⟩ := g2 k hk t ht
    have b1 := (hE t).1 a1
    refine ⟨b1, ?_, a3⟩
    have b2 : x.txn ≠ t := fun e => by
      have := noEnd_ended h6.1.2.2.2.1
      rw [e, b1] at this; omega
    have b3 : wrote (es ++ [x]) t o.table o.key = wrote es t o.table o.key := by
      rw [wrote_next, if_neg (fun g => b2 (Ev.isW_iff.1 g).2.1), Nat.add_zero]
    show wrote es t o.table o.key ≠ 0
    rw [← b3]; exact a2

def Ev.noPred (e : Ev) : Ev := { e with pred := noPd }
theorem Ev.noPred_ok {e : Ev} (h : e.Ok) : e.noPred.Ok := ⟨h.row, h.refs, exPd_ok, h.key, h.rkey⟩

theorem Ev.noPred_cells (e : Ev) : List.take 11 e.cells ++ ci 0 :: ci 0 :: cb false :: ci 0 :: .v (.string ⟨#[]⟩) :: cb false :: ci 0 :: .v (.string ⟨#[]⟩) :: .lst 9 [] :: List.drop 20 e.cells = e.noPred.cells := by
  rw [Ev.cells_eq, Ev.cells_eq]; simp [Ev.noPred, noPd, Vl.zero, Pd.op, Pd.col, Pd.v, Pd.w, Pd.l]
theorem evsC_snoc (es : List Ev) (e : Ev) : evsC es ++ [e.cells] = evsC (es ++ [e]) := by simp [evsC]
theorem evsC_take (es : List Ev) (n : Nat) : List.take n (evsC es) = evsC (es.take n) := by simp [evsC, List.map_take]

theorem HistShorter_spec {h : Hs} (hok : h.Ok) {e : Ev} (heok : e.Ok) : GSpec prog true n_ratlinelaw18_HistShorter [h.av, e.av] [] (vb true) [] := by
  refine gspec1 ratlinelaw18_HistShorter_is (by simp) (by decide) rfl ?_
  simp -dsimp [ratlinelaw18_HistShorter, Hs.av, Ev.av]
  refine call_pure awake_spec (by simp) (by simp) ?_
  simp -dsimp
  refine call_pure (ref18_Small_spec hok) (by simp [Hs.av]) (by simp [Hs.av]) ?_
  by_cases hs : SmallP h
  · by_cases h0 : h.events = []
    · simp -dsimp [hs, h0]
    · have hl := hs.events
      by_cases hr : 12 < (e.refs.length : Int)
      · simp -dsimp [hs, h0, hr]
      · by_cases hw : 12 < (e.row.length : Int)
        · simp -dsimp [hs, h0, hr, hw]
        · simp -dsimp [hs, h0, hr, hw]
          refine call_pure (hist_Check_spec hok hs.len) (by simp [Hs.av]) (by simp [Hs.av]) ?_
          by_cases hW : WellP h
          · rw [checkErr_yes ((check_iff _).2 hW)]
            simp -dsimp
            refine call_pure (hist_Ended_spec hok e.txn) (by simp [Hs.av]) (by simp [Hs.av]) ?_
            simp -dsimp
            have hne := List.length_pos_iff.2 h0
            obtain ⟨x, hx⟩ : ∃ x, h.events[h.events.length - 1]? = some x := some_at (by omega)
            have hsp : h.events = h.events.take (h.events.length - 1) ++ [x] := by rw [← take_next hx, Nat.sub_add_cancel hne, List.take_length]
            have hw1 := wrap_in (n := (h.events.length : Int) - 1) (by omega)
            have e1 : ((h.events.length : Int) - 1).toNat = h.events.length - 1 := by omega
            have e2 : (0 : Int) ≤ (h.events.length : Int) - 1 := by omega
            have e3 : (h.events.length : Int) - 1 ≤ h.events.length := by omega
            have hsW : x.kind ≠ 5 → WellP ⟨h.tables, h.events.take (h.events.length - 1), h.order⟩ := fun k => shorter_well (x := x) k (by rw [← hsp]; exact hW)
            have hsok : Hs.Ok ⟨h.tables, h.events.take (h.events.length - 1), h.order⟩ := ⟨hok.tables, by simp only [List.length_take]; omega, hok.order, fun e he => hok.ev e (List.mem_of_mem_take he), hok.txns, hok.tb, hok.cols⟩
            refine ⟨by omega, by omega, by omega, by omega, by omega, fun hE => ?_, fun hE => ?_⟩
            · have hlok : Hs.Ok ⟨h.tables, h.events ++ [e.noPred], h.order⟩ := ⟨hok.tables, by simp only [List.length_append, List.length_singleton]; omega, hok.order, fun e' he => by
                rcases List.mem_append.1 he with he | he
                · exact hok.ev e' he
                · simp only [List.mem_singleton] at he; subst he; exact Ev.noPred_ok heok, hok.txns, hok.tb, hok.cols⟩
              refine call_pure (hist_Check_spec hlok (by simp only [List.length_append, List.length_singleton]; omega)) (by simp [Hs.av, Ev.noPred_cells, evsC_snoc, evsC_take, List.take_of_length_le]) (by simp [Hs.av]) ?_
              rw [checkErr_no fun g => longer_ill (e := e.noPred) hE ((check_iff _).1 g)]
              simp -dsimp [hw1, e1, e2, hx]
              refine ⟨by omega, fun k5 => ⟨by omega, by omega, call_pure (hist_Check_spec hsok (by simp only [List.length_take]; omega)) (by simp [Hs.av, evsC_take]) (by simp [Hs.av]) ?_⟩⟩
              rw [checkErr_yes ((check_iff _).2 (hsW k5))]
              simp -dsimp
            · simp -dsimp [hw1, e1, e2, hx]
              refine ⟨by omega, fun k5 => ⟨by omega, by omega, call_pure (hist_Check_spec hsok (by simp only [List.length_take]; omega)) (by simp [Hs.av, evsC_take]) (by simp [Hs.av]) ?_⟩⟩
              rw [checkErr_yes ((check_iff _).2 (hsW k5))]
              simp -dsimp
          · rw [checkErr_no fun g => hW ((check_iff _).1 g)]
            simp -dsimp
  · simp -dsimp [hs]
end Go.Rt
end

/- Contracts: HistOrders. -/
section
namespace Go.Rt
open Go.Vm

theorem and_le (a : Int) (c : Nat) (hc : c < 2 ^ 63) : ∃ m : Nat, m ≤ c ∧ bits2 .and .i64 a c = m := by
  have h1 : (BitVec.ofInt 64 a &&& BitVec.ofInt 64 (c : Int)).toNat ≤ c := by
    rw [BitVec.toNat_and]
    refine Nat.le_trans Nat.and_le_right ?_
    rw [BitVec.toNat_ofInt]
    omega
  refine ⟨_, h1, ?_⟩
  show IntKind.i64.wrap ((BitVec.ofInt 64 a &&& BitVec.ofInt 64 (c : Int)).toNat : Int) = _
  rw [IntKind.wrap_i64]
  omega
theorem tmod_nat (m n : Nat) : (m : Int).tmod n = ((m % n : Nat) : Int) := by
  rw [Int.tmod_eq_emod_of_nonneg (by omega)]; omega

theorem mem_take {α : Type} {l : List α} {i : Nat} {x : α} : x ∈ l.take i ↔ ∃ j, j < i ∧ l[j]? = some x := by
  rw [List.mem_iff_getElem?]
  constructor
  · rintro ⟨j, hj⟩
    rw [List.getElem?_take] at hj
    split at hj
    · exact ⟨j, by assumption, hj⟩
    · cases hj
  · rintro ⟨j, h1, h2⟩
    exact ⟨j, by rw [List.getElem?_take, if_pos h1]; exact h2⟩
theorem set_at {α : Type} {l : List α} {k i : Nat} {o x y : α} (hk : l[k]? = some o) : (l.set k x)[i]? = some y ↔ (i = k ∧ x = y) ∨ (i ≠ k ∧ l[i]? = some y) := by
  have hl := (List.getElem?_eq_some_iff.1 hk).1
  rw [List.getElem?_set]
  by_cases h : k = i
  · subst h; simp [hl]
  · rw [if_neg h]
    constructor
    · intro g; exact .inr ⟨fun e => h e.symm, g⟩
    · rintro (⟨e, _⟩ | ⟨_, g⟩)
      · exact absurd e.symm h
      · exact g

/-- an order of a key's versions in place of another one -/
def Hs.put (h : Hs) (k : Nat) (o : Ins) (l : List Int) : Hs := ⟨h.tables, h.events, h.order.set k ⟨o.table, o.key, l⟩⟩

section
variable {h : Hs} {k : Nat} {o : Ins}
/-- keys are apart -/
theorem well_apart (hw : WellP h) {i j : Nat} {a b : Ins} (ha : h.order[i]? = some a) (hb : h.order[j]? = some b) (hk : a.isOf b.table b.key) : i = j := by
  have h4 := ((well_iff h).1 hw).2.2.2
  rcases Nat.lt_trichotomy i j with g | g | g
  · exact absurd hk ((h4 j (List.getElem?_eq_some_iff.1 hb).1 b hb).1 a (mem_take.2 ⟨i, g, ha⟩))
  · exact g
  · exact absurd ⟨hk.1.symm, hk.2.symm⟩ ((h4 i (List.getElem?_eq_some_iff.1 ha).1 a ha).1 b (mem_take.2 ⟨j, g, hb⟩))
theorem turned_well (ho : h.order[k]? = some o) (hw : WellP h) : WellP (h.put k o o.txns.reverse) := by
  have hap := @well_apart h hw
  rw [well_iff] at hw ⊢
  obtain ⟨h1, h2, h3, h4⟩ := hw
  have hl := (List.getElem?_eq_some_iff.1 ho).1
  refine ⟨h1, h2, fun e he k3 k5 => ?_, fun i hi p hp => ?_⟩
  · obtain ⟨x, g1, g2, g3⟩ := h3 e he k3 k5
    obtain ⟨j, hj⟩ := List.getElem?_of_mem g1
    by_cases hjk : j = k
    · subst hjk
      rw [ho] at hj; cases hj
      exact ⟨_, List.mem_of_getElem? ((set_at ho).2 (.inl ⟨rfl, rfl⟩)), g2, by simpa using g3⟩
    · exact ⟨x, List.mem_of_getElem? ((set_at ho).2 (.inr ⟨hjk, hj⟩)), g2, g3⟩
  · have key : ∀ (j : Nat) (x : Ins), (h.put k o o.txns.reverse).order[j]? = some x → ∃ y : Ins, h.order[j]? = some y ∧ y.table = x.table ∧ y.key = x.key := by
      intro j x hx
      rcases (set_at ho).1 hx with ⟨rfl, rfl⟩ | ⟨_, g⟩
      · exact ⟨o, ho, rfl, rfl⟩
      · exact ⟨x, g, rfl, rfl⟩
    refine ⟨fun x hx hk => ?_, ?_⟩
    · obtain ⟨j, hj, hx⟩ := mem_take.1 hx
      obtain ⟨y, g1, g2, g3⟩ := key j x hx
      obtain ⟨z, f1, f2, f3⟩ := key i p hp
      have := hap g1 f1 ⟨by rw [g2, f2]; exact hk.1, by rw [g3, f3]; exact hk.2⟩
      omega
    · rcases (set_at ho).1 hp with ⟨rfl, rfl⟩ | ⟨_, g⟩
      · obtain ⟨g1, g2, g3⟩ := h4 i hl o ho
        refine ⟨fun a ha t ht => ?_, by simpa using g3⟩
        simp only [List.length_reverse] at ha
        have ht' : o.txns[o.txns.length - 1 - a]? = some t := by rw [← List.getElem?_reverse ha]; exact ht
        obtain ⟨q1, q2, q3⟩ := g2 _ (by omega) t ht'
        refine ⟨q1, q2, fun hm => ?_⟩
        obtain ⟨b, hb, hb2⟩ := mem_take.1 hm
        have hb3 : o.txns[o.txns.length - 1 - b]? = some t := by rw [← List.getElem?_reverse (by omega)]; exact hb2
        exact (g2 _ (by omega) t hb3).2.2 (mem_take.2 ⟨_, by omega, ht'⟩)
      · exact (h4 i (List.getElem?_eq_some_iff.1 g).1 p g).2
theorem wrote_of (hw : WellP h) (ho : h.order[k]? = some o) {t : Int} (ht : t ∈ o.txns) : ∃ x, x ∈ h.events ∧ x.kind = 3 ∧ ended h.events x.txn = 5 ∧ x.txn = t ∧ x.table = o.table ∧ x.key = o.key := by
  obtain ⟨g1, g2, g3⟩ := ((well_iff h).1 hw).2.2.2 k (List.getElem?_eq_some_iff.1 ho).1 o ho
  obtain ⟨j, hj⟩ := List.getElem?_of_mem ht
  obtain ⟨q1, q2, q3⟩ := g2 j (List.getElem?_eq_some_iff.1 hj).1 t hj
  obtain ⟨x, a1, a2, a3, a4, a5⟩ := wrote_pos.1 (Nat.pos_of_ne_zero q2)
  exact ⟨x, a1, a2, by rw [a3]; exact q1, a3, a4, a5⟩
theorem left_out (ho : h.order[k]? = some o) (hw : WellP h) {l : List Int} {t : Int} (ht : t ∈ o.txns) (hn : t ∉ l) : ¬WellP (h.put k o l) := by
  intro hw'
  obtain ⟨x, a1, a2, a3, a4, a5, a6⟩ := wrote_of hw ho ht
  obtain ⟨p, b1, b2, b3⟩ := ((well_iff _).1 hw').2.2.1 x a1 a2 a3
  obtain ⟨j, hj⟩ := List.getElem?_of_mem b1
  rcases (set_at ho).1 hj with ⟨rfl, rfl⟩ | ⟨g1, g2⟩
  · rw [a4] at b3; exact hn b3
  · exact g1 (well_apart hw g2 ho ⟨by rw [b2.1, a5], by rw [b2.2, a6]⟩)
theorem twice_ill (ho : h.order[k]? = some o) {l : List Int} {t : Int} (ht : t ∈ l) : ¬WellP (h.put k o (l ++ [t])) := by
  intro hw'
  obtain ⟨g1, g2, g3⟩ := ((well_iff _).1 hw').2.2.2 k (by simpa [Hs.put] using (List.getElem?_eq_some_iff.1 ho).1) _ ((set_at ho).2 (.inl ⟨rfl, rfl⟩))
  exact (g2 l.length (by simp) t (by simp)).2.2 (by simpa using ht)
theorem again_ill (ho : h.order[k]? = some o) {l : List Int} : ¬WellP ⟨h.tables, h.events, h.order.set k ⟨o.table, o.key, l⟩ ++ [⟨o.table, o.key, l⟩]⟩ := by
  intro hw'
  have := ((well_iff _).1 hw').2.2.2 (h.order.set k ⟨o.table, o.key, l⟩).length (by simp) ⟨o.table, o.key, l⟩ (by simp)
  refine this.1 ⟨o.table, o.key, l⟩ ?_ ⟨rfl, rfl⟩
  simp only [List.take_left]
  exact List.mem_of_getElem? ((set_at ho).2 (.inl ⟨rfl, rfl⟩))
end
end Go.Rt
end

/- What the rows of this chapter share. -/
section
namespace Go.Proofs.Ytiabgaimhgifeaa
open Go.ChangeShapes Go.WideShapes Go.ChangeAt Go.RowKit Go.Vm Go.Rt
open Go.Proofs (Try.prog)

theorem own : ownKnob Try.prog.godebug = none := by kernel_rfl
theorem laidOut : laidOutB Try.prog = true := by kernel_rfl
def tset : List TypeId := [26, 22, 23, 24, 53, 51, 4, 42, 3, 32, 2, 9, 34, 36, 39, 37, 40, 70, 47, 45]
theorem tset_ok : plainSet Try.prog tset = true := by kernel_rfl
theorem readable : ∀ t ∈ [26, 42, 3], Try.prog.readableRec t = true ∧ t < Try.prog.types.size := by
  intro t ht
  simp only [List.mem_cons, List.not_mem_nil, or_false] at ht
  rcases ht with rfl | rfl | rfl
  · exact ⟨by kernel_rfl, of_decide_eq_true (by kernel_rfl)⟩
  · exact ⟨by kernel_rfl, of_decide_eq_true (by kernel_rfl)⟩
  · exact ⟨by kernel_rfl, of_decide_eq_true (by kernel_rfl)⟩
theorem agg26 : isAggT Try.prog 26 = true := by kernel_rfl
theorem agg42 : isAggT Try.prog 42 = true := by kernel_rfl
theorem agg3 : isAggT Try.prog 3 = false := by kernel_rfl

theorem args_hs_ev {css : List (List IV)} (h : WfArgs Try.prog [26, 42] css) : ∃ (h : Hs) (e : Ev), h.Ok ∧ e.Ok ∧ argsT Try.prog [26, 42] css = [h.av, e.av] := by
  match css, h with
  | [cs, ds], ⟨⟨f, h1⟩, ⟨g, h2⟩, _⟩ =>
    obtain ⟨h, rfl, hok⟩ := wf_hs h1
    obtain ⟨e, rfl, heok⟩ := wf_ev h2
    exact ⟨h, e, hok, heok, by simp only [argsT, agg26, agg42]; rfl⟩
theorem args_hs_int {css : List (List IV)} (h : WfArgs Try.prog [26, 3] css) : ∃ (h : Hs) (i : Int), h.Ok ∧ argsT Try.prog [26, 3] css = [h.av, vi i] := by
  match css, h with
  | [cs, ds], ⟨⟨f, h1⟩, ⟨g, h2⟩, _⟩ =>
    obtain ⟨h, rfl, hok⟩ := wf_hs h1
    obtain ⟨i, rfl, _⟩ := wf_int u3 h2
    exact ⟨h, i, hok, by simp only [argsT, agg26, agg3]; rfl⟩
end Go.Proofs.Ytiabgaimhgifeaa
end
