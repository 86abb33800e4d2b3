/- Contracts of functions of the program, and what they lean on. Conditions: those of each theorem. -/
import Derived.Test.YtiabgaimhgifeaaPK
import Derived.Sort.Grow
import Derived.Test.YtiabgaimhgifeaaPH
import Derived.Test.YtiabgaimhgifeaaPA
import Derived.Test.YtiabgaimhgifeaaSort

set_option linter.unusedVariables false
set_option linter.unusedSimpArgs false

/- Functions that hand back a list of their own. -/
section
namespace Go.Vm

theorem drop_keys {s : St} {id k : Nat} (h : k ∈ (s.drop id).hp.map (·.1)) : k ∈ s.hp.map (·.1) := by
  obtain ⟨o, ho⟩ := look_of_mem' h
  cases hs : look s.hp k with
  | none => rw [look_drop_none hs] at ho; cases ho
  | some o' => exact look_key hs
theorem drops_keys (D : List Nat) : ∀ {s : St} {k : Nat}, k ∈ (s.drops D).hp.map (·.1) → k ∈ s.hp.map (·.1) := by
  induction D with
  | nil => intro s k h; exact h
  | cons i D ih => intro s k h; exact drop_keys (ih h)

/-- a function's end with one plain value, some of its own things forgotten ahead -/
def EndD (D : List Nat) (t : Nat) (x : IV) (s : St) : Prop := D.all (· < 1000) = true ∧ (s.drops D).get t = .iv x ∧ smallH s.hp = true
attribute [simp] EndD
theorem gspec1D {P : Program} {f : FuncId} {args : List AV} {x : IV} {n t : Nat} {c : VCode} (D : List Nat) (hf : fnV P f = some (n, c, [.tmp t]))
    (hargs : args.length ≤ n) (hn : n ≤ 999) (hx : x.flat = true) (h : wpV P c ⟨argFr 0 args, []⟩ ⟨EndD D t x, fun _ _ => False, EndD D t x, fun _ _ => False⟩) : GSpec P true f args [] (.iv x) [] :=
  gspec_of_vc hf hargs rfl rfl (outs_mono (wpV_sound hn _ _ _ h) fun s h => by
    have hk : ((s.drops D).hp.map (·.1)).all (· < 1000) = true := by
      rw [List.all_eq_true]
      intro k hk
      exact List.all_eq_true.1 (smallH_all h.2.2) k (drops_keys D hk)
    obtain ⟨s', l, g1, g2⟩ := ends_iv h.2.1 hx hk
    exact ⟨s', l, (le_drops D h.1 s).trans g1, g2⟩)

/-- a function's end with one plain value that may lean on what came in -/
theorem gspec1L {P : Program} {f : FuncId} {args : List AV} {x : IV} {n t : Nat} {c : VCode} (D : List Nat) (hf : fnV P f = some (n, c, [.tmp t]))
    (hargs : args.length ≤ n) (hn : n ≤ 999) (h : wpV P c ⟨argFr 0 args, []⟩ ⟨EndD D t x, fun _ _ => False, EndD D t x, fun _ _ => False⟩) : GSpec P false f args [] (.iv x) [] :=
  gspec_of_vc hf hargs rfl rfl (outs_mono (wpV_sound hn _ _ _ h) fun s h => by
    have hk : ((s.drops D).hp.map (·.1)).all (· < 1000) = true := by
      rw [List.all_eq_true]
      intro k hk
      exact List.all_eq_true.1 (smallH_all h.2.2) k (drops_keys D hk)
    refine ⟨(s.drops D).drops ((s.drops D).hp.map (·.1)), [.iv x], (le_drops D h.1 s).trans (le_drops _ hk _), ?_, rfl, fun id => ?_, fun h => by cases h⟩
    · simp [resV, get_drops_iv _ h.2.1]
    · refine look_drops_none _ ?_
      cases hl : look (s.drops D).hp id with
      | none => exact .inr rfl
      | some o => exact .inl (List.contains_iff_mem.1 (look_mem hl)))

/-- what is a list stays one while others go -/
theorem get_drop_sl {s : St} {t id j sz lo len : Nat} (hj : id ≠ j) (h : s.get t = .sl j sz lo len) : (s.drop id).get t = .sl j sz lo len := by
  unfold St.drop
  split
  · exact h
  · simp only [St.get, St.mapc] at h ⊢
    rw [look_map (AV.mapc _)]
    cases hl : look s.fr t with
    | none => rw [hl] at h; cases h
    | some y =>
      rw [hl] at h
      simp only [Option.getD_some] at h
      subst h
      simp only [Option.map_some, Option.getD_some, AV.mapc, AV.fc]
      rw [if_neg (Ne.symm hj)]
      simp only [AV.kc]
      rw [if_neg (by simpa using Ne.symm hj)]
theorem look_drop_list {s : St} {id j sz : Nat} {xs : List (List IV)} (hj : id ≠ j) (h : look s.hp j = some (.list sz xs)) : look (s.drop id).hp j = some (.list sz xs) := by
  unfold St.drop
  split
  · exact h
  · simp only [look_filter, look_mapc, h, Option.map_some]
    rw [if_neg (Ne.symm hj)]
    rfl
theorem drops_list (D : List Nat) : ∀ {s : St} {t j sz len : Nat} {xs : List (List IV)}, j ∉ D → s.get t = .sl j sz 0 len → look s.hp j = some (.list sz xs) → (s.drops D).get t = .sl j sz 0 len ∧ look (s.drops D).hp j = some (.list sz xs) := by
  induction D with
  | nil => intro s t j sz len xs _ h1 h2; exact ⟨h1, h2⟩
  | cons i D ih =>
    intro s t j sz len xs hj h1 h2
    have hij : i ≠ j := fun e => hj (by simp [e])
    exact ih (fun h => hj (List.mem_cons_of_mem _ h)) (get_drop_sl hij h1) (look_drop_list hij h2)

def EndN (j sz t : Nat) (xs : List (List IV)) (s : St) : Prop := s.get t = .sl j sz 0 xs.length ∧ look s.hp j = some (.list sz xs) ∧ smallH s.hp = true
attribute [simp] EndN
/-- a function's end with a list of its own -/
theorem gspecN {P : Program} {f : FuncId} {args : List AV} {n t : Nat} {c : VCode} (j sz : Nat) (xs : List (List IV)) (hf : fnV P f = some (n, c, [.tmp t]))
    (hargs : args.length ≤ n) (hn : n ≤ 999) (hx : ∀ x ∈ xs, ∀ y ∈ x, y.flat = true) (h : wpV P c ⟨argFr 0 args, []⟩ ⟨EndN j sz t xs, fun _ _ => False, EndN j sz t xs, fun _ _ => False⟩) :
    GSpec P true f args [] (.sl j sz 0 xs.length) [(j, .list sz xs)] :=
  gspec_of_vc hf hargs rfl rfl (outs_mono (wpV_sound hn _ _ _ h) fun s h => by
    obtain ⟨h1, h2, h3⟩ := h
    let D := (s.hp.map (·.1)).filter (· ≠ j)
    have hD : D.all (· < 1000) = true := by
      rw [List.all_eq_true]
      intro k hk
      exact List.all_eq_true.1 (smallH_all h3) k (List.mem_filter.1 hk).1
    have hj : j ∉ D := fun hk => by have := (List.mem_filter.1 hk).2; simp at this
    obtain ⟨g1, g2⟩ := drops_list D hj h1 h2
    refine ⟨s.drops D, [.sl j sz 0 xs.length], le_drops D hD s, by simp [resV, g1], rfl, fun id => ?_, fun _ => ⟨rfl, fun id o ho => ?_⟩⟩
    · simp only [look]
      by_cases e : j = id
      · subst e; rw [if_pos rfl]; exact g2
      · rw [if_neg e]
        refine look_drops_none _ ?_
        cases hl : look s.hp id with
        | none => exact .inr rfl
        | some o => exact .inl (List.mem_filter.2 ⟨look_key hl, by simpa using Ne.symm e⟩)
    · simp only [look] at ho
      split at ho
      · cases ho; exact hx
      · cases ho)

/-- under any name -/
theorem GSpec.fresh {P : Program} {f : FuncId} {args : List AV} {j sz n : Nat} {xs : List (List IV)} (h : GSpec P true f args [] (.sl j sz 0 n) [(j, .list sz xs)]) (d : Nat)
    (hs : args.all AV.shal = true) (ha : ∀ ρ : Nat → Nat, args.map (AV.ren ρ) = args) : GSpec P true f args [] (.sl d sz 0 n) [(d, .list sz xs)] := by
  have := h.ren (Ren.swap j d) (by simp [hs, AV.shal, AV.shal2, AV.shal1, Ob.shal])
  rw [ha] at this
  have e : (Ren.swap j d).to j = d := by simp [Ren.swap, swapN]
  simpa [Hp.ren, AV.ren, AV.ren2, AV.ren1, Ob.ren, e] using this

/-- a call that hands back a new list -/
theorem call_new {P : Program} {d : Nat} {f : FuncId} {ops : List Operand} {s : St} {K : St → AV → Prop} {args : List AV} {sz n : Nat} {xs : List (List IV)} (h : GSpec P true f args [] (.sl d sz 0 n) [(d, .list sz xs)]) (hd : d < 1000)
    (ha : (((s.drop d).args [] ops []).map ((s.drop d).arg true [])) = args) (hr : args.all (AV.inns []) = true) (hk : K ((s.drop d).join [(d, .list sz xs)]) (.sl d sz 0 n)) : callW P d f [] ops [] none s K := by
  refine callK_of ⟨s, Le.refl s, true, [], .sl d sz 0 n, [(d, .list sz xs)], s.drop d, rfl, trivial, { spec := ?_, refs := ?_, sub := fun _ _ h => ?_, own := fun _ _ h => ?_, keep := fun _ _ h => ?_, new := fun id o h1 _ => ?_ }, hk⟩
  · rw [List.map_nil, ha]; exact h
  · rw [List.map_nil, ha]; exact hr
  · cases h
  · cases h
  · cases h
  · simp only [look] at h1
    split at h1
    · rename_i e; subst e; exact ⟨look_drop s d, hd⟩
    · cases h1
end Go.Vm
end

/- Functions that hand back a list of their own whose elements may lean on what came in. -/
section
namespace Go.Vm

theorem gspecNL {P : Program} {f : FuncId} {args : List AV} {n t : Nat} {c : VCode} (j sz : Nat) (xs : List (List IV)) (hf : fnV P f = some (n, c, [.tmp t]))
    (hargs : args.length ≤ n) (hn : n ≤ 999) (h : wpV P c ⟨argFr 0 args, []⟩ ⟨EndN j sz t xs, fun _ _ => False, EndN j sz t xs, fun _ _ => False⟩) :
    GSpec P false f args [] (.sl j sz 0 xs.length) [(j, .list sz xs)] :=
  gspec_of_vc hf hargs rfl rfl (outs_mono (wpV_sound hn _ _ _ h) fun s h => by
    obtain ⟨h1, h2, h3⟩ := h
    let D := (s.hp.map (·.1)).filter (· ≠ j)
    have hD : D.all (· < 1000) = true := by
      rw [List.all_eq_true]
      intro k hk
      exact List.all_eq_true.1 (smallH_all h3) k (List.mem_filter.1 hk).1
    have hj : j ∉ D := fun hk => by have := (List.mem_filter.1 hk).2; simp at this
    obtain ⟨g1, g2⟩ := drops_list D hj h1 h2
    refine ⟨s.drops D, [.sl j sz 0 xs.length], le_drops D hD s, by simp [resV, g1], rfl, fun id => ?_, fun h => by cases h⟩
    simp only [look]
    by_cases e : j = id
    · subst e; rw [if_pos rfl]; exact g2
    · rw [if_neg e]
      refine look_drops_none _ ?_
      cases hl : look s.hp id with
      | none => exact .inr rfl
      | some o => exact .inl (List.mem_filter.2 ⟨look_key hl, by simpa using Ne.symm e⟩))
theorem GSpec.freshL {P : Program} {fr : Bool} {f : FuncId} {args : List AV} {j sz n : Nat} {xs : List (List IV)} (h : GSpec P fr f args [] (.sl j sz 0 n) [(j, .list sz xs)]) (d : Nat)
    (hs : args.all AV.shal = true) (ha : ∀ ρ : Nat → Nat, args.map (AV.ren ρ) = args) : GSpec P fr f args [] (.sl d sz 0 n) [(d, .list sz xs)] := by
  have := h.ren (Ren.swap j d) (by simp [hs, AV.shal, AV.shal2, AV.shal1, Ob.shal])
  rw [ha] at this
  have e : (Ren.swap j d).to j = d := by simp [Ren.swap, swapN]
  simpa [Hp.ren, AV.ren, AV.ren2, AV.ren1, Ob.ren, e] using this
theorem call_newL {P : Program} {d : Nat} {f : FuncId} {ops : List Operand} {s s1 : St} {K : St → AV → Prop} {args : List AV} {sz n : Nat} {xs : List (List IV)} (h : GSpec P false f args [] (.sl d sz 0 n) [(d, .list sz xs)]) (hd : d < 1000)
    (hs1 : (s.frz ((s.args [] ops []).filter fun x => !x.inns [])).drop d = s1)
    (ha : ((s1.args [] ops []).map (s1.arg false [])) = args) (hr : args.all (AV.inns []) = true) (hk : K (s1.join [(d, .list sz xs)]) (.sl d sz 0 n)) : callW P d f [] ops [] none s K := by
  refine callK_of ⟨s, Le.refl s, false, [], .sl d sz 0 n, [(d, .list sz xs)], s1, hs1.symm, trivial, { spec := ?_, refs := ?_, sub := fun _ _ h => ?_, own := fun _ _ h => ?_, keep := fun _ _ h => ?_, new := fun id o h1 _ => ?_ }, hk⟩
  · rw [List.map_nil]; rw [ha]; exact h
  · rw [List.map_nil]; rw [ha]; exact hr
  · cases h
  · cases h
  · cases h
  · simp only [look] at h1
    split at h1
    · rename_i e; subst e; exact ⟨hs1 ▸ look_drop _ d, hd⟩
    · cases h1

theorem get_drop_ptr {s : St} {t id j off : Nat} (hj : id ≠ j) (h : s.get t = .ptr j off) : (s.drop id).get t = .ptr j off := by
  unfold St.drop
  split
  · exact h
  · simp only [St.get, St.mapc] at h ⊢
    rw [look_map (AV.mapc _)]
    cases hl : look s.fr t with
    | none => rw [hl] at h; cases h
    | some y =>
      rw [hl] at h
      simp only [Option.getD_some] at h
      subst h
      simp only [Option.map_some, Option.getD_some, AV.mapc, AV.fc]
      first
      | rfl
      | (simp [Ne.symm hj, AV.kc]; done)
      | (split <;> simp_all [AV.kc])
theorem look_drop_box {s : St} {id j : Nat} {cs : List IV} (hj : id ≠ j) (h : look s.hp j = some (.box (cs.map .iv))) : look (s.drop id).hp j = some (.box (cs.map .iv)) := by
  unfold St.drop
  split
  · exact h
  · rename_i o' _
    simp only [look_filter, look_mapc, h, Option.map_some]
    rw [if_neg (Ne.symm hj)]
    simp only [Ob.mapc, List.map_map, Option.some.injEq, Ob.box.injEq]
    refine List.map_congr_left fun a _ => ?_
    exact congrFun (gone_comp (id := id) (o := o')) a
theorem drops_box (D : List Nat) : ∀ {s : St} {t j off : Nat} {cs : List IV}, j ∉ D → s.get t = .ptr j off → look s.hp j = some (.box (cs.map .iv)) → (s.drops D).get t = .ptr j off ∧ look (s.drops D).hp j = some (.box (cs.map .iv)) := by
  induction D with
  | nil => intro s t j off cs _ h1 h2; exact ⟨h1, h2⟩
  | cons i D ih =>
    intro s t j off cs hj h1 h2
    have hij : i ≠ j := fun e => hj (by simp [e])
    exact ih (fun h => hj (List.mem_cons_of_mem _ h)) (get_drop_ptr hij h1) (look_drop_box hij h2)

/-- a function's end with a struct in a cell of its own -/
def EndC (D : List Nat) (t j : Nat) (cs : List IV) (s : St) : Prop := D.all (· < 1000) = true ∧ (s.drops D).get t = .ptr j 0 ∧ look (s.drops D).hp j = some (.box (cs.map .iv)) ∧ smallH s.hp = true
attribute [simp] EndC
theorem gspecCL {P : Program} {f : FuncId} {args : List AV} {n t k : Nat} {c : VCode} (D : List Nat) (j : Nat) (cs : List IV) (hk : cs.length = k) (hf : fnV P f = some (n, c, [.cell t (some k)]))
    (hargs : args.length ≤ n) (hn : n ≤ 999) (h : wpV P c ⟨argFr 0 args, []⟩ ⟨EndC D t j cs, fun _ _ => False, EndC D t j cs, fun _ _ => False⟩) :
    GSpec P false f args [] (.agg (cs.map .iv)) [(j, .box (cs.map .iv))] :=
  gspec_of_vc hf hargs rfl rfl (outs_mono (wpV_sound hn _ _ _ h) fun s h => by
    obtain ⟨h0, h1, h2, h3⟩ := h
    have hk1 : ((s.drops D).hp.map (·.1)).all (· < 1000) = true := by
      rw [List.all_eq_true]
      intro k hk
      exact List.all_eq_true.1 (smallH_all h3) k (drops_keys D hk)
    let E := ((s.drops D).hp.map (·.1)).filter (· ≠ j)
    have hE : E.all (· < 1000) = true := by
      rw [List.all_eq_true]
      intro k hk
      exact List.all_eq_true.1 hk1 k (List.mem_filter.1 hk).1
    have hj : j ∉ E := fun hk => by have := (List.mem_filter.1 hk).2; simp at this
    obtain ⟨g1, g2⟩ := drops_box E hj h1 h2
    refine ⟨(s.drops D).drops E, [.agg (cs.map .iv)], (le_drops D h0 s).trans (le_drops E hE _), ?_, rfl, fun id => ?_, fun h => by cases h⟩
    · subst hk
      simp [resV, g1, g2]
      exact List.take_of_length_le (by simp)
    · simp only [look]
      by_cases e : j = id
      · subst e; rw [if_pos rfl]; exact g2
      · rw [if_neg e]
        refine look_drops_none _ ?_
        cases hl : look (s.drops D).hp id with
        | none => exact .inr rfl
        | some o => exact .inl (List.mem_filter.2 ⟨look_key hl, by simpa using Ne.symm e⟩))

theorem call_newC {P : Program} {d : Nat} {f : FuncId} {ops : List Operand} {s s1 : St} {K : St → AV → Prop} {args : List AV} {res : AV} {o : Ob} (h : GSpec P false f args [] res [(d, o)]) (hd : d < 1000)
    (hs1 : (s.frz ((s.args [] ops []).filter fun x => !x.inns [])).drop d = s1)
    (ha : ((s1.args [] ops []).map (s1.arg false [])) = args) (hr : args.all (AV.inns []) = true) (hk : K (s1.join [(d, o)]) res) : callW P d f [] ops [] none s K := by
  refine callK_of ⟨s, Le.refl s, false, [], res, [(d, o)], s1, hs1.symm, trivial, { spec := ?_, refs := ?_, sub := fun _ _ h => ?_, own := fun _ _ h => ?_, keep := fun _ _ h => ?_, new := fun id o h1 _ => ?_ }, hk⟩
  · rw [List.map_nil]; rw [ha]; exact h
  · rw [List.map_nil]; rw [ha]; exact hr
  · cases h
  · cases h
  · cases h
  · simp only [look] at h1
    split at h1
    · rename_i e; subst e; exact ⟨hs1 ▸ look_drop _ d, hd⟩
    · cases h1
end Go.Vm
end

/- Functions that are ranged over, loops over such, and results that are left open: how their contracts are reckoned. -/
section
namespace Go.Vm

/-- a state whose somebody else says less -/
theorem le_ghZ {s : St} {g : Nat} {Z Z' : GZ} (hg : look s.hp g = some (.gh Z [] [])) (hz : ∀ A B w, Z A B w → Z' A B w) : Le s (s.add g (.gh Z' [] [])) := by
  rintro E n a w ⟨ψ, h⟩
  have lk : ∀ {id o}, look (s.add g (.gh Z' [] [])).hp id = some o → (id = g ∧ o = .gh Z' [] []) ∨ (id ≠ g ∧ look s.hp id = some o) := by
    intro id o ho
    rw [look_add] at ho
    by_cases e : g = id
    · subst e; rw [if_pos rfl] at ho; cases ho; exact .inl ⟨rfl, rfl⟩
    · rw [if_neg e] at ho; exact .inr ⟨Ne.symm e, ho⟩
  have old : ∀ {id o}, look (s.add g (.gh Z' [] [])).hp id = some o → ∃ o', look s.hp id = some o' ∧ o'.org id = o.org id ∧ o'.multi = o.multi := by
    intro id o ho
    rcases lk ho with ⟨rfl, rfl⟩ | ⟨_, h⟩
    · exact ⟨_, hg, rfl, rfl⟩
    · exact ⟨o, h, rfl, rfl⟩
  have hheld : ∀ b, Held ψ (s.add g (.gh Z' [] [])).hp b → Held ψ s.hp b := by
    rintro b ⟨id, o, ho, hb⟩
    obtain ⟨o', h1, _⟩ := old ho
    exact ⟨id, o', h1, hb⟩
  have hI : ∀ b, b < w.heap.size → Im E ψ s.hp b → Im E ψ (s.add g (.gh Z' [] [])).hp b := fun b _ hb => ⟨hb.1, fun hh => hb.2 (hheld b hh)⟩
  have hk : Keeps ψ ψ s.hp (s.add g (.gh Z' [] [])).hp := by
    intro id o ho
    refine ⟨?_, rfl⟩
    by_cases e : g = id
    · subst e; rw [hg] at ho; cases ho; exact ⟨_, by rw [look_add, if_pos rfl], Ob.le_none rfl⟩
    · exact ⟨o, by rw [look_add, if_neg e]; exact ho, o.le_refl⟩
  refine ⟨ψ, { size := h.size, defers := h.defers.mono hI (fun _ _ _ => rfl), frame := fun t => (h.frame t).mono hI (fun _ _ _ => rfl) hk, obs := fun id o ho => ?_, inj := fun id id' o o' b q1 q2 => ?_, own := fun id o b ho hb => ?_, subs := fun id o b ho hb => ?_, par := h.par, old := h.old, grow := h.grow, same := h.same }⟩
  · rcases lk ho with ⟨rfl, rfl⟩ | ⟨_, ho⟩
    · obtain ⟨q1, q2, _, _⟩ := h.obs id _ hg
      have q2' := q2.mono hI (fun _ h => h) (fun _ _ _ => rfl) (fun _ _ => rfl)
      exact ⟨q1, fun A' B' w' k1 k2 k3 k4 => hz _ _ _ (q2' A' B' w' k1 k2 k3 k4), rfl, by simp⟩
    · exact (h.obs id o ho).mono hI (fun _ _ _ => rfl) hk ⟨rfl, fun _ h => h⟩ (fun _ _ => rfl)
  · obtain ⟨o1, g1, _⟩ := old q1
    obtain ⟨o2, g2, _⟩ := old q2
    exact h.inj id id' o1 o2 b g1 g2
  · obtain ⟨o1, g1, g2, _⟩ := old ho
    rw [← g2]; exact h.own id o1 b g1 hb
  · obtain ⟨o1, g1, _, g3⟩ := old ho
    rw [← g3]; exact h.subs id o1 b g1 hb

/-- an iterator's end -/
def EndI (Ze : GZ) (s : St) : Prop := ∃ Z, look s.hp 1000 = some (.gh Z [] []) ∧ (∀ A B w, Z A B w → Ze A B w) ∧ ownH s.hp [1000] = true
theorem gspecI {P : Program} {f : FuncId} {args : List AV} {Z0 Ze : GZ} {n : Nat} {c : VCode} (hf : fnV P f = some (n, c, [])) (hargs : args.length ≤ n) (hn : n ≤ 999)
    (h : wpV P c ⟨argFr 0 args, [(1000, .gh Z0 [] [])]⟩ ⟨EndI Ze, fun _ _ => False, EndI Ze, fun _ _ => False⟩) : GSpec P false f args [(1000, .gh Z0 [] [])] (.tup []) [(1000, .gh Ze [] [])] :=
  gspec_of_vc hf hargs rfl rfl (outs_mono (wpV_sound hn _ _ _ h) fun s h => by
    obtain ⟨Z, h1, h2, h3⟩ := h
    obtain ⟨D, g1, g2⟩ := ends_own (H' := [(1000, .gh Z [] [])]) (s := s) ⟨h1, trivial⟩ h3 rfl
    have g3 : look (s.drops D).hp 1000 = some (.gh Z [] []) := by rw [g2]; rfl
    refine ⟨(s.drops D).add 1000 (.gh Ze [] []), [], (le_drops D g1 s).trans (le_ghZ g3 h2), rfl, rfl, fun id => ?_, fun h => by cases h⟩
    rw [look_add]
    by_cases e : 1000 = id
    · subst e; simp [look]
    · rw [if_neg e, g2]; simp [look, e])

/-- a call of yield -/
theorem yield_ok {P : Program} {l g : Nat} {Z Z' : GZ} {b : Bool} {xs : List IV} {ops : List Operand} {s : St} {K : St → AV → Prop} (hy : YSpec P l xs Z b Z') (hg : look s.hp g = some (.gh Z [] []))
    (hops : ops.map s.ev = xs.map AV.iv) (hk : K (s.join [(g, .gh Z' [] [])]) (.iv (.v (.bool b)))) : yieldW P l ops s K := ⟨s, g, Z, b, Z', xs, Le.refl s, hg, hops, hy, hk⟩
theorem yield_le {P : Program} {l g : Nat} {Z Z' : GZ} {b : Bool} {xs : List IV} {ops : List Operand} {s : St} {K : St → AV → Prop} (D : List Nat) (s1 : St) (hle : LeTo D s s1) (hy : YSpec P l xs Z b Z') (hg : look s1.hp g = some (.gh Z [] []))
    (hops : ops.map s1.ev = xs.map AV.iv) (hk : K (s1.join [(g, .gh Z' [] [])]) (.iv (.v (.bool b)))) : yieldW P l ops s K := ⟨s1, g, Z, b, Z', xs, hle.le, hg, hops, hy, hk⟩

/-- a loop over a function, none of whose rounds leaves it -/
theorem rng_all {P : Program} {g : Operand} {ps : List Nat} {X Y : VCode} {s : St} {O : Outs} (D D' : List Nat) (r : Nat) (fr : List (Nat × AV)) (I : List (List IV) → Prop) (H : List (List IV) → Hp)
    {f : FuncId} {caps : List IV} {Pre : List (List IV) → List IV → Prop} {S : List (List IV) → Prop} (hspec : ISpec P f caps Pre S) (h0 : LeTo D s ⟨fr, H []⟩) (hg : St.ev ⟨fr, H []⟩ g = .fn f [] (caps.map CapV.val)) (hok : okFn P f = true)
    (hr : r < 1000) (hr0 : look (H []) r = none) (hnd : (fr.map (·.1)).Nodup) (hlen : ∀ pre x, Pre pre x → x.length = ps.length) (hI : I [])
    (hround : ∀ vs pre x, I pre → Pre pre x → I (pre ++ [x]) ∧ wpV P X (parS ps x ⟨fr, (r, .gh ZT vs (frCs fr)) :: H pre⟩)
      ⟨fun s' => wpV P Y s' ⟨fun s2 => LeTo D' s2 ⟨[], (r, .gh ZT vs (frCs fr)) :: H (pre ++ [x])⟩, fun _ _ => False, fun _ => False, fun _ _ => False⟩, fun _ _ => False, fun _ => False, fun _ _ => False⟩)
    (hend : ∀ vs xs, I xs → S xs → O.n ⟨fr, (r, .gh ZT vs (frCs fr)) :: H xs⟩) : rngW P g ps X Y s O := by
  refine ⟨f, caps, Pre, S, r, fr, I, H, fun _ _ => true, fun _ _ => [], ⟨h0.le, hg, hok, hspec, hr, hr0, hnd, hlen, hI⟩, fun vs pre x q1 q2 _ => ⟨(hround vs pre x q1 q2).1, ?_⟩, fun _ _ _ _ _ h => (by cases h), fun vs xs q1 q2 => ⟨_, Le.refl _, hend vs xs q1 q2⟩⟩
  refine wpV_mono X ?_ ?_ ?_ ?_ (hround vs pre x q1 q2).2
  · intro s h
    refine wpV_mono Y ?_ ?_ ?_ ?_ h
    · exact fun s2 h => h.le
    · exact fun _ _ h => h
    · exact fun _ h => h
    · exact fun _ _ h => h
  · exact fun _ _ h => h
  · exact fun _ h => h
  · exact fun _ _ h => h

/-- what comes out is one of these: by reckoning -/
def EndR (t : Nat) (R : AV → Hp → Prop) (s : St) : Prop := ∃ (D : List Nat) (x : AV) (H' : Hp), R x H' ∧ LeTo D s ⟨[(t, x)], H'⟩
theorem gspecR {P : Program} {f : FuncId} {args : List AV} {n t : Nat} {c : VCode} (R : AV → Hp → Prop) (hf : fnV P f = some (n, c, [.tmp t])) (hargs : args.length ≤ n) (hn : n ≤ 999)
    (hR : ∀ x H', R x H' → (∀ id o, look H' id = some o → o.isLent = false) ∧ (∀ cs, x ≠ .tup cs))
    (h : wpV P c ⟨argFr 0 args, []⟩ ⟨EndR t R, fun _ _ => False, EndR t R, fun _ _ => False⟩) : GSpecN P false f args [] R :=
  gspecN_of_vc hf hargs rfl rfl (fun x H' h => (hR x H' h).1) (outs_mono (wpV_sound hn _ _ _ h) fun s h => by
    obtain ⟨D, x, H', h1, h2⟩ := h
    exact ⟨⟨[(t, x)], H'⟩, [x], H', h2.le, by simp [resV, St.get, look], h1, fun _ => rfl, fun h => by cases h⟩)
theorem gspecRf {P : Program} {f : FuncId} {args : List AV} {n t : Nat} {c : VCode} (R : AV → Hp → Prop) (hf : fnV P f = some (n, c, [.tmp t])) (hargs : args.length ≤ n) (hn : n ≤ 999)
    (hR : ∀ x H', R x H' → (∀ id o, look H' id = some o → o.isLent = false ∧ o.flat) ∧ x.flat = true)
    (h : wpV P c ⟨argFr 0 args, []⟩ ⟨EndR t R, fun _ _ => False, EndR t R, fun _ _ => False⟩) : GSpecN P true f args [] R :=
  gspecN_of_vc hf hargs rfl rfl (fun x H' h id o ho => ((hR x H' h).1 id o ho).1) (outs_mono (wpV_sound hn _ _ _ h) fun s h => by
    obtain ⟨D, x, H', h1, h2⟩ := h
    exact ⟨⟨[(t, x)], H'⟩, [x], H', h2.le, by simp [resV, St.get, look], h1, fun _ => rfl, fun _ => ⟨(hR x H' h1).2, fun id o ho => ((hR x H' h1).1 id o ho).2⟩⟩)

attribute [simp] argsOk
/-- a call that borrows alone, of a function whose result is left open; what comes is new -/
theorem call_open {P : Program} {d : Nat} {f : FuncId} {ops : List Operand} {s : St} {K : St → AV → Prop} {args : List AV} {R : AV → Hp → Prop} (h : GSpecN P true f args [] R)
    (ha : argsOk (s.drop d) true [] ((s.drop d).args [] ops []) args) (hr : args.all (AV.inns []) = true)
    (hnew : ∀ x H', R x H' → ∀ id o, look H' id = some o → look (s.drop d).hp id = none ∧ id < 1000) (hk : ∀ x H', R x H' → K ((s.drop d).join H') x) : callW P d f [] ops [] none s K :=
  ⟨s, Le.refl s, true, [], R, s.drop d, rfl, trivial, args, ha, { spec := h, refs := hr, sub := fun _ _ h => (by cases h), own := fun _ _ h => (by cases h), keep := fun _ _ _ _ _ h => (by cases h), new := fun x H' hR id o h1 _ => hnew x H' hR id o h1 }, hk⟩


end Go.Vm
end

/- From the library's contract for a sort of numbers to a contract of the machine. -/
section
namespace Go.Vm
open Go.Sort (Holds putRow grow putCells mapBlock)

def numsC (l : List Int) : List (List IV) := l.map fun i => [.v (.int .i64 i)]
def sortI (l : List Int) : List Int := l.mergeSort fun x y => decide (x ≤ y)

theorem nums_at {l : List Int} {i j : Nat} {c : IV} (h : at2 (numsC l) i j = some c) : j = 0 ∧ ∃ n, l[i]? = some n ∧ c = .v (.int .i64 n) := by
  unfold at2 numsC at h
  rw [List.getElem?_map] at h
  cases hl : l[i]? with
  | none => rw [hl] at h; simp at h
  | some n =>
    rw [hl] at h
    simp only [Option.map_some, Option.bind_some] at h
    cases j with
    | zero => simp at h; exact ⟨rfl, n, rfl, h.symm⟩
    | succ j => simp at h
theorem nums_at0 {l : List Int} {i : Nat} {n : Int} (h : l[i]? = some n) : at2 (numsC l) i 0 = some (.v (.int .i64 n)) := by
  unfold at2 numsC; rw [List.getElem?_map, h]; rfl
theorem riv_int {A : Nat → Prop} {w : World} {n : Int} {v : Value} (h : RIV A w (.v (.int .i64 n)) v) : v = .int .i64 n := by cases h; rfl

theorem gspec_rowF {P : Program} {f : FuncId} (F : List Int → List Int) (hF : ∀ l, (F l).length = l.length) (hF0 : F [] = [])
    (hs : ∀ (blk off cap : Nat) (zs : List Int) (w : World), Holds (Value.int .i64) w blk off zs.toArray → blk < w.heap.size → zs.length < 4611686018427387904 →
      Calls P f #[.slice (some ⟨blk, off, none⟩) zs.length cap] w fun e w' => e = .returned (.tuple #[]) ∧ ∃ n os, w' = grow (putRow (Value.int .i64) (Go.Sort.ahead w n) blk off (F zs).toArray) os)
    (hn : ∀ (p : Option Addr) (cap : Nat) (w : World), Calls P f #[.slice p 0 cap] w fun e w' => e = .returned (.tuple #[]) ∧ w' = w)
    (xs : List Int) (hl : xs.length < 2 ^ 62) : GSpec P false f [.sl 1000 1 0 xs.length] [(1000, .list 1 (numsC xs))] (.tup []) [(1000, .list 1 (numsC (F xs)))] := by
  have hlen : (F xs).length = xs.length := hF xs
  have look1 : ∀ {o : Ob} {id : Nat} {q : Ob}, look [(1000, o)] id = some q → id = 1000 ∧ q = o := by
    intro o id q h
    simp only [look] at h
    split at h
    · exact ⟨by omega, by cases h; rfl⟩
    · cases h
  refine ⟨⟨fun id o h => by obtain ⟨_, rfl⟩ := look1 h; rfl, fun id o h => by obtain ⟨_, rfl⟩ := look1 h; rfl⟩, ?_⟩
  intro A ψ w vs hA hob hinj hsubs hheld hvl hrav
  have ho := hob 1000 (.list 1 (numsC xs)) rfl
  have hr := hrav 0 _ rfl
  obtain ⟨v, rfl⟩ : ∃ v, vs = [v] := by
    match vs, hvl with
    | [v], _ => exact ⟨v, rfl⟩
  simp only [List.getD_eq_getElem?_getD, List.getElem?_cons_zero, Option.getD_some] at hr
  have key : ∀ (w' : World), w.heap.size ≤ w'.heap.size → Same w w' → (∀ b, b < w.heap.size → ¬Held ψ [(1000, .list 1 (numsC xs))] b → w'.heap[b]? = w.heap[b]?) →
      ROb (fun b => ((false = false ∧ A b) ∨ w.heap.size ≤ b) ∧ ¬Held ψ [(1000, .list 1 (numsC (F xs)))] b) ψ [(1000, .list 1 (numsC (F xs)))] w' 1000 (.list 1 (numsC (F xs))) →
      ∃ v ψ', (Ending.returned (.tuple #[]) : Ending) = .returned v ∧
      (∀ b, b < w.heap.size → ¬Held ψ [(1000, .list 1 (numsC xs))] b → w'.heap[b]? = w.heap[b]?) ∧ w.heap.size ≤ w'.heap.size ∧ Same w w' ∧
      (∀ id o, look [(1000, Ob.list 1 (numsC xs))] id = some o → ψ'.main id = ψ id) ∧
      (∀ id o b, look [(1000, Ob.list 1 (numsC (F xs)))] id = some o → Owns ψ' id b → (∃ o0, look [(1000, Ob.list 1 (numsC xs))] id = some o0 ∧ Owns ψ id b) ∨ w.heap.size ≤ b) ∧
      (∀ id id' o o' b, look [(1000, Ob.list 1 (numsC (F xs)))] id = some o → look [(1000, Ob.list 1 (numsC (F xs)))] id' = some o' → Owns ψ' id b → Owns ψ' id' b → id = id') ∧ Subs ψ' [(1000, .list 1 (numsC (F xs)))] w' ∧
      (∀ id o, look [(1000, Ob.list 1 (numsC (F xs)))] id = some o → ROb (fun b => ((false = false ∧ A b) ∨ w.heap.size ≤ b) ∧ ¬Held ψ' [(1000, .list 1 (numsC (F xs)))] b) ψ' [(1000, .list 1 (numsC (F xs)))] w' id o) ∧
      RAV (fun b => ((false = false ∧ A b) ∨ w.heap.size ≤ b) ∧ ¬Held ψ' [(1000, .list 1 (numsC (F xs)))] b) ψ' [(1000, .list 1 (numsC (F xs)))] w' (.tup []) v := by
    intro w' h1 h2 h3 h4
    refine ⟨.tuple #[], ψ, rfl, h3, h1, h2, fun _ _ _ => rfl, fun id o b h hb => .inl ?_, fun id id' o o' b h h' _ _ => ?_, fun id o b h hb => ?_, fun id o h => ?_, .tup [] #[] rfl (fun i c h => by simp at h)⟩
    · obtain ⟨rfl, rfl⟩ := look1 h; exact ⟨.list 1 (numsC xs), rfl, hb⟩
    · obtain ⟨rfl, _⟩ := look1 h; obtain ⟨rfl, _⟩ := look1 h'; rfl
    · obtain ⟨rfl, rfl⟩ := look1 h
      have := (hsubs 1000 (.list 1 (numsC xs)) b rfl hb).1
      cases this
    · obtain ⟨rfl, rfl⟩ := look1 h; exact h4
  obtain ⟨hw1, ho⟩ := ho
  by_cases hx : xs = []
  · subst hx
    have hv : ∃ p cap, v = .slice p 0 cap := by
      cases hr with
      | sl0 => exact ⟨_, _, rfl⟩
      | sl => exact ⟨_, _, rfl⟩
    obtain ⟨p, cap, rfl⟩ := hv
    refine (hn p cap w).mono ?_
    rintro e w' ⟨rfl, rfl⟩
    refine key w' (Nat.le_refl _) ⟨rfl, rfl, rfl⟩ (fun _ _ _ => rfl) ?_
    have hso : F [] = [] := hF0
    rw [hso]
    refine ⟨hw1, ?_⟩
    rcases ho with ⟨g1, g2⟩ | ⟨b, k, c, e, g1, g2, g3, g4, g5⟩
    · exact .inl ⟨g1, g2⟩
    · exact .inr ⟨b, k, c, e, g1, g2, g3, g4, fun i j x h => by simp [at2, numsC] at h⟩
  · have hpos := List.length_pos_iff.2 hx
    rcases ho with ⟨_, g2⟩ | ⟨b, k, c, e, g1, g2, g3, g4, g5⟩
    · exact absurd (by simpa [numsC] using g2) hx
    · obtain ⟨cap, rfl⟩ : ∃ cap, v = .slice (some ⟨b, k.1, none⟩) xs.length cap := by
        generalize hlx : xs.length = n at hr hpos
        cases hr with
        | sl0 => omega
        | sl id sz lo len b' k' cap a o n' ho' he hxx hb ha hlc hk hm =>
          rw [g1] at hb; cases hb
          have := ha (by omega)
          rw [Nat.zero_mul, Nat.add_zero] at this
          subst this
          exact ⟨cap, rfl⟩
      have hbl : b < w.heap.size := heap_lt g2
      have hB : Held ψ [(1000, .list 1 (numsC xs))] b := ⟨1000, .list 1 (numsC xs), rfl, .inl ⟨k, g1⟩⟩
      have hcell : ∀ i n, xs[i]? = some n → c[k.1 + i]? = some (.int .i64 n) := by
        intro i n hi
        have h5 := riv_int (g5 i 0 _ (nums_at0 hi))
        have hil := (List.getElem?_eq_some_iff.1 hi).1
        have hcs : k.1 + i < c.size := by simp only [numsC, List.length_map] at g4; omega
        rw [Nat.mul_one, Nat.add_zero] at h5
        rw [Array.getD_eq_getD_getElem?, Array.getElem?_eq_getElem hcs] at h5
        rw [Array.getElem?_eq_getElem hcs]
        exact congrArg some h5
      have hH : Holds (Value.int .i64) w b k.1 xs.toArray := by
        intro j hj
        simp only [List.size_toArray] at hj
        have hj2 := List.getElem?_eq_getElem hj
        constructor
        · simp only [World.cell?, g2]
          rw [hcell j _ hj2]
          simp [hj]
        · simp only [World.frozen?, g2]
          simp
      refine (hs b k.1 cap xs w hH hbl (by omega)).mono ?_
      rintro ex w' ⟨rfl, n, os, rfl⟩
      have hsz : (putRow (Value.int .i64) (Go.Sort.ahead w n) b k.1 (F xs).toArray).heap.size = w.heap.size := by simp [putRow, mapBlock, Go.Sort.ahead]
      have hother : ∀ i, i ≠ b → i < w.heap.size → (grow (putRow (Value.int .i64) (Go.Sort.ahead w n) b k.1 (F xs).toArray) os).heap[i]? = w.heap[i]? := by
        intro i hi hlt
        rw [Go.Sort.heap_grow_old _ _ (by rw [hsz]; exact hlt)]
        simp only [putRow, mapBlock, Go.Sort.ahead, Array.getElem?_modify]
        rw [if_neg (Ne.symm hi)]
      have hmine : (grow (putRow (Value.int .i64) (Go.Sort.ahead w n) b k.1 (F xs).toArray) os).heap[b]? = some (.cells (putCells (Value.int .i64) k.1 (F xs).toArray c) e (0, 0)) := by
        rw [Go.Sort.heap_grow_old _ _ (by rw [hsz]; exact hbl)]
        simp only [putRow, mapBlock, Go.Sort.ahead, Array.getElem?_modify, if_true]
        rw [g2]; rfl
      refine key _ (by rw [Go.Sort.size_grow, hsz]; omega) ⟨rfl, rfl, rfl⟩ (fun i hi hh => hother i (fun e => hh (e ▸ hB)) hi) ?_
      refine ⟨fun x hxm => ?_, .inr ⟨b, k, _, e, g1, hmine, ?_, ?_, fun i j x h => ?_⟩⟩
      · simp only [numsC, List.mem_map] at hxm
        obtain ⟨_, _, rfl⟩ := hxm; rfl
      · simp only [putCells, Array.size_mapIdx]; exact g3
      · simp only [numsC, List.length_map] at g4 ⊢; omega
      · obtain ⟨rfl, m, hm, rfl⟩ := nums_at h
        have hil := (List.getElem?_eq_some_iff.1 hm).1
        rw [hlen] at hil
        simp only [numsC, List.length_map] at g4
        have hlt : k.1 + (i * 1 + 0) < (putCells (Value.int .i64) k.1 (F xs).toArray c).size := by simp only [putCells, Array.size_mapIdx]; omega
        have : (putCells (Value.int .i64) k.1 (F xs).toArray c).getD (k.1 + (i * 1 + 0)) undef = .int .i64 m := by
          rw [Array.getD_eq_getD_getElem?, Array.getElem?_eq_getElem hlt, Option.getD_some]
          simp only [putCells, Array.getElem_mapIdx, List.size_toArray, hlen]
          rw [if_pos (by omega)]
          have e1 : k.1 + (i * 1 + 0) - k.1 = i := by omega
          rw [e1]
          have := hm
          simp [List.getElem!_eq_getElem?_getD, this]
        rw [this]
        exact .v _ rfl
end Go.Vm
end

/- A function that does nothing to an empty row. -/
section
namespace Go.Vm
theorem gspec_none {P : Program} {f : FuncId}
    (hn : ∀ (p : Option Addr) (cap : Nat) (w : World), Calls P f #[.slice p 0 cap] w fun e w' => e = .returned (.tuple #[]) ∧ w' = w) : GSpec P true f [.iv (.lst 1 [])] [] (.tup []) [] := by
  refine ⟨⟨fun id o h => (by cases h), fun id o h => by cases h⟩, ?_⟩
  intro A ψ w vs hA hob hinj hsubs hheld hvl hrav
  have hr := hrav 0 _ rfl
  obtain ⟨v, rfl⟩ : ∃ v, vs = [v] := by
    match vs, hvl with
    | [v], _ => exact ⟨v, rfl⟩
  simp only [List.getD_eq_getElem?_getD, List.getElem?_cons_zero, Option.getD_some] at hr
  have hv : ∃ p cap, v = .slice p 0 cap := by
    cases hr with
    | iv _ _ h =>
      generalize hx : IV.lst 1 [] = x at h
      cases h <;> try cases hx
      · exact ⟨_, _, rfl⟩
      · exact ⟨_, _, rfl⟩
  obtain ⟨p, cap, rfl⟩ := hv
  refine (hn p cap w).mono ?_
  rintro e w' ⟨rfl, rfl⟩
  refine ⟨.tuple #[], ψ, rfl, fun _ _ _ => rfl, Nat.le_refl _, ⟨rfl, rfl, rfl⟩, fun _ _ _ => rfl, fun id o b h => (by cases h), fun id id' o o' b h => (by cases h), fun id o b h => (by cases h), fun id o h => (by cases h), .tup [] #[] rfl (fun i c h => by simp at h)⟩
end Go.Vm
end

/- Contracts: the keys of a map as a function that is ranged over; a row of what such a function hands over; sorted. -/
section
namespace Go.Rt
open Go.Vm

def krow (k : Int) : List IV := [.v (.int .i64 k)]
def krows (ks : List Int) : List (List IV) := ks.map krow
/-- what may come behind what, of these keys -/
def PreK (L : List Int) (pre : List (List IV)) (x : List IV) : Prop := ∃ ks k, pre = krows ks ∧ x = krow k ∧ (ks ++ [k]).Nodup ∧ ∀ j ∈ ks ++ [k], j ∈ L
def AllK (L : List Int) (xs : List (List IV)) : Prop := ∃ ks : List Int, xs = krows ks ∧ ks.Nodup ∧ ∀ j, j ∈ ks ↔ j ∈ L
/-- the map's keys are these -/
def KeysOf (g : List Value → Option (List IV)) (L : List Int) : Prop := ∀ q, g q ≠ none ↔ ∃ k ∈ L, q = [.int .i64 k]

set_option maxRecDepth 8000 in
set_option maxHeartbeats 4000000 in
theorem keys1_ispec {g : List Value → Option (List IV)} {L : List Int} (hk : KeysOf g L) : ISpec prog n_maps_Keys_map_int_int_int_int_1 [.pt [.mp skS g]] (PreK L) (AllK L) := by
  intro l Zs Zx cont hy
  refine gspecI maps_Keys_map_int_int_int_int_1_is (by simp) (by decide) ?_
  simp -dsimp [maps_Keys_map_int_int_int_int_1]
  intro L0 hn0 hL0 _
  refine loop_any (fun n s => ∃ (left : List (List Value)) (last : Option (List Value)) (ks : List Int), n = left.length ∧ s = ⟨[(5, .ptr 5 0), (0, .iv (.v (.func (.yield l) #[] #[])))], [(5, .iter skS g left last), (1000, .gh (Zs (krows ks)) [] [])]⟩ ∧
    ks.Nodup ∧ (∀ q ∈ left, ∃ k ∈ L, q = [.int .i64 k] ∧ k ∉ ks) ∧ (∀ k ∈ ks, k ∈ L) ∧ ∀ k ∈ L, k ∈ ks ∨ [Value.int .i64 k] ∈ left) ⟨_, _, LeTo.le (D := []) (s' := ⟨[(5, .ptr 5 0), (0, .iv (.v (.func (.yield l) #[] #[])))], [(5, .iter skS g L0 none), (1000, .gh (Zs (krows [])) [] [])]⟩) ?_, L0, none, [], rfl, rfl, by simp, ?_, by simp, ?_⟩ ?_
  · simp -dsimp [krows]
  · intro q hq
    obtain ⟨k, h1, h2⟩ := (hk q).1 ((hL0 q).1 hq)
    exact ⟨k, h1, h2, by simp⟩
  · intro k hkL
    exact .inr ((hL0 _).2 ((hk _).2 ⟨k, hkL, rfl⟩))
  · rintro n s ⟨left, last, ks, rfl, rfl, h1, h2, h3, h4⟩
    simp -dsimp [maps_Keys_map_int_int_int_int_1_l4]
    refine ⟨?_, ?_⟩
    · rintro rfl
      refine ⟨Zs (krows ks), by simp, fun A B w hz => .inl ⟨_, ⟨ks, rfl, h1, fun j => ⟨h3 j, fun hj => (h4 j hj).resolve_right (by simp)⟩⟩, hz⟩, by simp⟩
    · intro q c hq hg
      obtain ⟨k, q1, rfl, q3⟩ := h2 q hq
      simp -dsimp [hg]
      have hp : PreK L (krows ks) (krow k) := ⟨ks, k, rfl, rfl, by
        refine List.nodup_append.2 ⟨h1, by simp, ?_⟩
        rintro a ha b hb rfl
        rw [List.mem_singleton.1 hb] at ha
        exact q3 ha, fun j hj => by
        rcases List.mem_append.1 hj with h | h
        · exact h3 j h
        · rw [List.mem_singleton.1 h]; exact q1⟩
      refine yield_ok (g := 1000) (hy _ _ hp) (by simp) (by simp [krow]) ?_
      cases hc : cont (krows ks) (krow k) with
      | true =>
        have hkr : krows ks ++ [krow k] = krows (ks ++ [k]) := by simp [krows]
        simp -dsimp [hc, hkr]
        refine ⟨_, rmk_lt hq, _, LeTo.le (D := []) (s' := ⟨[(5, .ptr 5 0), (0, .iv (.v (.func (.yield l) #[] #[])))], [(5, .iter skS g (rmk [.int .i64 k] left) (some [.int .i64 k])), (1000, .gh (Zs (krows (ks ++ [k]))) [] [])]⟩) ?_, _, rfl, _, _, rfl, ?_⟩
        · simp -dsimp
        · obtain ⟨_, _, e1, e2, g1, g2⟩ := hp
          refine ⟨List.nodup_append.2 ⟨h1, by simp, fun a ha b hb => by rintro rfl; rw [List.mem_singleton.1 hb] at ha; exact q3 ha⟩, fun q hq' => ?_, fun j hj => ?_, fun j hj => ?_⟩
          · obtain ⟨hq1, hq2⟩ := rmk_mem.1 hq'
            obtain ⟨k', p1, rfl, p3⟩ := h2 q hq1
            refine ⟨k', p1, rfl, fun hm => ?_⟩
            rcases List.mem_append.1 hm with h | h
            · exact p3 h
            · rw [List.mem_singleton.1 h] at hq2; exact hq2 rfl
          · rcases List.mem_append.1 hj with h | h
            · exact h3 j h
            · rw [List.mem_singleton.1 h]; exact q1
          · rcases h4 j hj with h | h
            · exact .inl (List.mem_append_left _ h)
            · by_cases e : j = k
              · exact .inl (List.mem_append_right _ (by simp [e]))
              · exact .inr (rmk_mem.2 ⟨h, by simpa using e⟩)
      | false =>
        simp -dsimp [hc]
        exact ⟨Zx (krows ks) (krow k), by simp, fun A B w hz => .inr ⟨_, _, hz⟩, by simp⟩

theorem maps_Keys_spec (g : List Value → Option (List IV)) : GSpecN prog false n_maps_Keys_map_int_int_int_int [.iv (.mp skS g)] [] (fun r K => r = .fn n_maps_Keys_map_int_int_int_int_1 [] [.ptr 1 0] ∧ K = [(1, .box [.iv (.mp skS g)])]) := by
  refine gspecR _ maps_Keys_map_int_int_int_int_is (by simp) (by decide) (fun x H' h => by
    obtain ⟨rfl, rfl⟩ := h
    refine ⟨fun id o ho => ?_, by simp⟩
    simp only [Vm.look] at ho
    split at ho
    · cases ho; rfl
    · cases ho) ?_
  simp -dsimp [maps_Keys_map_int_int_int_int]
  exact ⟨[], _, _, ⟨rfl, rfl⟩, by simp -dsimp⟩

/-- a row of these numbers, as the function hands it back -/
def RowR (j : Nat) (S : List Int → Prop) (r : AV) (K : Hp) : Prop := ∃ ks : List Int, S ks ∧ ((ks = [] ∧ r = .nil 1 ∧ K = []) ∨ (ks ≠ [] ∧ r = .sl j 1 0 ks.length ∧ K = [(j, .list 1 (intsC ks))]))
def intsOf (p : List (List IV)) : List Int := p.map fun x => match x with
  | [.v (.int .i64 k)] => k
  | _ => 0
theorem intsOf_krows (ks : List Int) : intsOf (krows ks) = ks := by
  induction ks with
  | nil => rfl
  | cons k ks ih => simpa [intsOf, krows, krow] using ih
def appH : List Int → Hp
  | [] => [(2, .box [.nil 1])]
  | k :: ks => [(2, .box [.sl 11 1 0 (k :: ks).length]), (11, .list 1 (intsC (k :: ks)))]
theorem appH_ne {ks : List Int} (h : ks ≠ []) : appH ks = [(2, .box [.sl 11 1 0 ks.length]), (11, .list 1 (intsC ks))] := by
  cases ks with
  | nil => exact absurd rfl h
  | cons k ks => rfl

theorem rowR_flat {j : Nat} {S : List Int → Prop} {r : AV} {K : Hp} (h : RowR j S r K) : (∀ id o, Vm.look K id = some o → o.isLent = false ∧ o.flat) ∧ r.flat = true := by
  obtain ⟨ks, _, ⟨_, rfl, rfl⟩ | ⟨_, rfl, rfl⟩⟩ := h
  · exact ⟨fun id o h => (by cases h), rfl⟩
  · refine ⟨fun id o ho => ?_, rfl⟩
    simp only [Vm.look] at ho
    split at ho
    · cases ho
      refine ⟨rfl, fun x hx y hy => ?_⟩
      obtain ⟨k, _, rfl⟩ := List.mem_map.1 hx
      simp at hy; subst hy; rfl
    · cases ho

set_option maxRecDepth 8000 in
set_option maxHeartbeats 4000000 in
theorem slices_AppendSeq_spec {f : FuncId} {caps : List IV} {Pre : List (List IV) → List IV → Prop} {S : List (List IV) → Prop} (hi : ISpec prog f caps Pre S) (hok : okFn prog f = true)
    (hp : ∀ pre x, Pre pre x → ∃ ks k, pre = krows ks ∧ x = krow k ∧ ks.length < 2 ^ 32) :
    GSpecN prog true n_slices_AppendSeq_int_int [.nil 1, .fn f [] (caps.map CapV.val)] [] (RowR 11 fun ks => S (krows ks)) := by
  refine gspecRf _ slices_AppendSeq_int_int_is (by simp) (by decide) (fun x H' h => rowR_flat h) ?_
  simp -dsimp [slices_AppendSeq_int_int]
  refine rng_all [4] [5, 10] 990 [(2, .ptr 2 0), (6, .fn f [] (caps.map CapV.val))] (fun p => ∃ ks, p = krows ks) (fun p => appH (intsOf p)) hi ?_ (by simp) hok (by decide) (by simp [intsOf, appH]) (by simp) ?_ ⟨[], rfl⟩ ?_ ?_
  · simp -dsimp [intsOf, appH]
  · intro pre x hx
    obtain ⟨ks, k, _, rfl, _⟩ := hp pre x hx
    rfl
  · rintro vs _ x ⟨ks, rfl⟩ hx
    obtain ⟨ks', k, hks, rfl, hlen⟩ := hp _ x hx
    have hks : ks = ks' := by have := congrArg intsOf hks; rwa [intsOf_krows, intsOf_krows] at this
    subst hks
    have hkr : krows ks ++ [krow k] = krows (ks ++ [k]) := by simp [krows]
    refine ⟨⟨ks ++ [k], hkr⟩, ?_⟩
    rw [hkr, intsOf_krows, intsOf_krows, appH_ne (by simp : ks ++ [k] ≠ [])]
    cases ks with
    | nil =>
      simp -dsimp [slices_AppendSeq_int_int_a4, slices_AppendSeq_int_int_b5, parS, St.set_mk, krow, appH, frCs]
      rfl
    | cons k0 ks =>
      simp -dsimp [slices_AppendSeq_int_int_a4, slices_AppendSeq_int_int_b5, parS, St.set_mk, krow, appH, frCs]
      simp only [List.length_cons] at hlen
      refine ⟨by omega, by omega, by simp [intsC]⟩
  · rintro vs _ ⟨ks, rfl⟩ hS
    rw [intsOf_krows]
    cases ks with
    | nil =>
      simp -dsimp [appH, frCs]
      exact ⟨[2, 990], _, _, ⟨_, hS, .inl ⟨rfl, rfl, rfl⟩⟩, by simp -dsimp⟩
    | cons k0 ks =>
      simp -dsimp [appH, frCs]
      exact ⟨[2, 990], _, _, ⟨_, hS, .inr ⟨by simp, rfl, rfl⟩⟩, by simp -dsimp⟩

theorem slices_Collect_spec {f : FuncId} {caps : List IV} {Pre : List (List IV) → List IV → Prop} {S : List (List IV) → Prop} (hi : ISpec prog f caps Pre S) (hok : okFn prog f = true)
    (hp : ∀ pre x, Pre pre x → ∃ ks k, pre = krows ks ∧ x = krow k ∧ ks.length < 2 ^ 32) :
    GSpecN prog true n_slices_Collect_int [.fn f [] (caps.map CapV.val)] [] (RowR 11 fun ks => S (krows ks)) := by
  refine gspecRf _ slices_Collect_int_is (by simp) (by decide) (fun x H' h => rowR_flat h) ?_
  simp -dsimp [slices_Collect_int]
  refine call_open (slices_AppendSeq_spec hi hok hp) ?_ (by simp) ?_ ?_
  · simp
  · intro x H' h id o ho
    simp -dsimp
    obtain ⟨ks, hS, ⟨rfl, rfl, rfl⟩ | ⟨hne, rfl, rfl⟩⟩ := h
    · cases ho
    · simp only [Vm.look] at ho
      split at ho
      · omega
      · cases ho
  · rintro x H' ⟨ks, hS, ⟨rfl, rfl, rfl⟩ | ⟨hne, rfl, rfl⟩⟩
    · simp -dsimp
      exact ⟨[2], _, _, ⟨_, hS, .inl ⟨rfl, rfl, rfl⟩⟩, by simp -dsimp⟩
    · simp -dsimp
      exact ⟨[2], _, _, ⟨_, hS, .inr ⟨hne, rfl, rfl⟩⟩, by simp -dsimp⟩

theorem sorted_same {ks L : List Int} (h1 : ks.Nodup) (h2 : ∀ j, j ∈ ks ↔ j ∈ L) (hL : L.Pairwise (· < ·)) : sortI ks = L := by
  have hp : (sortI ks).Perm L := by
    refine (List.mergeSort_perm ks _).trans ?_
    refine (List.perm_ext_iff_of_nodup h1 (hL.imp fun h => by omega)).2 h2
  refine List.Perm.eq_of_pairwise (le := fun a b : Int => a ≤ b) (fun a b _ _ h1 h2 => by omega) ?_ (hL.imp fun h => by omega) hp
  have := List.pairwise_mergeSort (le := fun x y : Int => decide (x ≤ y)) (fun a b c h1 h2 => by simp at *; omega) (fun a b => by simp; omega) ks
  exact this.imp fun h => by simpa using h
theorem slices_Sort_spec (xs : List Int) (hl : xs.length < 2 ^ 62) : GSpec prog false n_slices_Sort_int_int [.sl 1000 1 0 xs.length] [(1000, .list 1 (intsC xs))] (.tup []) [(1000, .list 1 (intsC (sortI xs)))] :=
  gspec_rowF sortI (fun l => List.length_mergeSort _) (by simp [sortI]) (fun blk off cap zs w hH hb hs => Go.Proofs.Try.slices_Sort_int blk off cap zs w hH hb hs) (fun p cap w => Go.Proofs.Any.slices_Sort_int_none Go.Proofs.Try.lays189 p cap w) xs hl
theorem slices_Sort_nil : GSpec prog true n_slices_Sort_int_int [.iv (.lst 1 [])] [] (.tup []) [] :=
  gspec_none fun p cap w => Go.Proofs.Any.slices_Sort_int_none Go.Proofs.Try.lays189 p cap w

theorem le_ivc {s : St} {t : Nat} {y : IV} (h : (s.get t).ivc = some y) : Le s (s.set t (.iv y)) := by
  rintro E n a w ⟨ψ, hs⟩
  refine ⟨ψ, { hs with frame := fun u => ?_ }⟩
  rw [St.get_set]
  split
  · rename_i e; subst e
    exact .iv _ _ (riv_ivc (hs.frame t) h (fun _ _ h => h))
  · exact hs.frame u
/-- a function's end with one plain value, or a slice that is nil, that may lean on what came in -/
def EndV (D : List Nat) (t : Nat) (x : IV) (s : St) : Prop := D.all (· < 1000) = true ∧ ((s.drops D).get t).ivc = some x ∧ smallH s.hp = true
theorem gspec1V {P : Program} {f : FuncId} {args : List AV} {x : IV} {n t : Nat} {c : VCode} (hf : fnV P f = some (n, c, [.tmp t]))
    (hargs : args.length ≤ n) (hn : n ≤ 999) (h : wpV P c ⟨argFr 0 args, []⟩ ⟨fun s => ∃ D, EndV D t x s, fun _ _ => False, fun s => ∃ D, EndV D t x s, fun _ _ => False⟩) : GSpec P false f args [] (.iv x) [] :=
  gspec_of_vc hf hargs rfl rfl (outs_mono (wpV_sound hn _ _ _ h) fun s h => by
    obtain ⟨D, h1, h2, h3⟩ := h
    have hk : (((s.drops D).set t (.iv x)).hp.map (·.1)).all (· < 1000) = true := by
      show ((s.drops D).hp.map (·.1)).all (· < 1000) = true
      rw [List.all_eq_true]
      intro k hk
      exact List.all_eq_true.1 (smallH_all h3) k (drops_keys D hk)
    refine ⟨((s.drops D).set t (.iv x)).drops (((s.drops D).set t (.iv x)).hp.map (·.1)), [.iv x], ((le_drops D h1 s).trans (le_ivc h2)).trans (le_drops _ hk _), ?_, rfl, fun id => ?_, fun h => by cases h⟩
    · simp [resV, get_drops_iv _ (show ((s.drops D).set t (.iv x)).get t = .iv x by rw [St.get_set, if_pos rfl])]
    · refine look_drops_none _ ?_
      cases hl : Vm.look ((s.drops D).set t (.iv x)).hp id with
      | none => exact .inr rfl
      | some o => exact .inl (List.contains_iff_mem.1 (look_mem hl)))

/-- a slot that holds a slice that is nil may as well hold an empty row of one's own -/
theorem le_ownT {s : St} {t sz id : Nat} (h : s.get t = .nil sz) (hno : Vm.look s.hp id = none) (hid : id < 1000) : Le s ((s.add id (.list sz [])).set t (.sl id sz 0 0)) := by
  rintro E n a w ⟨ψ, hs⟩
  have h1 := hs.new (o := .list sz []) (p := none) (w' := w) hid hno (Ext.refl w) (fun b k e => by cases e) ⟨fun _ h => (by cases h), .inl ⟨by simp [upd], rfl⟩⟩
  have hψ : upd ψ id none id = none := by simp [upd]
  refine ⟨_, { h1 with frame := fun u => ?_ }⟩
  have hf := h1.frame u
  rw [St.get_set]
  split
  · rename_i e; subst e
    rw [show (s.add id (.list sz [])).get t = .nil sz from h] at hf
    generalize a.tmps.getD t undef = v at hf
    cases hf
    exact .sl0 id sz (.list sz []) 0 (by rw [show ((s.add id (.list sz [])).set t (.sl id sz 0 0)).hp = (s.add id (.list sz [])).hp from rfl, look_add, if_pos rfl]) rfl hψ
  · exact hf

def EndRL (t : Nat) (R : AV → Hp → Prop) (s : St) : Prop := ∃ s1, Le s s1 ∧ EndR t R s1
theorem gspecRL {P : Program} {f : FuncId} {args : List AV} {n t : Nat} {c : VCode} (R : AV → Hp → Prop) (hf : fnV P f = some (n, c, [.tmp t])) (hargs : args.length ≤ n) (hn : n ≤ 999)
    (hR : ∀ x H', R x H' → (∀ id o, Vm.look H' id = some o → o.isLent = false ∧ o.flat) ∧ x.flat = true)
    (h : wpV P c ⟨argFr 0 args, []⟩ ⟨EndRL t R, fun _ _ => False, EndRL t R, fun _ _ => False⟩) : GSpecN P true f args [] R :=
  gspecN_of_vc hf hargs rfl rfl (fun x H' h id o ho => ((hR x H' h).1 id o ho).1) (outs_mono (wpV_sound hn _ _ _ h) fun s h => by
    obtain ⟨s1, h0, D, x, H', h1, h2⟩ := h
    exact ⟨⟨[(t, x)], H'⟩, [x], H', h0.trans h2.le, by simp [resV, St.get, Vm.look], h1, fun _ => rfl, fun _ => ⟨(hR x H' h1).2, fun id o ho => ((hR x H' h1).1 id o ho).2⟩⟩)

theorem slices_Sorted_spec {f : FuncId} {caps : List IV} {Pre : List (List IV) → List IV → Prop} {S : List (List IV) → Prop} (hi : ISpec prog f caps Pre S) (hok : okFn prog f = true)
    (hp : ∀ pre x, Pre pre x → ∃ ks k, pre = krows ks ∧ x = krow k ∧ ks.length < 2 ^ 32) {L : List Int} (hL : ∀ ks, S (krows ks) → sortI ks = L ∧ ks.length < 2 ^ 40) :
    GSpec prog true n_slices_Sorted_int [.fn f [] (caps.map CapV.val)] [] (.sl 11 1 0 L.length) [(11, .list 1 (intsC L))] := by
  refine (gspecRL (fun r K => r = .sl 11 1 0 L.length ∧ K = [(11, .list 1 (intsC L))]) slices_Sorted_int_is (by simp) (by decide) (fun x H' h => ?_) ?_).one (fun _ _ h => h) (fun id o ho => ?_)
  · obtain ⟨rfl, rfl⟩ := h
    refine ⟨fun id o ho => ?_, rfl⟩
    simp only [Vm.look] at ho
    split at ho
    · cases ho
      refine ⟨rfl, fun x hx y hy => ?_⟩
      obtain ⟨k, _, rfl⟩ := List.mem_map.1 hx
      simp at hy; subst hy; rfl
    · cases ho
  rotate_left
  · simp only [Vm.look] at ho
    split at ho
    · cases ho; rfl
    · cases ho
  simp -dsimp [slices_Sorted_int]
  refine call_open (slices_Collect_spec hi hok hp) ?_ (by simp) ?_ ?_
  · simp
  · intro x H' h id o ho
    simp -dsimp
    obtain ⟨ks, hS, ⟨rfl, rfl, rfl⟩ | ⟨hne, rfl, rfl⟩⟩ := h
    · cases ho
    · simp only [Vm.look] at ho
      split at ho
      · omega
      · cases ho
  · rintro x H' ⟨ks, hS, ⟨rfl, rfl, rfl⟩ | ⟨hne, rfl, rfl⟩⟩
    · simp -dsimp
      refine call_pure slices_Sort_nil (by simp) (by simp) ?_
      obtain ⟨hL1, _⟩ := hL [] hS
      have hL0 : L = [] := by rw [← hL1]; simp [sortI]
      subst hL0
      simp -dsimp
      refine ⟨_, le_ownT (t := 2) (sz := 1) (id := 11) (by simp) (by simp) (by decide), [2], _, _, ⟨rfl, rfl⟩, ?_⟩
      simp -dsimp [St.add, St.set_mk, intsC]
    · obtain ⟨hL1, hL2⟩ := hL ks hS
      simp -dsimp
      have hs : GSpec prog false n_slices_Sort_int_int [.sl 11 1 0 ks.length] [(11, .list 1 (intsC ks))] (.tup []) [(11, .list 1 (intsC (sortI ks)))] := (slices_Sort_spec ks (by omega)).ren (Ren.swaps [(1000, 11)]) rfl
      rw [hL1] at hs
      have hll : ks.length = L.length := by rw [← hL1]; exact (List.length_mergeSort _).symm
      refine call_mut hs rfl (by simp) (by simp) (by simp) (by simp) (by simp) (by simp [Ob.le, Ob.dim, hll]) (by simp) ?_
      simp -dsimp
      refine ⟨_, Le.refl _, [2], _, _, ⟨rfl, rfl⟩, ?_⟩
      simp -dsimp [hll]
end Go.Rt
end
