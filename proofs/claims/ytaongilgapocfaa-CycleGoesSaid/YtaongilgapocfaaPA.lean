/- Contracts of functions of the program, and what they lean on. Conditions: those of each theorem. -/
import Derived.Test.YtaongilgapocfaaMD
import Derived.Sort.Grow
import Derived.Lib.SlicesCompact

set_option linter.unusedVariables false
set_option linter.unusedSimpArgs false

/- A slice that is nil is one of any make. -/
section
namespace Go.Vm

@[simp] theorem ev_nilc {s : St} : s.ev (.const (.slice none 0 0)) = .nil 0 := rfl

def nilLe : List AV → List AV → Prop
  | [], [] => True
  | x :: r, y :: q => (x = y ∨ ∃ a b, x = .nil a ∧ y = .nil b) ∧ nilLe r q
  | _, _ => False
@[simp] theorem nilLe_nil : nilLe [] [] ↔ True := ⟨fun h => h, fun h => h⟩
@[simp] theorem nilLe_cons {x y : AV} {r q : List AV} : nilLe (x :: r) (y :: q) ↔ (x = y ∨ ∃ a b, x = .nil a ∧ y = .nil b) ∧ nilLe r q := ⟨fun h => h, fun h => h⟩
theorem nilLe_at : ∀ {cs ds : List AV}, nilLe cs ds → ds.length = cs.length ∧ ∀ (i : Nat) y, ds[i]? = some y → cs[i]? = some y ∨ ∃ a b, cs[i]? = some (.nil a) ∧ y = .nil b
  | [], [], _ => ⟨rfl, fun i y h => by simp at h⟩
  | x :: r, y :: q, h => by
    obtain ⟨g1, g2⟩ := nilLe_at h.2
    refine ⟨by simp [g1], fun i z hz => ?_⟩
    cases i with
    | zero =>
      simp only [List.getElem?_cons_zero, Option.some.injEq] at hz ⊢
      subst hz
      exact h.1
    | succ i => simpa using g2 i z (by simpa using hz)
  | [], _ :: _, h => h.elim
  | _ :: _, [], h => h.elim

theorem le_nils (s : St) {id : Nat} {cs ds : List AV} (ho : look s.hp id = some (.box cs)) (h : nilLe cs ds) : Le s (s.add id (.box ds)) := by
  obtain ⟨h1, h2⟩ := nilLe_at h
  rintro E n a w ⟨ψ, hs⟩
  obtain ⟨b, c, e, q1, q2, q3, q4⟩ := hs.obs id _ ho
  refine ⟨ψ, hs.chg (o' := .box ds) (k := (0, c.size)) ho (Ob.le_none rfl) rfl (by simp [Ob.multi]) q1 (fun _ _ => rfl) rfl ⟨rfl, rfl, rfl⟩
    (fun hm _ => ⟨b, c, e, q1, q2, by rw [q3, h1], fun i x hx => ?_⟩)⟩
  rcases h2 i x hx with g | ⟨a', b', g, rfl⟩
  · exact hm _ _ (q4 i x g)
  · have := hm _ _ (q4 i _ g)
    generalize c.getD i undef = v at this
    cases this
    exact .nil b'

theorem loop_le {P : Program} {c : VCode} {s s' : St} {O : Outs} (h : Le s s') (k : loopW P c s' O) : loopW P c s O := by
  obtain ⟨I, ⟨k, s2, h2, h3⟩, h4⟩ := k
  exact ⟨I, ⟨k, s2, h.trans h2, h3⟩, h4⟩
end Go.Vm
end

/- An empty row is an empty row, however wide. -/
section
namespace Go.Vm

theorem call_le {P : Program} {d : Nat} {f : FuncId} {pre post : List CapV} {ops : List Operand} {y : Option Operand} {s s' : St} {K : St → AV → Prop} (h : Le s s')
    (k : callW P d f pre ops post y s' K) : callW P d f pre ops post y s K := by
  obtain ⟨s2, h2, h3⟩ := k
  exact ⟨s2, h.trans h2, h3⟩

theorem le_list {s : St} {id sz : Nat} {xs xs' : List (List IV)} (ho : look s.hp id = some (.list sz xs)) (hne : xs ≠ []) (hl : xs'.length = xs.length) (hs : ∀ x ∈ xs', x.length = sz)
    (hr : ∀ i j c', at2 xs' i j = some c' → ∃ c, at2 xs i j = some c ∧ ∀ A w v, RIV A w c v → RIV A w c' v) : Le s (s.add id (.list sz xs')) := by
  rintro E n a w ⟨ψ, h⟩
  obtain ⟨h0, ⟨h1, h2⟩ | ⟨b, k, c, e, h1, h2, h3, h4, h5⟩⟩ := h.obs id _ ho
  · exact absurd h2 hne
  refine ⟨ψ, h.chg (o' := .list sz xs') (k := k) ho (Ob.le_of rfl rfl (by omega)) rfl (by simp [Ob.multi]) h1 (fun _ _ => rfl) rfl ⟨rfl, rfl, rfl⟩
    (fun _ tr => ⟨hs, .inr ⟨b, k, c, e, h1, h2, h3, by rw [hl]; exact h4, fun i j x hx => ?_⟩⟩)⟩
  obtain ⟨c0, q1, q2⟩ := hr i j x hx
  exact tr _ _ (q2 _ _ _ (h5 i j c0 q1))

theorem riv_empty {A : Nat → Prop} {w : World} {z z' : Nat} {v : Value} (h : RIV A w (.lst z []) v) : RIV A w (.lst z' []) v := by
  generalize hx : IV.lst z [] = x at h
  cases h <;> try cases hx
  · exact .lnil _
  · exact .lst z' [] 0 0 _ _ (fun _ _ => undef) (by simp) (by simp) (by simp) (by simp [at2]) (by simp [at2])
end Go.Vm
end

/- Functions that hand back a list of their own. -/
section
namespace Go.Vm

theorem drop_keys {s : St} {id k : Nat} (h : k ∈ (s.drop id).hp.map (·.1)) : k ∈ s.hp.map (·.1) := by
  obtain ⟨o, ho⟩ := look_of_mem' h
  cases hs : look s.hp k with
  | none => rw [look_drop_none hs] at ho; cases ho
  | some o' => exact look_key hs
theorem drops_keys (D : List Nat) : ∀ {s : St} {k : Nat}, k ∈ (s.drops D).hp.map (·.1) → k ∈ s.hp.map (·.1) := by
  induction D with
  | nil => intro s k h; exact h
  | cons i D ih => intro s k h; exact drop_keys (ih h)

/-- a function's end with one plain value, some of its own things forgotten ahead -/
def EndD (D : List Nat) (t : Nat) (x : IV) (s : St) : Prop := D.all (· < 1000) = true ∧ (s.drops D).get t = .iv x ∧ smallH s.hp = true
attribute [simp] EndD
theorem gspec1D {P : Program} {f : FuncId} {args : List AV} {x : IV} {n t : Nat} {c : VCode} (D : List Nat) (hf : fnV P f = some (n, c, [.tmp t]))
    (hargs : args.length ≤ n) (hn : n ≤ 999) (hx : x.flat = true) (h : wpV P c ⟨argFr 0 args, []⟩ ⟨EndD D t x, fun _ _ => False, EndD D t x, fun _ _ => False⟩) : GSpec P true f args [] (.iv x) [] :=
  gspec_of_vc hf hargs rfl rfl (outs_mono (wpV_sound hn _ _ _ h) fun s h => by
    have hk : ((s.drops D).hp.map (·.1)).all (· < 1000) = true := by
      rw [List.all_eq_true]
      intro k hk
      exact List.all_eq_true.1 (smallH_all h.2.2) k (drops_keys D hk)
    obtain ⟨s', l, g1, g2⟩ := ends_iv h.2.1 hx hk
    exact ⟨s', l, (le_drops D h.1 s).trans g1, g2⟩)

/-- a function's end with one plain value that may lean on what came in -/
theorem gspec1L {P : Program} {f : FuncId} {args : List AV} {x : IV} {n t : Nat} {c : VCode} (D : List Nat) (hf : fnV P f = some (n, c, [.tmp t]))
    (hargs : args.length ≤ n) (hn : n ≤ 999) (h : wpV P c ⟨argFr 0 args, []⟩ ⟨EndD D t x, fun _ _ => False, EndD D t x, fun _ _ => False⟩) : GSpec P false f args [] (.iv x) [] :=
  gspec_of_vc hf hargs rfl rfl (outs_mono (wpV_sound hn _ _ _ h) fun s h => by
    have hk : ((s.drops D).hp.map (·.1)).all (· < 1000) = true := by
      rw [List.all_eq_true]
      intro k hk
      exact List.all_eq_true.1 (smallH_all h.2.2) k (drops_keys D hk)
    refine ⟨(s.drops D).drops ((s.drops D).hp.map (·.1)), [.iv x], (le_drops D h.1 s).trans (le_drops _ hk _), ?_, rfl, fun id => ?_, fun h => by cases h⟩
    · simp [resV, get_drops_iv _ h.2.1]
    · refine look_drops_none _ ?_
      cases hl : look (s.drops D).hp id with
      | none => exact .inr rfl
      | some o => exact .inl (List.contains_iff_mem.1 (look_mem hl)))

/-- what is a list stays one while others go -/
theorem get_drop_sl {s : St} {t id j sz lo len : Nat} (hj : id ≠ j) (h : s.get t = .sl j sz lo len) : (s.drop id).get t = .sl j sz lo len := by
  unfold St.drop
  split
  · exact h
  · simp only [St.get, St.mapc] at h ⊢
    rw [look_map (AV.mapc _)]
    cases hl : look s.fr t with
    | none => rw [hl] at h; cases h
    | some y =>
      rw [hl] at h
      simp only [Option.getD_some] at h
      subst h
      simp only [Option.map_some, Option.getD_some, AV.mapc, AV.fc]
      rw [if_neg (Ne.symm hj)]
      simp only [AV.kc]
      rw [if_neg (by simpa using Ne.symm hj)]
theorem look_drop_list {s : St} {id j sz : Nat} {xs : List (List IV)} (hj : id ≠ j) (h : look s.hp j = some (.list sz xs)) : look (s.drop id).hp j = some (.list sz xs) := by
  unfold St.drop
  split
  · exact h
  · simp only [look_filter, look_mapc, h, Option.map_some]
    rw [if_neg (Ne.symm hj)]
    rfl
theorem drops_list (D : List Nat) : ∀ {s : St} {t j sz len : Nat} {xs : List (List IV)}, j ∉ D → s.get t = .sl j sz 0 len → look s.hp j = some (.list sz xs) → (s.drops D).get t = .sl j sz 0 len ∧ look (s.drops D).hp j = some (.list sz xs) := by
  induction D with
  | nil => intro s t j sz len xs _ h1 h2; exact ⟨h1, h2⟩
  | cons i D ih =>
    intro s t j sz len xs hj h1 h2
    have hij : i ≠ j := fun e => hj (by simp [e])
    exact ih (fun h => hj (List.mem_cons_of_mem _ h)) (get_drop_sl hij h1) (look_drop_list hij h2)

def EndN (j sz t : Nat) (xs : List (List IV)) (s : St) : Prop := s.get t = .sl j sz 0 xs.length ∧ look s.hp j = some (.list sz xs) ∧ smallH s.hp = true
attribute [simp] EndN
/-- a function's end with a list of its own -/
theorem gspecN {P : Program} {f : FuncId} {args : List AV} {n t : Nat} {c : VCode} (j sz : Nat) (xs : List (List IV)) (hf : fnV P f = some (n, c, [.tmp t]))
    (hargs : args.length ≤ n) (hn : n ≤ 999) (hx : ∀ x ∈ xs, ∀ y ∈ x, y.flat = true) (h : wpV P c ⟨argFr 0 args, []⟩ ⟨EndN j sz t xs, fun _ _ => False, EndN j sz t xs, fun _ _ => False⟩) :
    GSpec P true f args [] (.sl j sz 0 xs.length) [(j, .list sz xs)] :=
  gspec_of_vc hf hargs rfl rfl (outs_mono (wpV_sound hn _ _ _ h) fun s h => by
    obtain ⟨h1, h2, h3⟩ := h
    let D := (s.hp.map (·.1)).filter (· ≠ j)
    have hD : D.all (· < 1000) = true := by
      rw [List.all_eq_true]
      intro k hk
      exact List.all_eq_true.1 (smallH_all h3) k (List.mem_filter.1 hk).1
    have hj : j ∉ D := fun hk => by have := (List.mem_filter.1 hk).2; simp at this
    obtain ⟨g1, g2⟩ := drops_list D hj h1 h2
    refine ⟨s.drops D, [.sl j sz 0 xs.length], le_drops D hD s, by simp [resV, g1], rfl, fun id => ?_, fun _ => ⟨rfl, fun id o ho => ?_⟩⟩
    · simp only [look]
      by_cases e : j = id
      · subst e; rw [if_pos rfl]; exact g2
      · rw [if_neg e]
        refine look_drops_none _ ?_
        cases hl : look s.hp id with
        | none => exact .inr rfl
        | some o => exact .inl (List.mem_filter.2 ⟨look_key hl, by simpa using Ne.symm e⟩)
    · simp only [look] at ho
      split at ho
      · cases ho; exact hx
      · cases ho)

/-- under any name -/
theorem GSpec.fresh {P : Program} {f : FuncId} {args : List AV} {j sz n : Nat} {xs : List (List IV)} (h : GSpec P true f args [] (.sl j sz 0 n) [(j, .list sz xs)]) (d : Nat)
    (hs : args.all AV.shal = true) (ha : ∀ ρ : Nat → Nat, args.map (AV.ren ρ) = args) : GSpec P true f args [] (.sl d sz 0 n) [(d, .list sz xs)] := by
  have := h.ren (Ren.swap j d) (by simp [hs, AV.shal, AV.shal2, AV.shal1, Ob.shal])
  rw [ha] at this
  have e : (Ren.swap j d).to j = d := by simp [Ren.swap, swapN]
  simpa [Hp.ren, AV.ren, AV.ren2, AV.ren1, Ob.ren, e] using this

/-- a call that hands back a new list -/
theorem call_new {P : Program} {d : Nat} {f : FuncId} {ops : List Operand} {s : St} {K : St → AV → Prop} {args : List AV} {sz n : Nat} {xs : List (List IV)} (h : GSpec P true f args [] (.sl d sz 0 n) [(d, .list sz xs)]) (hd : d < 1000)
    (ha : (((s.drop d).args [] ops []).map ((s.drop d).arg true [])) = args) (hr : args.all (AV.inns []) = true) (hk : K ((s.drop d).join [(d, .list sz xs)]) (.sl d sz 0 n)) : callW P d f [] ops [] none s K := by
  refine callK_of ⟨s, Le.refl s, true, [], .sl d sz 0 n, [(d, .list sz xs)], s.drop d, rfl, trivial, { spec := ?_, refs := ?_, sub := fun _ _ h => ?_, own := fun _ _ h => ?_, keep := fun _ _ h => ?_, new := fun id o h1 _ => ?_ }, hk⟩
  · rw [List.map_nil, ha]; exact h
  · rw [List.map_nil, ha]; exact hr
  · cases h
  · cases h
  · cases h
  · simp only [look] at h1
    split at h1
    · rename_i e; subst e; exact ⟨look_drop s d, hd⟩
    · cases h1
end Go.Vm
end

/- Functions that hand back a list of their own whose elements may lean on what came in. -/
section
namespace Go.Vm

theorem gspecNL {P : Program} {f : FuncId} {args : List AV} {n t : Nat} {c : VCode} (j sz : Nat) (xs : List (List IV)) (hf : fnV P f = some (n, c, [.tmp t]))
    (hargs : args.length ≤ n) (hn : n ≤ 999) (h : wpV P c ⟨argFr 0 args, []⟩ ⟨EndN j sz t xs, fun _ _ => False, EndN j sz t xs, fun _ _ => False⟩) :
    GSpec P false f args [] (.sl j sz 0 xs.length) [(j, .list sz xs)] :=
  gspec_of_vc hf hargs rfl rfl (outs_mono (wpV_sound hn _ _ _ h) fun s h => by
    obtain ⟨h1, h2, h3⟩ := h
    let D := (s.hp.map (·.1)).filter (· ≠ j)
    have hD : D.all (· < 1000) = true := by
      rw [List.all_eq_true]
      intro k hk
      exact List.all_eq_true.1 (smallH_all h3) k (List.mem_filter.1 hk).1
    have hj : j ∉ D := fun hk => by have := (List.mem_filter.1 hk).2; simp at this
    obtain ⟨g1, g2⟩ := drops_list D hj h1 h2
    refine ⟨s.drops D, [.sl j sz 0 xs.length], le_drops D hD s, by simp [resV, g1], rfl, fun id => ?_, fun h => by cases h⟩
    simp only [look]
    by_cases e : j = id
    · subst e; rw [if_pos rfl]; exact g2
    · rw [if_neg e]
      refine look_drops_none _ ?_
      cases hl : look s.hp id with
      | none => exact .inr rfl
      | some o => exact .inl (List.mem_filter.2 ⟨look_key hl, by simpa using Ne.symm e⟩))
theorem GSpec.freshL {P : Program} {fr : Bool} {f : FuncId} {args : List AV} {j sz n : Nat} {xs : List (List IV)} (h : GSpec P fr f args [] (.sl j sz 0 n) [(j, .list sz xs)]) (d : Nat)
    (hs : args.all AV.shal = true) (ha : ∀ ρ : Nat → Nat, args.map (AV.ren ρ) = args) : GSpec P fr f args [] (.sl d sz 0 n) [(d, .list sz xs)] := by
  have := h.ren (Ren.swap j d) (by simp [hs, AV.shal, AV.shal2, AV.shal1, Ob.shal])
  rw [ha] at this
  have e : (Ren.swap j d).to j = d := by simp [Ren.swap, swapN]
  simpa [Hp.ren, AV.ren, AV.ren2, AV.ren1, Ob.ren, e] using this
theorem call_newL {P : Program} {d : Nat} {f : FuncId} {ops : List Operand} {s s1 : St} {K : St → AV → Prop} {args : List AV} {sz n : Nat} {xs : List (List IV)} (h : GSpec P false f args [] (.sl d sz 0 n) [(d, .list sz xs)]) (hd : d < 1000)
    (hs1 : (s.frz ((s.args [] ops []).filter fun x => !x.inns [])).drop d = s1)
    (ha : ((s1.args [] ops []).map (s1.arg false [])) = args) (hr : args.all (AV.inns []) = true) (hk : K (s1.join [(d, .list sz xs)]) (.sl d sz 0 n)) : callW P d f [] ops [] none s K := by
  refine callK_of ⟨s, Le.refl s, false, [], .sl d sz 0 n, [(d, .list sz xs)], s1, hs1.symm, trivial, { spec := ?_, refs := ?_, sub := fun _ _ h => ?_, own := fun _ _ h => ?_, keep := fun _ _ h => ?_, new := fun id o h1 _ => ?_ }, hk⟩
  · rw [List.map_nil]; rw [ha]; exact h
  · rw [List.map_nil]; rw [ha]; exact hr
  · cases h
  · cases h
  · cases h
  · simp only [look] at h1
    split at h1
    · rename_i e; subst e; exact ⟨hs1 ▸ look_drop _ d, hd⟩
    · cases h1

theorem get_drop_ptr {s : St} {t id j off : Nat} (hj : id ≠ j) (h : s.get t = .ptr j off) : (s.drop id).get t = .ptr j off := by
  unfold St.drop
  split
  · exact h
  · simp only [St.get, St.mapc] at h ⊢
    rw [look_map (AV.mapc _)]
    cases hl : look s.fr t with
    | none => rw [hl] at h; cases h
    | some y =>
      rw [hl] at h
      simp only [Option.getD_some] at h
      subst h
      simp only [Option.map_some, Option.getD_some, AV.mapc, AV.fc]
      first
      | rfl
      | (simp [Ne.symm hj, AV.kc]; done)
      | (split <;> simp_all [AV.kc])
theorem look_drop_box {s : St} {id j : Nat} {cs : List IV} (hj : id ≠ j) (h : look s.hp j = some (.box (cs.map .iv))) : look (s.drop id).hp j = some (.box (cs.map .iv)) := by
  unfold St.drop
  split
  · exact h
  · rename_i o' _
    simp only [look_filter, look_mapc, h, Option.map_some]
    rw [if_neg (Ne.symm hj)]
    simp only [Ob.mapc, List.map_map, Option.some.injEq, Ob.box.injEq]
    refine List.map_congr_left fun a _ => ?_
    exact congrFun (gone_comp (id := id) (o := o')) a
theorem drops_box (D : List Nat) : ∀ {s : St} {t j off : Nat} {cs : List IV}, j ∉ D → s.get t = .ptr j off → look s.hp j = some (.box (cs.map .iv)) → (s.drops D).get t = .ptr j off ∧ look (s.drops D).hp j = some (.box (cs.map .iv)) := by
  induction D with
  | nil => intro s t j off cs _ h1 h2; exact ⟨h1, h2⟩
  | cons i D ih =>
    intro s t j off cs hj h1 h2
    have hij : i ≠ j := fun e => hj (by simp [e])
    exact ih (fun h => hj (List.mem_cons_of_mem _ h)) (get_drop_ptr hij h1) (look_drop_box hij h2)

/-- a function's end with a struct in a cell of its own -/
def EndC (D : List Nat) (t j : Nat) (cs : List IV) (s : St) : Prop := D.all (· < 1000) = true ∧ (s.drops D).get t = .ptr j 0 ∧ look (s.drops D).hp j = some (.box (cs.map .iv)) ∧ smallH s.hp = true
attribute [simp] EndC
theorem gspecCL {P : Program} {f : FuncId} {args : List AV} {n t k : Nat} {c : VCode} (D : List Nat) (j : Nat) (cs : List IV) (hk : cs.length = k) (hf : fnV P f = some (n, c, [.cell t (some k)]))
    (hargs : args.length ≤ n) (hn : n ≤ 999) (h : wpV P c ⟨argFr 0 args, []⟩ ⟨EndC D t j cs, fun _ _ => False, EndC D t j cs, fun _ _ => False⟩) :
    GSpec P false f args [] (.agg (cs.map .iv)) [(j, .box (cs.map .iv))] :=
  gspec_of_vc hf hargs rfl rfl (outs_mono (wpV_sound hn _ _ _ h) fun s h => by
    obtain ⟨h0, h1, h2, h3⟩ := h
    have hk1 : ((s.drops D).hp.map (·.1)).all (· < 1000) = true := by
      rw [List.all_eq_true]
      intro k hk
      exact List.all_eq_true.1 (smallH_all h3) k (drops_keys D hk)
    let E := ((s.drops D).hp.map (·.1)).filter (· ≠ j)
    have hE : E.all (· < 1000) = true := by
      rw [List.all_eq_true]
      intro k hk
      exact List.all_eq_true.1 hk1 k (List.mem_filter.1 hk).1
    have hj : j ∉ E := fun hk => by have := (List.mem_filter.1 hk).2; simp at this
    obtain ⟨g1, g2⟩ := drops_box E hj h1 h2
    refine ⟨(s.drops D).drops E, [.agg (cs.map .iv)], (le_drops D h0 s).trans (le_drops E hE _), ?_, rfl, fun id => ?_, fun h => by cases h⟩
    · subst hk
      simp [resV, g1, g2]
      exact List.take_of_length_le (by simp)
    · simp only [look]
      by_cases e : j = id
      · subst e; rw [if_pos rfl]; exact g2
      · rw [if_neg e]
        refine look_drops_none _ ?_
        cases hl : look (s.drops D).hp id with
        | none => exact .inr rfl
        | some o => exact .inl (List.mem_filter.2 ⟨look_key hl, by simpa using Ne.symm e⟩))

theorem call_newC {P : Program} {d : Nat} {f : FuncId} {ops : List Operand} {s s1 : St} {K : St → AV → Prop} {args : List AV} {res : AV} {o : Ob} (h : GSpec P false f args [] res [(d, o)]) (hd : d < 1000)
    (hs1 : (s.frz ((s.args [] ops []).filter fun x => !x.inns [])).drop d = s1)
    (ha : ((s1.args [] ops []).map (s1.arg false [])) = args) (hr : args.all (AV.inns []) = true) (hk : K (s1.join [(d, o)]) res) : callW P d f [] ops [] none s K := by
  refine callK_of ⟨s, Le.refl s, false, [], res, [(d, o)], s1, hs1.symm, trivial, { spec := ?_, refs := ?_, sub := fun _ _ h => ?_, own := fun _ _ h => ?_, keep := fun _ _ h => ?_, new := fun id o h1 _ => ?_ }, hk⟩
  · rw [List.map_nil]; rw [ha]; exact h
  · rw [List.map_nil]; rw [ha]; exact hr
  · cases h
  · cases h
  · cases h
  · simp only [look] at h1
    split at h1
    · rename_i e; subst e; exact ⟨hs1 ▸ look_drop _ d, hd⟩
    · cases h1
end Go.Vm
end

/- Functions that are ranged over, loops over such, and results that are left open: how their contracts are reckoned. -/
section
namespace Go.Vm

/-- a state whose somebody else says less -/
theorem le_ghZ {s : St} {g : Nat} {Z Z' : GZ} (hg : look s.hp g = some (.gh Z [] [])) (hz : ∀ A B w, Z A B w → Z' A B w) : Le s (s.add g (.gh Z' [] [])) := by
  rintro E n a w ⟨ψ, h⟩
  have lk : ∀ {id o}, look (s.add g (.gh Z' [] [])).hp id = some o → (id = g ∧ o = .gh Z' [] []) ∨ (id ≠ g ∧ look s.hp id = some o) := by
    intro id o ho
    rw [look_add] at ho
    by_cases e : g = id
    · subst e; rw [if_pos rfl] at ho; cases ho; exact .inl ⟨rfl, rfl⟩
    · rw [if_neg e] at ho; exact .inr ⟨Ne.symm e, ho⟩
  have old : ∀ {id o}, look (s.add g (.gh Z' [] [])).hp id = some o → ∃ o', look s.hp id = some o' ∧ o'.org id = o.org id ∧ o'.multi = o.multi := by
    intro id o ho
    rcases lk ho with ⟨rfl, rfl⟩ | ⟨_, h⟩
    · exact ⟨_, hg, rfl, rfl⟩
    · exact ⟨o, h, rfl, rfl⟩
  have hheld : ∀ b, Held ψ (s.add g (.gh Z' [] [])).hp b → Held ψ s.hp b := by
    rintro b ⟨id, o, ho, hb⟩
    obtain ⟨o', h1, _⟩ := old ho
    exact ⟨id, o', h1, hb⟩
  have hI : ∀ b, b < w.heap.size → Im E ψ s.hp b → Im E ψ (s.add g (.gh Z' [] [])).hp b := fun b _ hb => ⟨hb.1, fun hh => hb.2 (hheld b hh)⟩
  have hk : Keeps ψ ψ s.hp (s.add g (.gh Z' [] [])).hp := by
    intro id o ho
    refine ⟨?_, rfl⟩
    by_cases e : g = id
    · subst e; rw [hg] at ho; cases ho; exact ⟨_, by rw [look_add, if_pos rfl], Ob.le_none rfl⟩
    · exact ⟨o, by rw [look_add, if_neg e]; exact ho, o.le_refl⟩
  refine ⟨ψ, { size := h.size, defers := h.defers.mono hI (fun _ _ _ => rfl), frame := fun t => (h.frame t).mono hI (fun _ _ _ => rfl) hk, obs := fun id o ho => ?_, inj := fun id id' o o' b q1 q2 => ?_, own := fun id o b ho hb => ?_, subs := fun id o b ho hb => ?_, par := h.par, old := h.old, grow := h.grow, same := h.same }⟩
  · rcases lk ho with ⟨rfl, rfl⟩ | ⟨_, ho⟩
    · obtain ⟨q1, q2, _, _⟩ := h.obs id _ hg
      have q2' := q2.mono hI (fun _ h => h) (fun _ _ _ => rfl) (fun _ _ => rfl)
      exact ⟨q1, fun A' B' w' k1 k2 k3 k4 => hz _ _ _ (q2' A' B' w' k1 k2 k3 k4), rfl, by simp⟩
    · exact (h.obs id o ho).mono hI (fun _ _ _ => rfl) hk ⟨rfl, fun _ h => h⟩ (fun _ _ => rfl)
  · obtain ⟨o1, g1, _⟩ := old q1
    obtain ⟨o2, g2, _⟩ := old q2
    exact h.inj id id' o1 o2 b g1 g2
  · obtain ⟨o1, g1, g2, _⟩ := old ho
    rw [← g2]; exact h.own id o1 b g1 hb
  · obtain ⟨o1, g1, _, g3⟩ := old ho
    rw [← g3]; exact h.subs id o1 b g1 hb

/-- an iterator's end -/
def EndI (Ze : GZ) (s : St) : Prop := ∃ Z, look s.hp 1000 = some (.gh Z [] []) ∧ (∀ A B w, Z A B w → Ze A B w) ∧ ownH s.hp [1000] = true
theorem gspecI {P : Program} {f : FuncId} {args : List AV} {Z0 Ze : GZ} {n : Nat} {c : VCode} (hf : fnV P f = some (n, c, [])) (hargs : args.length ≤ n) (hn : n ≤ 999)
    (h : wpV P c ⟨argFr 0 args, [(1000, .gh Z0 [] [])]⟩ ⟨EndI Ze, fun _ _ => False, EndI Ze, fun _ _ => False⟩) : GSpec P false f args [(1000, .gh Z0 [] [])] (.tup []) [(1000, .gh Ze [] [])] :=
  gspec_of_vc hf hargs rfl rfl (outs_mono (wpV_sound hn _ _ _ h) fun s h => by
    obtain ⟨Z, h1, h2, h3⟩ := h
    obtain ⟨D, g1, g2⟩ := ends_own (H' := [(1000, .gh Z [] [])]) (s := s) ⟨h1, trivial⟩ h3 rfl
    have g3 : look (s.drops D).hp 1000 = some (.gh Z [] []) := by rw [g2]; rfl
    refine ⟨(s.drops D).add 1000 (.gh Ze [] []), [], (le_drops D g1 s).trans (le_ghZ g3 h2), rfl, rfl, fun id => ?_, fun h => by cases h⟩
    rw [look_add]
    by_cases e : 1000 = id
    · subst e; simp [look]
    · rw [if_neg e, g2]; simp [look, e])

/-- a call of yield -/
theorem yield_ok {P : Program} {l g : Nat} {Z Z' : GZ} {b : Bool} {xs : List IV} {ops : List Operand} {s : St} {K : St → AV → Prop} (hy : YSpec P l xs Z b Z') (hg : look s.hp g = some (.gh Z [] []))
    (hops : ops.map s.ev = xs.map AV.iv) (hk : K (s.join [(g, .gh Z' [] [])]) (.iv (.v (.bool b)))) : yieldW P l ops s K := ⟨s, g, Z, b, Z', xs, Le.refl s, hg, hops, hy, hk⟩
theorem yield_le {P : Program} {l g : Nat} {Z Z' : GZ} {b : Bool} {xs : List IV} {ops : List Operand} {s : St} {K : St → AV → Prop} (D : List Nat) (s1 : St) (hle : LeTo D s s1) (hy : YSpec P l xs Z b Z') (hg : look s1.hp g = some (.gh Z [] []))
    (hops : ops.map s1.ev = xs.map AV.iv) (hk : K (s1.join [(g, .gh Z' [] [])]) (.iv (.v (.bool b)))) : yieldW P l ops s K := ⟨s1, g, Z, b, Z', xs, hle.le, hg, hops, hy, hk⟩

/-- a loop over a function, none of whose rounds leaves it -/
theorem rng_all {P : Program} {g : Operand} {ps : List Nat} {X Y : VCode} {s : St} {O : Outs} (D D' : List Nat) (r : Nat) (fr : List (Nat × AV)) (I : List (List IV) → Prop) (H : List (List IV) → Hp)
    {f : FuncId} {caps : List IV} {Pre : List (List IV) → List IV → Prop} {S : List (List IV) → Prop} (hspec : ISpec P f caps Pre S) (h0 : LeTo D s ⟨fr, H []⟩) (hg : St.ev ⟨fr, H []⟩ g = .fn f [] (caps.map CapV.val)) (hok : okFn P f = true)
    (hr : r < 1000) (hr0 : look (H []) r = none) (hnd : (fr.map (·.1)).Nodup) (hlen : ∀ pre x, Pre pre x → x.length = ps.length) (hI : I [])
    (hround : ∀ vs pre x, I pre → Pre pre x → I (pre ++ [x]) ∧ wpV P X (parS ps x ⟨fr, (r, .gh ZT vs (frCs fr)) :: H pre⟩)
      ⟨fun s' => wpV P Y s' ⟨fun s2 => LeTo D' s2 ⟨[], (r, .gh ZT vs (frCs fr)) :: H (pre ++ [x])⟩, fun _ _ => False, fun _ => False, fun _ _ => False⟩, fun _ _ => False, fun _ => False, fun _ _ => False⟩)
    (hend : ∀ vs xs, I xs → S xs → O.n ⟨fr, (r, .gh ZT vs (frCs fr)) :: H xs⟩) : rngW P g ps X Y s O := by
  refine ⟨f, caps, Pre, S, r, fr, I, H, fun _ _ => true, fun _ _ => [], ⟨h0.le, hg, hok, hspec, hr, hr0, hnd, hlen, hI⟩, fun vs pre x q1 q2 _ => ⟨(hround vs pre x q1 q2).1, ?_⟩, fun _ _ _ _ _ h => (by cases h), fun vs xs q1 q2 => ⟨_, Le.refl _, hend vs xs q1 q2⟩⟩
  refine wpV_mono X ?_ ?_ ?_ ?_ (hround vs pre x q1 q2).2
  · intro s h
    refine wpV_mono Y ?_ ?_ ?_ ?_ h
    · exact fun s2 h => h.le
    · exact fun _ _ h => h
    · exact fun _ h => h
    · exact fun _ _ h => h
  · exact fun _ _ h => h
  · exact fun _ h => h
  · exact fun _ _ h => h

/-- what comes out is one of these: by reckoning -/
def EndR (t : Nat) (R : AV → Hp → Prop) (s : St) : Prop := ∃ (D : List Nat) (x : AV) (H' : Hp), R x H' ∧ LeTo D s ⟨[(t, x)], H'⟩
theorem gspecR {P : Program} {f : FuncId} {args : List AV} {n t : Nat} {c : VCode} (R : AV → Hp → Prop) (hf : fnV P f = some (n, c, [.tmp t])) (hargs : args.length ≤ n) (hn : n ≤ 999)
    (hR : ∀ x H', R x H' → (∀ id o, look H' id = some o → o.isLent = false) ∧ (∀ cs, x ≠ .tup cs))
    (h : wpV P c ⟨argFr 0 args, []⟩ ⟨EndR t R, fun _ _ => False, EndR t R, fun _ _ => False⟩) : GSpecN P false f args [] R :=
  gspecN_of_vc hf hargs rfl rfl (fun x H' h => (hR x H' h).1) (outs_mono (wpV_sound hn _ _ _ h) fun s h => by
    obtain ⟨D, x, H', h1, h2⟩ := h
    exact ⟨⟨[(t, x)], H'⟩, [x], H', h2.le, by simp [resV, St.get, look], h1, fun _ => rfl, fun h => by cases h⟩)
theorem gspecRf {P : Program} {f : FuncId} {args : List AV} {n t : Nat} {c : VCode} (R : AV → Hp → Prop) (hf : fnV P f = some (n, c, [.tmp t])) (hargs : args.length ≤ n) (hn : n ≤ 999)
    (hR : ∀ x H', R x H' → (∀ id o, look H' id = some o → o.isLent = false ∧ o.flat) ∧ x.flat = true)
    (h : wpV P c ⟨argFr 0 args, []⟩ ⟨EndR t R, fun _ _ => False, EndR t R, fun _ _ => False⟩) : GSpecN P true f args [] R :=
  gspecN_of_vc hf hargs rfl rfl (fun x H' h id o ho => ((hR x H' h).1 id o ho).1) (outs_mono (wpV_sound hn _ _ _ h) fun s h => by
    obtain ⟨D, x, H', h1, h2⟩ := h
    exact ⟨⟨[(t, x)], H'⟩, [x], H', h2.le, by simp [resV, St.get, look], h1, fun _ => rfl, fun _ => ⟨(hR x H' h1).2, fun id o ho => ((hR x H' h1).1 id o ho).2⟩⟩)

attribute [simp] argsOk
/-- a call that borrows alone, of a function whose result is left open; what comes is new -/
theorem call_open {P : Program} {d : Nat} {f : FuncId} {ops : List Operand} {s : St} {K : St → AV → Prop} {args : List AV} {R : AV → Hp → Prop} (h : GSpecN P true f args [] R)
    (ha : argsOk (s.drop d) true [] ((s.drop d).args [] ops []) args) (hr : args.all (AV.inns []) = true)
    (hnew : ∀ x H', R x H' → ∀ id o, look H' id = some o → look (s.drop d).hp id = none ∧ id < 1000) (hk : ∀ x H', R x H' → K ((s.drop d).join H') x) : callW P d f [] ops [] none s K :=
  ⟨s, Le.refl s, true, [], R, s.drop d, rfl, trivial, args, ha, { spec := h, refs := hr, sub := fun _ _ h => (by cases h), own := fun _ _ h => (by cases h), keep := fun _ _ _ _ _ h => (by cases h), new := fun x H' hR id o h1 _ => hnew x H' hR id o h1 }, hk⟩


end Go.Vm
end

/- The program's data, and how the machine has them. No program in sight. -/
section
namespace Go.Rt
open Go.Vm

abbrev ci (i : Int) : IV := .v (.int .i64 i)
abbrev cb (b : Bool) : IV := .v (.bool b)
abbrev vi (i : Int) : AV := .iv (ci i)
abbrev vb (b : Bool) : AV := .iv (cb b)

/-- whether something holds -/
noncomputable def ofP (p : Prop) : Bool := @decide p (Classical.propDecidable p)
@[simp] theorem ofP_true {p : Prop} : ofP p = true ↔ p := by unfold ofP; exact @decide_eq_true_iff p (Classical.propDecidable p)
@[simp] theorem ofP_false {p : Prop} : ofP p = false ↔ ¬p := by unfold ofP; exact @decide_eq_false_iff_not p (Classical.propDecidable p)
theorem ofP_eq {p : Prop} {b : Bool} : b = ofP p ↔ (b = true ↔ p) := by
  rw [Bool.eq_iff_iff, ofP_true]
@[simp] theorem ofP_eq_true {p : Prop} : true = ofP p ↔ p := by rw [eq_comm, ofP_true]
@[simp] theorem ofP_eq_false {p : Prop} : false = ofP p ↔ ¬p := by rw [eq_comm, ofP_false]

/-- of all numbers below one -/
def Upto (n : Nat) (p : Nat → Prop) : Prop := ∀ j, j < n → p j
@[simp] theorem upto_zero {p : Nat → Prop} : Upto 0 p := fun _ h => absurd h (Nat.not_lt_zero _)
theorem Upto.succ {n : Nat} {p : Nat → Prop} (h : Upto n p) (hp : p n) : Upto (n + 1) p := fun j hj => by
  rcases Nat.lt_or_ge j n with h1 | h1
  · exact h j h1
  · have : j = n := by omega
    subst this; exact hp

theorem some_at {α : Type} {l : List α} {i : Nat} (h : i < l.length) : ∃ x, l[i]? = some x := ⟨_, List.getElem?_eq_getElem h⟩

theorem wrap_in {n : Int} (h : -(2 ^ 63) ≤ n ∧ n < 2 ^ 63) : IntKind.i64.wrap n = n := by rw [IntKind.wrap_i64]; omega
theorem cast_le {a b : Nat} : ((a : Int) ≤ (b : Int)) ↔ a ≤ b := by omega

/-- api.Value -/
@[ext] structure Vl where
  text : Bool
  n : Int
  s : ByteArray
@[simp] def Vl.cells (v : Vl) : List IV := [cb v.text, ci v.n, .v (.string v.s)]
def Vl.zero : Vl := ⟨false, 0, ⟨#[]⟩⟩
abbrev Vl.av (v : Vl) : AV := .agg (v.cells.map .iv)

@[simp] theorem Vl.eta (v : Vl) : Vl.mk v.text v.n v.s = v := rfl
@[simp] theorem Vl.mk_text (t : Bool) (n : Int) (s : ByteArray) : (Vl.mk t n s).text = t := rfl
@[simp] theorem Vl.mk_n (t : Bool) (n : Int) (s : ByteArray) : (Vl.mk t n s).n = n := rfl
@[simp] theorem Vl.mk_s (t : Bool) (n : Int) (s : ByteArray) : (Vl.mk t n s).s = s := rfl

abbrev Tb := List Bool
def boolsC (l : List Bool) : List (List IV) := l.map fun b => [cb b]
def tbIV (t : Tb) : IV := .lst 1 (boolsC t)

def tbAV (t : Tb) : AV := .agg [.iv (tbIV t)]

def intsC (l : List Int) : List (List IV) := l.map fun i => [ci i]
def intsIV (l : List Int) : IV := .lst 1 (intsC l)
def rowIV (r : List Vl) : IV := .lst 3 (r.map Vl.cells)

@[simp] theorem boolsC_len (l : List Bool) : (boolsC l).length = l.length := by simp [boolsC]
@[simp] theorem boolsC_get (l : List Bool) (i : Nat) : (boolsC l)[i]? = (l[i]?).map fun b => [cb b] := by simp [boolsC]
@[simp] theorem intsC_len (l : List Int) : (intsC l).length = l.length := by simp [intsC]
@[simp] theorem intsC_get (l : List Int) (i : Nat) : (intsC l)[i]? = (l[i]?).map fun b => [ci b] := by simp [intsC]


/-- api.Pred -/
inductive Pd where
  | mk (op col : Int) (v w : Vl) (l : List Pd)

def Pd.op : Pd → Int
  | .mk o _ _ _ _ => o
def Pd.col : Pd → Int
  | .mk _ c _ _ _ => c
def Pd.v : Pd → Vl
  | .mk _ _ v _ _ => v
def Pd.w : Pd → Vl
  | .mk _ _ _ w _ => w
def Pd.l : Pd → List Pd
  | .mk _ _ _ _ l => l

mutual
def Pd.cells : Pd → List IV
  | .mk o c v w l => [ci o, ci c, cb v.text, ci v.n, .v (.string v.s), cb w.text, ci w.n, .v (.string w.s), .lst 9 (Pd.cellsL l)]
def Pd.cellsL : List Pd → List (List IV)
  | [] => []
  | p :: r => p.cells :: Pd.cellsL r
end

theorem Pd.cellsL_map : ∀ l : List Pd, Pd.cellsL l = l.map Pd.cells
  | [] => by simp [Pd.cellsL]
  | p :: r => by simp [Pd.cellsL, Pd.cellsL_map r]
theorem Pd.cells_eq (p : Pd) : p.cells = [ci p.op, ci p.col, cb p.v.text, ci p.v.n, .v (.string p.v.s), cb p.w.text, ci p.w.n, .v (.string p.w.s), .lst 9 (p.l.map Pd.cells)] := by
  cases p with | mk o c v w l => rw [Pd.cells, Pd.cellsL_map]; rfl
def Pd.av (p : Pd) : AV := .agg (p.cells.map .iv)
theorem Pd.av_eq (p : Pd) : p.av = .agg [.iv (ci p.op), .iv (ci p.col), .iv (cb p.v.text), .iv (ci p.v.n), .iv (.v (.string p.v.s)), .iv (cb p.w.text), .iv (ci p.w.n), .iv (.v (.string p.w.s)), .iv (.lst 9 (p.l.map Pd.cells))] := by
  unfold Pd.av; rw [Pd.cells_eq]; rfl

/-- lists that can be counted -/
inductive Pd.Ok : Pd → Prop where
  | mk (p : Pd) (h : p.l.length < 2 ^ 63) (hv : p.v.s.size < 2 ^ 63) (hw : p.w.s.size < 2 ^ 63) (hl : ∀ q, q ∈ p.l → q.Ok) : p.Ok

mutual
def Pd.size : Pd → Int
  | .mk _ _ _ _ l => 1 + Pd.sizes l
def Pd.sizes : List Pd → Int
  | [] => 0
  | p :: r => p.size + Pd.sizes r
end
theorem Pd.size_eq (p : Pd) : p.size = 1 + Pd.sizes p.l := by cases p; rw [Pd.size]; rfl
@[simp] theorem Pd.sizes_nil : Pd.sizes [] = 0 := by rw [Pd.sizes]
theorem Pd.sizes_take {l : List Pd} {i : Nat} {p : Pd} (h : l[i]? = some p) : Pd.sizes (l.take (i + 1)) = Pd.sizes (l.take i) + p.size := by
  induction l generalizing i with
  | nil => cases h
  | cons q r ih =>
    cases i with
    | zero => simp only [List.getElem?_cons_zero, Option.some.injEq] at h; subst h; simp [Pd.sizes]
    | succ i =>
      simp only [List.getElem?_cons_succ] at h
      simp only [List.take_succ_cons, Pd.sizes, ih h]
      omega

theorem wrap_wrap_add (a b : Int) : IntKind.i64.wrap (IntKind.i64.wrap a + IntKind.i64.wrap b) = IntKind.i64.wrap (a + b) := by
  simp only [IntKind.wrap_i64]; omega
theorem wrap_add1 (a b : Int) : IntKind.i64.wrap (IntKind.i64.wrap a + b) = IntKind.i64.wrap (a + b) := by
  simp only [IntKind.wrap_i64]; omega

end Go.Rt
end

/- From the library's contract for a sort of numbers to a contract of the machine. -/
section
namespace Go.Vm
open Go.Sort (Holds putRow grow putCells mapBlock)

def numsC (l : List Int) : List (List IV) := l.map fun i => [.v (.int .i64 i)]
def sortI (l : List Int) : List Int := l.mergeSort fun x y => decide (x ≤ y)

theorem nums_at {l : List Int} {i j : Nat} {c : IV} (h : at2 (numsC l) i j = some c) : j = 0 ∧ ∃ n, l[i]? = some n ∧ c = .v (.int .i64 n) := by
  unfold at2 numsC at h
  rw [List.getElem?_map] at h
  cases hl : l[i]? with
  | none => rw [hl] at h; simp at h
  | some n =>
    rw [hl] at h
    simp only [Option.map_some, Option.bind_some] at h
    cases j with
    | zero => simp at h; exact ⟨rfl, n, rfl, h.symm⟩
    | succ j => simp at h
theorem nums_at0 {l : List Int} {i : Nat} {n : Int} (h : l[i]? = some n) : at2 (numsC l) i 0 = some (.v (.int .i64 n)) := by
  unfold at2 numsC; rw [List.getElem?_map, h]; rfl
theorem riv_int {A : Nat → Prop} {w : World} {n : Int} {v : Value} (h : RIV A w (.v (.int .i64 n)) v) : v = .int .i64 n := by cases h; rfl

theorem gspec_rowF {P : Program} {f : FuncId} (F : List Int → List Int) (hF : ∀ l, (F l).length = l.length) (hF0 : F [] = [])
    (hs : ∀ (blk off cap : Nat) (zs : List Int) (w : World), Holds (Value.int .i64) w blk off zs.toArray → blk < w.heap.size → zs.length < 4611686018427387904 →
      Calls P f #[.slice (some ⟨blk, off, none⟩) zs.length cap] w fun e w' => e = .returned (.tuple #[]) ∧ ∃ n os, w' = grow (putRow (Value.int .i64) (Go.Sort.ahead w n) blk off (F zs).toArray) os)
    (hn : ∀ (p : Option Addr) (cap : Nat) (w : World), Calls P f #[.slice p 0 cap] w fun e w' => e = .returned (.tuple #[]) ∧ w' = w)
    (xs : List Int) (hl : xs.length < 2 ^ 62) : GSpec P false f [.sl 1000 1 0 xs.length] [(1000, .list 1 (numsC xs))] (.tup []) [(1000, .list 1 (numsC (F xs)))] := by
  have hlen : (F xs).length = xs.length := hF xs
  have look1 : ∀ {o : Ob} {id : Nat} {q : Ob}, look [(1000, o)] id = some q → id = 1000 ∧ q = o := by
    intro o id q h
    simp only [look] at h
    split at h
    · exact ⟨by omega, by cases h; rfl⟩
    · cases h
  refine ⟨⟨fun id o h => by obtain ⟨_, rfl⟩ := look1 h; rfl, fun id o h => by obtain ⟨_, rfl⟩ := look1 h; rfl⟩, ?_⟩
  intro A ψ w vs hA hob hinj hsubs hheld hvl hrav
  have ho := hob 1000 (.list 1 (numsC xs)) rfl
  have hr := hrav 0 _ rfl
  obtain ⟨v, rfl⟩ : ∃ v, vs = [v] := by
    match vs, hvl with
    | [v], _ => exact ⟨v, rfl⟩
  simp only [List.getD_eq_getElem?_getD, List.getElem?_cons_zero, Option.getD_some] at hr
  have key : ∀ (w' : World), w.heap.size ≤ w'.heap.size → Same w w' → (∀ b, b < w.heap.size → ¬Held ψ [(1000, .list 1 (numsC xs))] b → w'.heap[b]? = w.heap[b]?) →
      ROb (fun b => ((false = false ∧ A b) ∨ w.heap.size ≤ b) ∧ ¬Held ψ [(1000, .list 1 (numsC (F xs)))] b) ψ [(1000, .list 1 (numsC (F xs)))] w' 1000 (.list 1 (numsC (F xs))) →
      ∃ v ψ', (Ending.returned (.tuple #[]) : Ending) = .returned v ∧
      (∀ b, b < w.heap.size → ¬Held ψ [(1000, .list 1 (numsC xs))] b → w'.heap[b]? = w.heap[b]?) ∧ w.heap.size ≤ w'.heap.size ∧ Same w w' ∧
      (∀ id o, look [(1000, Ob.list 1 (numsC xs))] id = some o → ψ'.main id = ψ id) ∧
      (∀ id o b, look [(1000, Ob.list 1 (numsC (F xs)))] id = some o → Owns ψ' id b → (∃ o0, look [(1000, Ob.list 1 (numsC xs))] id = some o0 ∧ Owns ψ id b) ∨ w.heap.size ≤ b) ∧
      (∀ id id' o o' b, look [(1000, Ob.list 1 (numsC (F xs)))] id = some o → look [(1000, Ob.list 1 (numsC (F xs)))] id' = some o' → Owns ψ' id b → Owns ψ' id' b → id = id') ∧ Subs ψ' [(1000, .list 1 (numsC (F xs)))] w' ∧
      (∀ id o, look [(1000, Ob.list 1 (numsC (F xs)))] id = some o → ROb (fun b => ((false = false ∧ A b) ∨ w.heap.size ≤ b) ∧ ¬Held ψ' [(1000, .list 1 (numsC (F xs)))] b) ψ' [(1000, .list 1 (numsC (F xs)))] w' id o) ∧
      RAV (fun b => ((false = false ∧ A b) ∨ w.heap.size ≤ b) ∧ ¬Held ψ' [(1000, .list 1 (numsC (F xs)))] b) ψ' [(1000, .list 1 (numsC (F xs)))] w' (.tup []) v := by
    intro w' h1 h2 h3 h4
    refine ⟨.tuple #[], ψ, rfl, h3, h1, h2, fun _ _ _ => rfl, fun id o b h hb => .inl ?_, fun id id' o o' b h h' _ _ => ?_, fun id o b h hb => ?_, fun id o h => ?_, .tup [] #[] rfl (fun i c h => by simp at h)⟩
    · obtain ⟨rfl, rfl⟩ := look1 h; exact ⟨.list 1 (numsC xs), rfl, hb⟩
    · obtain ⟨rfl, _⟩ := look1 h; obtain ⟨rfl, _⟩ := look1 h'; rfl
    · obtain ⟨rfl, rfl⟩ := look1 h
      have := (hsubs 1000 (.list 1 (numsC xs)) b rfl hb).1
      cases this
    · obtain ⟨rfl, rfl⟩ := look1 h; exact h4
  obtain ⟨hw1, ho⟩ := ho
  by_cases hx : xs = []
  · subst hx
    have hv : ∃ p cap, v = .slice p 0 cap := by
      cases hr with
      | sl0 => exact ⟨_, _, rfl⟩
      | sl => exact ⟨_, _, rfl⟩
    obtain ⟨p, cap, rfl⟩ := hv
    refine (hn p cap w).mono ?_
    rintro e w' ⟨rfl, rfl⟩
    refine key w' (Nat.le_refl _) ⟨rfl, rfl, rfl⟩ (fun _ _ _ => rfl) ?_
    have hso : F [] = [] := hF0
    rw [hso]
    refine ⟨hw1, ?_⟩
    rcases ho with ⟨g1, g2⟩ | ⟨b, k, c, e, g1, g2, g3, g4, g5⟩
    · exact .inl ⟨g1, g2⟩
    · exact .inr ⟨b, k, c, e, g1, g2, g3, g4, fun i j x h => by simp [at2, numsC] at h⟩
  · have hpos := List.length_pos_iff.2 hx
    rcases ho with ⟨_, g2⟩ | ⟨b, k, c, e, g1, g2, g3, g4, g5⟩
    · exact absurd (by simpa [numsC] using g2) hx
    · obtain ⟨cap, rfl⟩ : ∃ cap, v = .slice (some ⟨b, k.1, none⟩) xs.length cap := by
        generalize hlx : xs.length = n at hr hpos
        cases hr with
        | sl0 => omega
        | sl id sz lo len b' k' cap a o n' ho' he hxx hb ha hlc hk hm =>
          rw [g1] at hb; cases hb
          have := ha (by omega)
          rw [Nat.zero_mul, Nat.add_zero] at this
          subst this
          exact ⟨cap, rfl⟩
      have hbl : b < w.heap.size := heap_lt g2
      have hB : Held ψ [(1000, .list 1 (numsC xs))] b := ⟨1000, .list 1 (numsC xs), rfl, .inl ⟨k, g1⟩⟩
      have hcell : ∀ i n, xs[i]? = some n → c[k.1 + i]? = some (.int .i64 n) := by
        intro i n hi
        have h5 := riv_int (g5 i 0 _ (nums_at0 hi))
        have hil := (List.getElem?_eq_some_iff.1 hi).1
        have hcs : k.1 + i < c.size := by simp only [numsC, List.length_map] at g4; omega
        rw [Nat.mul_one, Nat.add_zero] at h5
        rw [Array.getD_eq_getD_getElem?, Array.getElem?_eq_getElem hcs] at h5
        rw [Array.getElem?_eq_getElem hcs]
        exact congrArg some h5
      have hH : Holds (Value.int .i64) w b k.1 xs.toArray := by
        intro j hj
        simp only [List.size_toArray] at hj
        have hj2 := List.getElem?_eq_getElem hj
        constructor
        · simp only [World.cell?, g2]
          rw [hcell j _ hj2]
          simp [hj]
        · simp only [World.frozen?, g2]
          simp
      refine (hs b k.1 cap xs w hH hbl (by omega)).mono ?_
      rintro ex w' ⟨rfl, n, os, rfl⟩
      have hsz : (putRow (Value.int .i64) (Go.Sort.ahead w n) b k.1 (F xs).toArray).heap.size = w.heap.size := by simp [putRow, mapBlock, Go.Sort.ahead]
      have hother : ∀ i, i ≠ b → i < w.heap.size → (grow (putRow (Value.int .i64) (Go.Sort.ahead w n) b k.1 (F xs).toArray) os).heap[i]? = w.heap[i]? := by
        intro i hi hlt
        rw [Go.Sort.heap_grow_old _ _ (by rw [hsz]; exact hlt)]
        simp only [putRow, mapBlock, Go.Sort.ahead, Array.getElem?_modify]
        rw [if_neg (Ne.symm hi)]
      have hmine : (grow (putRow (Value.int .i64) (Go.Sort.ahead w n) b k.1 (F xs).toArray) os).heap[b]? = some (.cells (putCells (Value.int .i64) k.1 (F xs).toArray c) e (0, 0)) := by
        rw [Go.Sort.heap_grow_old _ _ (by rw [hsz]; exact hbl)]
        simp only [putRow, mapBlock, Go.Sort.ahead, Array.getElem?_modify, if_true]
        rw [g2]; rfl
      refine key _ (by rw [Go.Sort.size_grow, hsz]; omega) ⟨rfl, rfl, rfl⟩ (fun i hi hh => hother i (fun e => hh (e ▸ hB)) hi) ?_
      refine ⟨fun x hxm => ?_, .inr ⟨b, k, _, e, g1, hmine, ?_, ?_, fun i j x h => ?_⟩⟩
      · simp only [numsC, List.mem_map] at hxm
        obtain ⟨_, _, rfl⟩ := hxm; rfl
      · simp only [putCells, Array.size_mapIdx]; exact g3
      · simp only [numsC, List.length_map] at g4 ⊢; omega
      · obtain ⟨rfl, m, hm, rfl⟩ := nums_at h
        have hil := (List.getElem?_eq_some_iff.1 hm).1
        rw [hlen] at hil
        simp only [numsC, List.length_map] at g4
        have hlt : k.1 + (i * 1 + 0) < (putCells (Value.int .i64) k.1 (F xs).toArray c).size := by simp only [putCells, Array.size_mapIdx]; omega
        have : (putCells (Value.int .i64) k.1 (F xs).toArray c).getD (k.1 + (i * 1 + 0)) undef = .int .i64 m := by
          rw [Array.getD_eq_getD_getElem?, Array.getElem?_eq_getElem hlt, Option.getD_some]
          simp only [putCells, Array.getElem_mapIdx, List.size_toArray, hlen]
          rw [if_pos (by omega)]
          have e1 : k.1 + (i * 1 + 0) - k.1 = i := by omega
          rw [e1]
          have := hm
          simp [List.getElem!_eq_getElem?_getD, this]
        rw [this]
        exact .v _ rfl
end Go.Vm
end

/- A function that does nothing to an empty row. -/
section
namespace Go.Vm
theorem gspec_none {P : Program} {f : FuncId}
    (hn : ∀ (p : Option Addr) (cap : Nat) (w : World), Calls P f #[.slice p 0 cap] w fun e w' => e = .returned (.tuple #[]) ∧ w' = w) : GSpec P true f [.iv (.lst 1 [])] [] (.tup []) [] := by
  refine ⟨⟨fun id o h => (by cases h), fun id o h => by cases h⟩, ?_⟩
  intro A ψ w vs hA hob hinj hsubs hheld hvl hrav
  have hr := hrav 0 _ rfl
  obtain ⟨v, rfl⟩ : ∃ v, vs = [v] := by
    match vs, hvl with
    | [v], _ => exact ⟨v, rfl⟩
  simp only [List.getD_eq_getElem?_getD, List.getElem?_cons_zero, Option.getD_some] at hr
  have hv : ∃ p cap, v = .slice p 0 cap := by
    cases hr with
    | iv _ _ h =>
      generalize hx : IV.lst 1 [] = x at h
      cases h <;> try cases hx
      · exact ⟨_, _, rfl⟩
      · exact ⟨_, _, rfl⟩
  obtain ⟨p, cap, rfl⟩ := hv
  refine (hn p cap w).mono ?_
  rintro e w' ⟨rfl, rfl⟩
  refine ⟨.tuple #[], ψ, rfl, fun _ _ _ => rfl, Nat.le_refl _, ⟨rfl, rfl, rfl⟩, fun _ _ _ => rfl, fun id o b h => (by cases h), fun id id' o o' b h => (by cases h), fun id o b h => (by cases h), fun id o h => (by cases h), .tup [] #[] rfl (fun i c h => by simp at h)⟩
end Go.Vm
end

/- From the library's contracts that cut a row of numbers to contracts of the machine. -/
section
namespace Go.Vm
open Go.Sort (Holds putRow grow putCells mapBlock)

theorem gspec_cut {P : Program} {f : FuncId} (xs R ys : List Int) (m : Nat) (more : List Value) (hR : R.length = xs.length) (hm : m ≤ xs.length) (hne : xs ≠ [])
    (hs : ∀ (blk off cap : Nat) (w : World), Holds (Value.int .i64) w blk off xs.toArray → xs.length ≤ cap → cap ≤ 9223372036854775807 →
      Calls P f (Value.slice (some ⟨blk, off, none⟩) xs.length cap :: more).toArray w fun e w' => e = .returned (.slice (some ⟨blk, off, none⟩) m cap) ∧ ∃ n, w' = putRow (Value.int .i64) (Go.Sort.ahead w n) blk off R.toArray) :
    GSpec P false f (.sl 1000 1 0 xs.length :: more.map fun v => .iv (.v v)) [(1000, .list 1 (numsC (xs ++ ys)))] (.sl 1000 1 0 m) [(1000, .list 1 (numsC (R ++ ys)))] := by
  have look1 : ∀ {o : Ob} {id : Nat} {q : Ob}, look [(1000, o)] id = some q → id = 1000 ∧ q = o := by
    intro o id q h
    simp only [look] at h
    split at h
    · exact ⟨by omega, by cases h; rfl⟩
    · cases h
  refine ⟨⟨fun id o h => by obtain ⟨_, rfl⟩ := look1 h; rfl, fun id o h => by obtain ⟨_, rfl⟩ := look1 h; rfl⟩, ?_⟩
  intro A ψ w vs hA hob hinj hsubs hheld hvl hrav
  have ho := hob 1000 (.list 1 (numsC (xs ++ ys))) rfl
  obtain ⟨v, vs, rfl⟩ : ∃ v r, vs = v :: r := by
    match vs, hvl with
    | v :: r, _ => exact ⟨v, r, rfl⟩
  have hr := hrav 0 _ rfl
  simp only [List.getD_eq_getElem?_getD, List.getElem?_cons_zero, Option.getD_some] at hr
  have hvs : vs = more := by
    refine List.ext_getElem? fun i => ?_
    have hl2 : vs.length = more.length := by simpa using hvl
    cases hi : more[i]? with
    | none =>
      have := List.getElem?_eq_none_iff.1 hi
      exact List.getElem?_eq_none_iff.2 (by omega)
    | some x =>
      have h1 := hrav (i + 1) (.iv (.v x)) (by simp [hi])
      have hlt : i < vs.length := by have := (List.getElem?_eq_some_iff.1 hi).1; omega
      simp only [List.getD_eq_getElem?_getD, List.getElem?_cons_succ, List.getElem?_eq_getElem hlt, Option.getD_some] at h1 ⊢
      cases h1 with
      | iv _ _ h2 => cases h2; rfl
  subst hvs
  obtain ⟨hw1, ho⟩ := ho
  have hpos := List.length_pos_iff.2 hne
  rcases ho with ⟨_, g2⟩ | ⟨b, k, c, e, g1, g2, g3, g4, g5⟩
  · exact absurd (by simpa [numsC] using g2) (by simp [hne])
  · obtain ⟨cap, a, hlc, hk, hmx, ha, rfl⟩ : ∃ cap a, xs.length ≤ cap ∧ (0 + cap) * 1 ≤ k.2 ∧ cap < 2 ^ 63 ∧ a = (⟨b, k.1, none⟩ : Addr) ∧ v = .slice (some a) xs.length cap := by
      generalize hlx : xs.length = n at hr hpos
      cases hr with
      | sl0 => omega
      | sl id sz lo len b' k' cap a o n' ho' he hxx hb ha hlc hk hmx =>
        rw [g1] at hb; cases hb
        have := ha (by omega)
        rw [Nat.zero_mul, Nat.add_zero] at this
        exact ⟨cap, a, hlc, hk, hmx, this, rfl⟩
    subst ha
    have hbl : b < w.heap.size := heap_lt g2
    have hB : Held ψ [(1000, .list 1 (numsC (xs ++ ys)))] b := ⟨1000, .list 1 (numsC (xs ++ ys)), rfl, .inl ⟨k, g1⟩⟩
    have hxl : xs.length + ys.length ≤ k.2 := by simp only [numsC, List.length_map, List.length_append] at g4; omega
    have hcell : ∀ i n, (xs ++ ys)[i]? = some n → c[k.1 + i]? = some (.int .i64 n) := by
      intro i n hi
      have h5 := riv_int (g5 i 0 _ (nums_at0 hi))
      have hil := (List.getElem?_eq_some_iff.1 hi).1
      rw [List.length_append] at hil
      have hcs : k.1 + i < c.size := by omega
      rw [Nat.mul_one, Nat.add_zero] at h5
      rw [Array.getD_eq_getD_getElem?, Array.getElem?_eq_getElem hcs] at h5
      rw [Array.getElem?_eq_getElem hcs]
      exact congrArg some h5
    have hH : Holds (Value.int .i64) w b k.1 xs.toArray := by
      intro j hj
      simp only [List.size_toArray] at hj
      have hj2 : (xs ++ ys)[j]? = some xs[j] := by rw [List.getElem?_append_left hj]; exact List.getElem?_eq_getElem hj
      constructor
      · simp only [World.cell?, g2]
        rw [hcell j _ hj2]
        simp [hj]
      · simp only [World.frozen?, g2]
        simp
    refine (hs b k.1 cap w hH hlc (by omega)).mono ?_
    rintro ex w' ⟨rfl, n, rfl⟩
    have hsz : (putRow (Value.int .i64) (Go.Sort.ahead w n) b k.1 R.toArray).heap.size = w.heap.size := by simp [putRow, mapBlock, Go.Sort.ahead]
    have hother : ∀ i, i ≠ b → i < w.heap.size → (putRow (Value.int .i64) (Go.Sort.ahead w n) b k.1 R.toArray).heap[i]? = w.heap[i]? := by
      intro i hi hlt
      simp only [putRow, mapBlock, Go.Sort.ahead, Array.getElem?_modify]
      rw [if_neg (Ne.symm hi)]
    have hmine : (putRow (Value.int .i64) (Go.Sort.ahead w n) b k.1 R.toArray).heap[b]? = some (.cells (putCells (Value.int .i64) k.1 R.toArray c) e (0, 0)) := by
      simp only [putRow, mapBlock, Go.Sort.ahead, Array.getElem?_modify, if_true]
      rw [g2]; rfl
    refine ⟨_, ψ, rfl, fun i hi hh => hother i (fun e => hh (e ▸ hB)) hi, by rw [hsz]; exact Nat.le_refl _, ⟨rfl, rfl, rfl⟩, fun _ _ _ => rfl, fun id o b' h hb' => .inl ?_, fun id id' o o' b' h h' _ _ => ?_, fun id o b' h hb' => ?_, fun id o h => ?_, ?_⟩
    · obtain ⟨rfl, rfl⟩ := look1 h; exact ⟨.list 1 (numsC (xs ++ ys)), rfl, hb'⟩
    · obtain ⟨rfl, _⟩ := look1 h; obtain ⟨rfl, _⟩ := look1 h'; rfl
    · obtain ⟨rfl, rfl⟩ := look1 h
      have := (hsubs 1000 (.list 1 (numsC (xs ++ ys))) b' rfl hb').1
      cases this
    · obtain ⟨rfl, rfl⟩ := look1 h
      refine ⟨fun x hxm => ?_, .inr ⟨b, k, _, e, g1, hmine, ?_, ?_, fun i j x h => ?_⟩⟩
      · simp only [numsC, List.mem_map] at hxm
        obtain ⟨_, _, rfl⟩ := hxm; rfl
      · simp only [putCells, Array.size_mapIdx]; exact g3
      · simp only [numsC, List.length_map, List.length_append]; omega
      · obtain ⟨rfl, z, hz, rfl⟩ := nums_at h
        have hil := (List.getElem?_eq_some_iff.1 hz).1
        rw [List.length_append] at hil
        have hlt : k.1 + (i * 1 + 0) < (putCells (Value.int .i64) k.1 R.toArray c).size := by simp only [putCells, Array.size_mapIdx]; omega
        have : (putCells (Value.int .i64) k.1 R.toArray c).getD (k.1 + (i * 1 + 0)) undef = .int .i64 z := by
          rw [Array.getD_eq_getD_getElem?, Array.getElem?_eq_getElem hlt, Option.getD_some]
          simp only [putCells, Array.getElem_mapIdx, List.size_toArray]
          have e1 : k.1 + (i * 1 + 0) - k.1 = i := by omega
          by_cases hi : i < R.length
          · rw [if_pos (by omega), e1]
            rw [List.getElem?_append_left hi] at hz
            simp [List.getElem!_eq_getElem?_getD, hz]
          · rw [if_neg (by omega)]
            have hz2 : (xs ++ ys)[i]? = some z := by
              rw [List.getElem?_append_right (by omega)] at hz ⊢
              rw [← hR]; exact hz
            have := hcell i z hz2
            have e2 : k.1 + (i * 1 + 0) = k.1 + i := by omega
            simp only [e2]
            have h9 := (Array.getElem?_eq_some_iff.1 this).2
            exact h9
        rw [this]
        exact .v _ rfl
    · exact .sl 1000 1 0 m b k cap _ (.list 1 (numsC (R ++ ys))) _ rfl rfl (by simp [numsC]; omega) g1 (fun _ => by simp) (by omega) hk hmx
theorem gspec_keep0 {P : Program} {f : FuncId}
    (hn : ∀ (p : Option Addr) (cap : Nat) (w : World), Calls P f #[.slice p 0 cap] w fun e w' => e = .returned (.slice p 0 cap) ∧ w' = w) : GSpec P true f [.iv (.lst 1 [])] [] (.iv (.lst 1 [])) [] := by
  refine ⟨⟨fun id o h => (by cases h), fun id o h => by cases h⟩, ?_⟩
  intro A ψ w vs hA hob hinj hsubs hheld hvl hrav
  have hr := hrav 0 _ rfl
  obtain ⟨v, rfl⟩ : ∃ v, vs = [v] := by
    match vs, hvl with
    | [v], _ => exact ⟨v, rfl⟩
  simp only [List.getD_eq_getElem?_getD, List.getElem?_cons_zero, Option.getD_some] at hr
  have hv : v = .slice none 0 0 ∨ ∃ a cap, v = .slice (some a) 0 cap := by
    cases hr with
    | iv _ _ h =>
      generalize hx : IV.lst 1 [] = x at h
      cases h <;> try cases hx
      · exact .inl rfl
      · exact .inr ⟨_, _, rfl⟩
  have key : ∀ {B : Nat → Prop}, RIV B w (.lst 1 []) v := by
    intro B
    rcases hv with rfl | ⟨a, cap, rfl⟩
    · exact .lnil _
    · exact .lst 1 [] 0 0 _ _ (fun _ _ => undef) (by simp) (by simp) (by simp) (by simp [at2]) (by simp [at2])
  obtain ⟨p, cap, rfl⟩ : ∃ p cap, v = .slice p 0 cap := by
    rcases hv with rfl | ⟨a, cap, rfl⟩ <;> exact ⟨_, _, rfl⟩
  refine (hn p cap w).mono ?_
  rintro e w' ⟨rfl, rfl⟩
  exact ⟨_, ψ, rfl, fun _ _ _ => rfl, Nat.le_refl _, ⟨rfl, rfl, rfl⟩, fun _ _ _ => rfl, fun id o b h => (by cases h), fun id id' o o' b h => (by cases h), fun id o b h => (by cases h), fun id o h => (by cases h), .iv _ _ key⟩
theorem compact_mem {zs : List Int} {x : Int} : x ∈ Lib.compact zs ↔ x ∈ zs := by
  unfold Lib.compact Lib.compactUpTo
  simp only [List.mem_map, List.mem_filter, List.mem_range]
  constructor
  · rintro ⟨i, ⟨hi, _⟩, rfl⟩
    simp [hi]
  · intro h
    obtain ⟨i, hi, he⟩ := List.mem_iff_getElem.1 h
    have : ∀ (n i : Nat), i ≤ n → (hi : i < zs.length) → zs[i] = x → ∃ j, (j < zs.length ∧ Lib.keeps zs.toArray j = true) ∧ zs.toArray[j]! = x := by
      intro n
      induction n with
      | zero =>
        intro i hn hi he
        have : i = 0 := by omega
        subst this
        exact ⟨0, ⟨hi, by simp [Lib.keeps]⟩, by simp [hi, he]⟩
      | succ n ih =>
        intro i hn hi he
        by_cases hk : Lib.keeps zs.toArray i = true
        · exact ⟨i, ⟨hi, hk⟩, by simp [hi, he]⟩
        · simp only [Lib.keeps, decide_eq_true_eq, not_or, Classical.not_not] at hk
          obtain ⟨h0, h1⟩ := hk
          have hi1 : i - 1 < zs.length := by omega
          refine ih (i - 1) (by omega) hi1 ?_
          simp [hi, hi1] at h1
          rw [← h1]; exact he
    exact this i i (Nat.le_refl _) hi he
theorem compact_lt {zs : List Int} (h : zs.Pairwise (· ≤ ·)) : (Lib.compact zs).Pairwise (· < ·) := by
  unfold Lib.compact Lib.compactUpTo
  rw [List.pairwise_map]
  have hs : ((List.range zs.length).filter (Lib.keeps zs.toArray)).Pairwise (· < ·) := List.Pairwise.filter _ List.pairwise_lt_range
  refine hs.imp_of_mem ?_
  intro i j hi hj hij
  simp only [List.mem_filter, List.mem_range] at hi hj
  have hk := hj.2
  simp only [Lib.keeps, decide_eq_true_eq] at hk
  have hk := hk.resolve_left (by omega)
  have hj1 : j - 1 < zs.length := by omega
  have hjl := hj.1
  have hil := hi.1
  simp [hjl, hj1] at hk
  have h1 : zs[j - 1] ≤ zs[j] := List.pairwise_iff_getElem.1 h (j - 1) j hj1 hjl (by omega)
  have h2 : zs[i] ≤ zs[j - 1] := by
    by_cases he : i = j - 1
    · subst he; omega
    · exact List.pairwise_iff_getElem.1 h i (j - 1) hil hj1 (by omega)
  simp [hil, hjl]
  omega
theorem compact_le (zs : List Int) : (Lib.compact zs).length ≤ zs.length := by
  unfold Lib.compact Lib.compactUpTo
  rw [List.length_map]
  have := List.length_filter_le (Lib.keeps zs.toArray) (List.range zs.length)
  simpa using this
end Go.Vm
end

/- Rows that are built from nil; loops entered by whatever step. -/
section
namespace Go.Vm
@[simp] theorem ev_pn {s : St} : s.ev (.const (.pointer none)) = .iv (.v (.pointer none)) := rfl
/-- a cell that holds a slice that is nil may as well hold an empty row of one's own -/
theorem le_own {s : St} {j i sz id : Nat} {cs : List AV} (h : look s.hp j = some (.box cs)) (hi : cs[i]? = some (.nil sz)) (hno : look s.hp id = none) (hid : id < 1000) :
    Le s ((s.add id (.list sz [])).add j (.box (cs.set i (.sl id sz 0 0)))) := by
  rintro E n a w ⟨ψ, hs⟩
  have h1 := hs.new (o := .list sz []) (p := none) (w' := w) hid hno (Ext.refl w) (fun b k e => by cases e) ⟨fun _ h => (by cases h), .inl ⟨by simp [upd], rfl⟩⟩
  have hj : j ≠ id := by rintro rfl; rw [hno] at h; cases h
  have hl : look (s.add id (.list sz [])).hp j = some (.box cs) := by rw [look_add, if_neg (Ne.symm hj)]; exact h
  obtain ⟨b, c, e, g1, g2, g3, g4⟩ := h1.obs j _ hl
  have hψ : upd ψ id none id = none := by simp [upd]
  refine ⟨_, h1.chg (o' := .box (cs.set i (.sl id sz 0 0))) hl (Ob.le_none rfl) rfl (fun h => by cases h) g1 (fun _ _ => rfl) rfl ⟨rfl, rfl, rfl⟩ fun hm _ => ⟨b, c, e, g1, g2, by simpa using g3, fun k x hx => ?_⟩⟩
  rw [List.getElem?_set] at hx
  split at hx
  · rename_i e1
    subst e1
    split at hx
    · simp only [Option.some.injEq] at hx
      subst hx
      have := g4 i _ hi
      generalize c.getD i undef = v at this
      cases this
      exact .sl0 id sz (.list sz []) 0 (by rw [look_add, if_neg hj, look_add, if_pos rfl]) rfl hψ
    · cases hx
  · exact hm x _ (g4 k x hx)

/-- a loop that counts up to a bound, entered by whatever step -/
theorem loop_idxL {P : Program} {c : VCode} {s : St} {O : Outs} (D' : List Nat) (n : Nat) (S : Nat → St) (Q : Nat → Prop) (h0 : Le s (S 0)) (q0 : Q 0)
    (hs : ∀ i, i ≤ n → Q i → wpV P c (S i) { O with n := fun s2 => i < n ∧ LeTo D' s2 (S (i + 1)) ∧ Q (i + 1) }) : loopW P c s O := by
  refine ⟨fun k s => ∃ i, i ≤ n ∧ k = n - i ∧ s = S i ∧ Q i, ⟨_, _, h0, 0, Nat.zero_le _, rfl, rfl, q0⟩, ?_⟩
  rintro k s' ⟨i, hi, rfl, rfl, hq⟩
  refine wpV_mono c (O := { O with n := fun s2 => i < n ∧ LeTo D' s2 (S (i + 1)) ∧ Q (i + 1) }) (fun s2 h => ?_) (fun _ _ h => h) (fun _ h => h) (fun _ _ h => h) (hs i hi hq)
  obtain ⟨hlt, hle, hq'⟩ := h
  exact ⟨_, _, by omega, hle.le, i + 1, hlt, rfl, rfl, hq'⟩

/-- a loop over a function, none of whose rounds leaves it, entered by whatever step -/
theorem rng_le {P : Program} {g : Operand} {ps : List Nat} {X Y : VCode} {s : St} {O : Outs} (D' : List Nat) (r : Nat) (fr : List (Nat × AV)) (I : List (List IV) → Prop) (H : List (List IV) → Hp)
    {f : FuncId} {caps : List IV} {Pre : List (List IV) → List IV → Prop} {S : List (List IV) → Prop} (hspec : ISpec P f caps Pre S) (h0 : Le s ⟨fr, H []⟩) (hg : St.ev ⟨fr, H []⟩ g = .fn f [] (caps.map CapV.val)) (hok : okFn P f = true)
    (hr : r < 1000) (hr0 : look (H []) r = none) (hnd : (fr.map (·.1)).Nodup) (hlen : ∀ pre x, Pre pre x → x.length = ps.length) (hI : I [])
    (hround : ∀ vs pre x, I pre → Pre pre x → I (pre ++ [x]) ∧ wpV P X (parS ps x ⟨fr, (r, .gh ZT vs (frCs fr)) :: H pre⟩)
      ⟨fun s' => wpV P Y s' ⟨fun s2 => LeTo D' s2 ⟨[], (r, .gh ZT vs (frCs fr)) :: H (pre ++ [x])⟩, fun _ _ => False, fun _ => False, fun _ _ => False⟩, fun _ _ => False, fun _ => False, fun _ _ => False⟩)
    (hend : ∀ vs xs, I xs → S xs → O.n ⟨fr, (r, .gh ZT vs (frCs fr)) :: H xs⟩) : rngW P g ps X Y s O := by
  refine ⟨f, caps, Pre, S, r, fr, I, H, fun _ _ => true, fun _ _ => [], ⟨h0, hg, hok, hspec, hr, hr0, hnd, hlen, hI⟩, fun vs pre x q1 q2 _ => ⟨(hround vs pre x q1 q2).1, ?_⟩, fun _ _ _ _ _ h => (by cases h), fun vs xs q1 q2 => ⟨_, Le.refl _, hend vs xs q1 q2⟩⟩
  refine wpV_mono X ?_ ?_ ?_ ?_ (hround vs pre x q1 q2).2
  · intro s h
    refine wpV_mono Y ?_ ?_ ?_ ?_ h
    · exact fun s2 h => h.le
    · exact fun _ _ h => h
    · exact fun _ h => h
    · exact fun _ _ h => h
  · exact fun _ _ h => h
  · exact fun _ h => h
  · exact fun _ _ h => h
end Go.Vm
end

/- Calls that hand back new things; ends with lists that may be nil. -/
section
namespace Go.Vm
theorem call_newH {P : Program} {d : Nat} {f : FuncId} {ops : List Operand} {s s1 : St} {K : St → AV → Prop} {args : List AV} {res : AV} {H' : Hp} (h : GSpec P false f args [] res H')
    (hs1 : (s.frz ((s.args [] ops []).filter fun x => !x.inns [])).drop d = s1)
    (ha : ((s1.args [] ops []).map (s1.arg false [])) = args) (hr : args.all (AV.inns []) = true) (hn : keysB H' (H'.map (·.1)) = true) (hf : H'.all (fun p => decide (p.1 < 1000) && (look s1.hp p.1).isNone) = true)
    (hk : K (s1.join H') res) : callW P d f [] ops [] none s K := by
  refine callK_of ⟨s, Le.refl s, false, [], res, H', s1, hs1.symm, trivial, { spec := ?_, refs := ?_, sub := fun _ _ h => ?_, own := fun _ _ h => ?_, keep := fun _ _ h => ?_, new := fun id o h1 _ => ?_ }, hk⟩
  · rw [List.map_nil]; rw [ha]; exact h
  · rw [List.map_nil]; rw [ha]; exact hr
  · cases h
  · cases h
  · cases h
  · have := List.all_eq_true.1 hf _ (look_some_mem h1)
    simp only [Bool.and_eq_true, decide_eq_true_eq, Option.isNone_iff_eq_none] at this
    exact ⟨this.2, this.1⟩
theorem le_ivc {s : St} {t : Nat} {y : IV} (h : (s.get t).ivc = some y) : Le s (s.set t (.iv y)) := by
  rintro E n a w ⟨ψ, hs⟩
  refine ⟨ψ, { hs with frame := fun u => ?_ }⟩
  rw [St.get_set]
  split
  · rename_i e; subst e
    exact .iv _ _ (riv_ivc (hs.frame t) h (fun _ _ h => h))
  · exact hs.frame u
/-- a function's end with one plain value, or a slice that is nil, that may lean on what came in -/
def EndV (D : List Nat) (t : Nat) (x : IV) (s : St) : Prop := D.all (· < 1000) = true ∧ ((s.drops D).get t).ivc = some x ∧ smallH s.hp = true
theorem gspec1V {P : Program} {f : FuncId} {args : List AV} {x : IV} {n t : Nat} {c : VCode} (hf : fnV P f = some (n, c, [.tmp t]))
    (hargs : args.length ≤ n) (hn : n ≤ 999) (h : wpV P c ⟨argFr 0 args, []⟩ ⟨fun s => ∃ D, EndV D t x s, fun _ _ => False, fun s => ∃ D, EndV D t x s, fun _ _ => False⟩) : GSpec P false f args [] (.iv x) [] :=
  gspec_of_vc hf hargs rfl rfl (outs_mono (wpV_sound hn _ _ _ h) fun s h => by
    obtain ⟨D, h1, h2, h3⟩ := h
    have hk : (((s.drops D).set t (.iv x)).hp.map (·.1)).all (· < 1000) = true := by
      show ((s.drops D).hp.map (·.1)).all (· < 1000) = true
      rw [List.all_eq_true]
      intro k hk
      exact List.all_eq_true.1 (smallH_all h3) k (drops_keys D hk)
    refine ⟨((s.drops D).set t (.iv x)).drops (((s.drops D).set t (.iv x)).hp.map (·.1)), [.iv x], ((le_drops D h1 s).trans (le_ivc h2)).trans (le_drops _ hk _), ?_, rfl, fun id => ?_, fun h => by cases h⟩
    · simp [resV, get_drops_iv _ (show ((s.drops D).set t (.iv x)).get t = .iv x by rw [St.get_set, if_pos rfl])]
    · refine look_drops_none _ ?_
      cases hl : Vm.look ((s.drops D).set t (.iv x)).hp id with
      | none => exact .inr rfl
      | some o => exact .inl (List.contains_iff_mem.1 (look_mem hl)))

/-- a slot that holds a slice that is nil may as well hold an empty row of one's own -/
theorem le_ownT {s : St} {t sz id : Nat} (h : s.get t = .nil sz) (hno : Vm.look s.hp id = none) (hid : id < 1000) : Le s ((s.add id (.list sz [])).set t (.sl id sz 0 0)) := by
  rintro E n a w ⟨ψ, hs⟩
  have h1 := hs.new (o := .list sz []) (p := none) (w' := w) hid hno (Ext.refl w) (fun b k e => by cases e) ⟨fun _ h => (by cases h), .inl ⟨by simp [upd], rfl⟩⟩
  have hψ : upd ψ id none id = none := by simp [upd]
  refine ⟨_, { h1 with frame := fun u => ?_ }⟩
  have hf := h1.frame u
  rw [St.get_set]
  split
  · rename_i e; subst e
    rw [show (s.add id (.list sz [])).get t = .nil sz from h] at hf
    generalize a.tmps.getD t undef = v at hf
    cases hf
    exact .sl0 id sz (.list sz []) 0 (by rw [show ((s.add id (.list sz [])).set t (.sl id sz 0 0)).hp = (s.add id (.list sz [])).hp from rfl, look_add, if_pos rfl]) rfl hψ
  · exact hf


def EndV2 (D : List Nat) (t u : Nat) (x y : IV) (s : St) : Prop := D.all (· < 1000) = true ∧ ((s.drops D).get t).ivc = some x ∧ (s.drops D).get u = .iv y ∧ smallH s.hp = true
theorem gspec2V {P : Program} {f : FuncId} {args : List AV} {x y : IV} {n t u : Nat} {c : VCode} (htu : t ≠ u) (hf : fnV P f = some (n, c, [.tmp t, .tmp u]))
    (hargs : args.length ≤ n) (hn : n ≤ 999) (h : wpV P c ⟨argFr 0 args, []⟩ ⟨fun s => ∃ D, EndV2 D t u x y s, fun _ _ => False, fun s => ∃ D, EndV2 D t u x y s, fun _ _ => False⟩) : GSpec P false f args [] (.tup [.iv x, .iv y]) [] :=
  gspec_of_vc hf hargs rfl rfl (outs_mono (wpV_sound hn _ _ _ h) fun s h => by
    obtain ⟨D, h1, h2, h4, h3⟩ := h
    have hk : (((s.drops D).set t (.iv x)).hp.map (·.1)).all (· < 1000) = true := by
      show ((s.drops D).hp.map (·.1)).all (· < 1000) = true
      rw [List.all_eq_true]
      intro k hk
      exact List.all_eq_true.1 (smallH_all h3) k (drops_keys D hk)
    refine ⟨((s.drops D).set t (.iv x)).drops (((s.drops D).set t (.iv x)).hp.map (·.1)), [.iv x, .iv y], ((le_drops D h1 s).trans (le_ivc h2)).trans (le_drops _ hk _), ?_, rfl, fun id => ?_, fun h => by cases h⟩
    · simp [resV, get_drops_iv _ (show ((s.drops D).set t (.iv x)).get t = .iv x by rw [St.get_set, if_pos rfl]), get_drops_iv _ (show ((s.drops D).set t (.iv x)).get u = .iv y by rw [St.get_set, if_neg (by first | exact htu | exact Ne.symm htu)]; exact h4)]
    · refine look_drops_none _ ?_
      cases hl : Vm.look ((s.drops D).set t (.iv x)).hp id with
      | none => exact .inr rfl
      | some o => exact .inl (List.contains_iff_mem.1 (look_mem hl)))
end Go.Vm
end

/- Ways along edges: by length, and by layers. No program in sight. -/
section
namespace Go.Rt

def firstNE {α : Type} : List (List α) → List α
  | [] => []
  | x :: r => if x.isEmpty then firstNE r else x
/-- the first so many -/
def firstTo {α : Type} (f : Nat → List α) (j : Nat) : List α := firstNE ((List.range j).map f)
section
variable {α : Type}
theorem firstNE_append (a b : List (List α)) : firstNE (a ++ b) = if (firstNE a).isEmpty then firstNE b else firstNE a := by
  induction a with
  | nil => simp [firstNE]
  | cons x r ih =>
    simp only [List.cons_append, firstNE]
    by_cases h : x.isEmpty <;> simp [h, ih]
theorem firstTo_next (f : Nat → List α) (j : Nat) : firstTo f (j + 1) = if (firstTo f j).isEmpty then f j else firstTo f j := by
  unfold firstTo
  rw [List.range_succ, List.map_append, firstNE_append]
  by_cases h : (f j).isEmpty
  · have : f j = [] := List.isEmpty_iff.1 h
    simp [firstNE, this]
  · simp [firstNE, h]
theorem firstTo_go {f : Nat → List α} {j : Nat} (h : firstTo f j = []) : firstTo f (j + 1) = f j := by rw [firstTo_next, h]; rfl
theorem firstTo_keep {f : Nat → List α} {j : Nat} (h : firstTo f j ≠ []) : firstTo f (j + 1) = firstTo f j := by
  rw [firstTo_next, if_neg (by simpa using h)]
theorem firstTo_stays {f : Nat → List α} {j n : Nat} (h : firstTo f j ≠ []) (hn : j ≤ n) : firstTo f n = firstTo f j := by
  induction n with
  | zero => have : j = 0 := by omega
            subst this; rfl
  | succ n ih =>
    by_cases e : j = n + 1
    · subst e; rfl
    · have := ih (by omega)
      rw [firstTo_keep (by rw [this]; exact h), this]
theorem firstTo_none {f : Nat → List α} : ∀ (n : Nat), (∀ i, i < n → f i = []) → firstTo f n = []
  | 0, _ => rfl
  | n + 1, h => by rw [firstTo_go (firstTo_none n fun i hi => h i (by omega))]; exact h n (by omega)
theorem firstTo_is {f : Nat → List α} {i n : Nat} (h : ∀ j, j < i → f j = []) (hi : i < n) (hne : f i ≠ []) : firstTo f n = f i := by
  have h1 := firstTo_go (firstTo_none i h)
  rw [firstTo_stays (j := i + 1) (by rw [h1]; exact hne) hi, h1]
theorem firstTo_nil {f : Nat → List α} : ∀ {n : Nat}, firstTo f n = [] → ∀ i, i < n → f i = []
  | 0, _, i, hi => by omega
  | n + 1, h, i, hi => by
    have h0 : firstTo f n = [] := by
      by_cases hc : firstTo f n = []
      · exact hc
      · rw [firstTo_keep hc] at h; exact h
    rw [firstTo_go h0] at h
    by_cases hin : i = n
    · subst hin; exact h
    · exact firstTo_nil h0 i (by omega)
theorem firstTo_some {f : Nat → List α} : ∀ {n : Nat}, firstTo f n ≠ [] → ∃ i, i < n ∧ firstTo f n = f i ∧ ∀ j, j < i → f j = []
  | 0, h => absurd rfl h
  | n + 1, h => by
    by_cases hc : firstTo f n = []
    · exact ⟨n, by omega, firstTo_go hc, fun j hj => firstTo_nil hc j hj⟩
    · obtain ⟨i, h1, h2, h3⟩ := firstTo_some hc
      exact ⟨i, by omega, by rw [firstTo_keep hc]; exact h2, h3⟩
theorem firstTo_congr {f g : Nat → List α} {n : Nat} (h : ∀ i, i < n → f i = g i) : firstTo f n = firstTo g n := by
  unfold firstTo
  congr 1
  exact List.map_congr_left fun i hi => h i (List.mem_range.1 hi)
end

abbrev Fm := List (Int × Int)
def fmAt (f : Fm) (k : Int) : Option Int := (f.find? fun p => decide (p.1 = k)).map (·.2)
theorem fmAt_append (f : Fm) (k i q : Int) : fmAt (f ++ [(k, i)]) q = (fmAt f q).or (if k = q then some i else none) := by
  unfold fmAt
  rw [List.find?_append]
  cases h : List.find? (fun p => decide (p.1 = q)) f with
  | some p => simp
  | none => by_cases e : k = q <;> simp [List.find?, e]
theorem fmAt_none {f : Fm} {k : Int} : fmAt f k = none ↔ k ∉ f.map (·.1) := by
  unfold fmAt
  rw [Option.map_eq_none_iff, List.find?_eq_none]
  simp only [decide_eq_true_eq, List.mem_map, not_exists, not_and]
theorem fmAt_mem : ∀ {f : Fm} {k i : Int}, (f.map (·.1)).Nodup → (k, i) ∈ f → fmAt f k = some i
  | [], k, i, _, h => by cases h
  | (a, b) :: f, k, i, hn, h => by
    simp only [List.map_cons, List.nodup_cons] at hn
    unfold fmAt
    rw [List.find?_cons]
    rcases List.mem_cons.1 h with h | h
    · cases h; simp
    · have hak : a ≠ k := by
        rintro rfl
        exact hn.1 (List.mem_map.2 ⟨_, h, rfl⟩)
      have := fmAt_mem hn.2 h
      unfold fmAt at this
      simp only [hak, decide_false]
      exact this

/-- edges -/
structure Gr where
  m : Nat
  F : Nat → Int
  T : Nat → Int
  ok : Nat → Bool
def lastN (p : List Nat) : Nat := p.getLast?.getD 0
theorem lastN_snoc (p : List Nat) (k : Nat) : lastN (p ++ [k]) = k := by simp [lastN]
theorem lastN_one (k : Nat) : lastN [k] = k := rfl
def onto (p : List Nat) (ks : List Nat) : List (List Nat) := ks.map fun k => p ++ [k]

section
variable (G : Gr)
def nd (p : List Nat) : Int := G.T (lastN p)
/-- the first ones, by where they end -/
def firsts : List Int → List (List Nat) → List (List Nat)
  | _, [] => []
  | S, p :: r => if nd G p ∈ S then firsts S r else p :: firsts (nd G p :: S) r
def after : List Int → List (List Nat) → List Int
  | S, [] => S
  | S, p :: r => if nd G p ∈ S then after S r else after (nd G p :: S) r
variable {G}
theorem nd_snoc (p : List Nat) (k : Nat) : nd G (p ++ [k]) = G.T k := by simp [nd, lastN_snoc]
theorem nd_one (k : Nat) : nd G [k] = G.T k := rfl
theorem firsts_cons (S : List Int) (p : List Nat) (r : List (List Nat)) : firsts G S (p :: r) = if nd G p ∈ S then firsts G S r else p :: firsts G (nd G p :: S) r := rfl
theorem after_cons (S : List Int) (p : List Nat) (r : List (List Nat)) : after G S (p :: r) = if nd G p ∈ S then after G S r else after G (nd G p :: S) r := rfl
theorem after_mem (l : List (List Nat)) : ∀ (S : List Int) (x : Int), x ∈ after G S l ↔ x ∈ S ∨ ∃ p, p ∈ l ∧ nd G p = x := by
  induction l with
  | nil => intro S x; simp [after]
  | cons p r ih =>
    intro S x
    unfold after
    by_cases h : nd G p ∈ S
    · rw [if_pos h, ih]
      constructor
      · rintro (hx | ⟨q, hq, hx⟩)
        · exact .inl hx
        · exact .inr ⟨q, List.mem_cons_of_mem _ hq, hx⟩
      · rintro (hx | ⟨q, hq, hx⟩)
        · exact .inl hx
        · rcases List.mem_cons.1 hq with rfl | hq
          · exact .inl (hx ▸ h)
          · exact .inr ⟨q, hq, hx⟩
    · rw [if_neg h, ih]
      constructor
      · rintro (hx | ⟨q, hq, hx⟩)
        · rcases List.mem_cons.1 hx with rfl | hx
          · exact .inr ⟨p, List.mem_cons_self, rfl⟩
          · exact .inl hx
        · exact .inr ⟨q, List.mem_cons_of_mem _ hq, hx⟩
      · rintro (hx | ⟨q, hq, hx⟩)
        · exact .inl (List.mem_cons_of_mem _ hx)
        · rcases List.mem_cons.1 hq with rfl | hq
          · exact .inl (hx ▸ List.mem_cons_self)
          · exact .inr ⟨q, hq, hx⟩
theorem firsts_append (a : List (List Nat)) : ∀ (S : List Int) (b : List (List Nat)), firsts G S (a ++ b) = firsts G S a ++ firsts G (after G S a) b := by
  induction a with
  | nil => intro S b; rfl
  | cons p r ih =>
    intro S b
    rw [List.cons_append, firsts_cons, firsts_cons, after_cons]
    by_cases h : nd G p ∈ S
    · rw [if_pos h, if_pos h, if_pos h]; exact ih S b
    · rw [if_neg h, if_neg h, if_neg h, ih]; rfl
theorem firsts_congr (l : List (List Nat)) : ∀ {S S' : List Int}, (∀ x, x ∈ S ↔ x ∈ S') → firsts G S l = firsts G S' l := by
  induction l with
  | nil => intro S S' _; rfl
  | cons p r ih =>
    intro S S' h
    unfold firsts
    by_cases hp : nd G p ∈ S
    · rw [if_pos hp, if_pos ((h _).1 hp)]; exact ih h
    · rw [if_neg hp, if_neg fun h' => hp ((h _).2 h')]
      rw [ih (S := nd G p :: S) (S' := nd G p :: S') fun x => by simp [h x]]
theorem firsts_skip (l : List (List Nat)) : ∀ {S : List Int}, (∀ p, p ∈ l → nd G p ∈ S) → firsts G S l = [] := by
  induction l with
  | nil => intro S _; rfl
  | cons p r ih =>
    intro S h
    unfold firsts
    rw [if_pos (h p List.mem_cons_self)]
    exact ih fun q hq => h q (List.mem_cons_of_mem _ hq)
theorem firsts_sub (l : List (List Nat)) : ∀ {S : List Int} {p : List Nat}, p ∈ firsts G S l → p ∈ l ∧ nd G p ∉ S := by
  induction l with
  | nil => intro S p h; cases h
  | cons q r ih =>
    intro S p h
    unfold firsts at h
    by_cases hq : nd G q ∈ S
    · rw [if_pos hq] at h
      obtain ⟨h1, h2⟩ := ih h
      exact ⟨List.mem_cons_of_mem _ h1, h2⟩
    · rw [if_neg hq] at h
      rcases List.mem_cons.1 h with rfl | h
      · exact ⟨List.mem_cons_self, hq⟩
      · obtain ⟨h1, h2⟩ := ih h
        exact ⟨List.mem_cons_of_mem _ h1, fun h' => h2 (List.mem_cons_of_mem _ h')⟩
theorem firsts_has (l : List (List Nat)) : ∀ {S : List Int} {p : List Nat}, p ∈ l → nd G p ∈ S ∨ ∃ q, q ∈ firsts G S l ∧ nd G q = nd G p := by
  induction l with
  | nil => intro S p h; cases h
  | cons q r ih =>
    intro S p h
    unfold firsts
    by_cases hq : nd G q ∈ S
    · rw [if_pos hq]
      rcases List.mem_cons.1 h with rfl | h
      · exact .inl hq
      · exact ih h
    · rw [if_neg hq]
      rcases List.mem_cons.1 h with rfl | h
      · exact .inr ⟨p, List.mem_cons_self, rfl⟩
      · rcases ih (S := nd G q :: S) h with h' | ⟨q', h1, h2⟩
        · rcases List.mem_cons.1 h' with h' | h'
          · exact .inr ⟨q, List.mem_cons_self, h'.symm⟩
          · exact .inl h'
        · exact .inr ⟨q', List.mem_cons_of_mem _ h1, h2⟩
theorem firsts_nodup (l : List (List Nat)) : ∀ {S : List Int}, ((firsts G S l).map (nd G)).Nodup := by
  induction l with
  | nil => intro S; simp [firsts]
  | cons q r ih =>
    intro S
    unfold firsts
    by_cases hq : nd G q ∈ S
    · rw [if_pos hq]; exact ih
    · rw [if_neg hq, List.map_cons, List.nodup_cons]
      refine ⟨fun h => ?_, ih⟩
      obtain ⟨p, hp, he⟩ := List.mem_map.1 h
      exact (firsts_sub r hp).2 (he ▸ List.mem_cons_self)
/-- the first that closes is the same where none that was passed over closes -/
theorem find_firsts (c : Int → Bool) (l : List (List Nat)) : ∀ {S : List Int}, (∀ x, x ∈ S → c x = false) → (firsts G S l).find? (fun p => c (nd G p)) = l.find? fun p => c (nd G p) := by
  induction l with
  | nil => intro S _; rfl
  | cons q r ih =>
    intro S h
    unfold firsts
    by_cases hq : nd G q ∈ S
    · rw [if_pos hq, ih h]
      simp [h _ hq]
    · rw [if_neg hq]
      cases hc : c (nd G q) with
      | true => simp [hc]
      | false =>
        simp only [List.find?_cons, hc]
        exact ih fun x hx => by
          rcases List.mem_cons.1 hx with rfl | hx
          · exact hc
          · exact h x hx

def c2 (p : List Nat) (k : Nat) : Bool := decide (G.ok k = true ∧ G.F k = nd G p)
def c1 (p : List Nat) (k : Nat) : Bool := decide (G.ok k = true ∧ G.F k = nd G p ∧ G.T k ∉ p.map G.T)
variable (G) in
def ext1 (p : List Nat) : List (List Nat) := onto p ((List.range G.m).filter (c1 (G := G) p))
variable (G) in
def ext2 (p : List Nat) : List (List Nat) := onto p ((List.range G.m).filter (c2 (G := G) p))
variable (G) in
/-- an edge that may be gone -/
def Adj (a b : Int) : Prop := ∃ k, k < G.m ∧ G.ok k = true ∧ G.F k = a ∧ G.T k = b
theorem onto_firsts (p : List Nat) (ks : List Nat) : ∀ {S : List Int}, (∀ x, x ∈ p.map G.T → x ∈ S) → firsts G S (onto p (ks.filter (c1 (G := G) p))) = firsts G S (onto p (ks.filter (c2 (G := G) p))) := by
  induction ks with
  | nil => intro S _; rfl
  | cons k r ih =>
    intro S hp
    rw [List.filter_cons, List.filter_cons]
    by_cases h2 : c2 (G := G) p k = true
    · rw [if_pos h2]
      by_cases hm : G.T k ∈ p.map G.T
      · have h1 : ¬c1 (G := G) p k = true := by simp only [c1, decide_eq_true_eq]; exact fun h => h.2.2 hm
        rw [if_neg h1]
        show _ = firsts G S ((p ++ [k]) :: onto p (r.filter (c2 (G := G) p)))
        rw [firsts_cons, nd_snoc, if_pos (hp _ hm)]
        exact ih hp
      · have h1 : c1 (G := G) p k = true := by
          simp only [c2, decide_eq_true_eq] at h2
          simp only [c1, decide_eq_true_eq]; exact ⟨h2.1, h2.2, hm⟩
        rw [if_pos h1]
        show firsts G S ((p ++ [k]) :: onto p (r.filter (c1 (G := G) p))) = firsts G S ((p ++ [k]) :: onto p (r.filter (c2 (G := G) p)))
        rw [firsts_cons, firsts_cons, ih hp, ih fun x hx => List.mem_cons_of_mem _ (hp x hx)]
    · have h1 : ¬c1 (G := G) p k = true := by
        simp only [c2, decide_eq_true_eq] at h2
        simp only [c1, decide_eq_true_eq]; exact fun h => h2 ⟨h.1, h.2.1⟩
      rw [if_neg h1, if_neg h2]
      exact ih hp
theorem ext_firsts {p : List Nat} {S : List Int} (hp : ∀ x, x ∈ p.map G.T → x ∈ S) : firsts G S (ext1 G p) = firsts G S (ext2 G p) := onto_firsts p _ hp
theorem ext1_last {p q : List Nat} (h : q ∈ ext1 G p) : ∃ k, q = p ++ [k] ∧ k < G.m ∧ G.ok k = true ∧ G.F k = nd G p ∧ G.T k ∉ p.map G.T := by
  obtain ⟨k, hk, rfl⟩ := List.mem_map.1 h
  rw [List.mem_filter, List.mem_range] at hk
  have := hk.2
  simp only [c1, decide_eq_true_eq] at this
  exact ⟨k, rfl, hk.1, this⟩
theorem ext2_last {p q : List Nat} (h : q ∈ ext2 G p) : ∃ k, q = p ++ [k] ∧ k < G.m ∧ G.ok k = true ∧ G.F k = nd G p := by
  obtain ⟨k, hk, rfl⟩ := List.mem_map.1 h
  rw [List.mem_filter, List.mem_range] at hk
  have := hk.2
  simp only [c2, decide_eq_true_eq] at this
  exact ⟨k, rfl, hk.1, this⟩
theorem ext1_of {p : List Nat} {k : Nat} (hm : k < G.m) (ho : G.ok k = true) (hF : G.F k = nd G p) (hT : G.T k ∉ p.map G.T) : p ++ [k] ∈ ext1 G p :=
  List.mem_map.2 ⟨k, List.mem_filter.2 ⟨List.mem_range.2 hm, by simp only [c1, decide_eq_true_eq]; exact ⟨ho, hF, hT⟩⟩, rfl⟩
theorem ext2_of {p : List Nat} {k : Nat} (hm : k < G.m) (ho : G.ok k = true) (hF : G.F k = nd G p) : p ++ [k] ∈ ext2 G p :=
  List.mem_map.2 ⟨k, List.mem_filter.2 ⟨List.mem_range.2 hm, by simp only [c2, decide_eq_true_eq]; exact ⟨ho, hF⟩⟩, rfl⟩
theorem after_ext {p : List Nat} {S : List Int} (hp : ∀ x, x ∈ p.map G.T → x ∈ S) (x : Int) : x ∈ after G S (ext1 G p) ↔ x ∈ S ∨ Adj G (nd G p) x := by
  rw [after_mem]
  constructor
  · rintro (h | ⟨q, hq, rfl⟩)
    · exact .inl h
    · obtain ⟨k, rfl, h1, h2, h3, _⟩ := ext1_last hq
      rw [nd_snoc]; exact .inr ⟨k, h1, h2, h3, rfl⟩
  · rintro (h | ⟨k, h1, h2, h3, rfl⟩)
    · exact .inl h
    · by_cases hx : G.T k ∈ p.map G.T
      · exact .inl (hp _ hx)
      · exact .inr ⟨p ++ [k], ext1_of h1 h2 h3 hx, nd_snoc p k⟩
theorem after_ext2 {p : List Nat} {S : List Int} (x : Int) : x ∈ after G S (ext2 G p) ↔ x ∈ S ∨ Adj G (nd G p) x := by
  rw [after_mem]
  constructor
  · rintro (h | ⟨q, hq, rfl⟩)
    · exact .inl h
    · obtain ⟨k, rfl, h1, h2, h3⟩ := ext2_last hq
      rw [nd_snoc]; exact .inr ⟨k, h1, h2, h3, rfl⟩
  · rintro (h | ⟨k, h1, h2, h3, rfl⟩)
    · exact .inl h
    · exact .inr ⟨p ++ [k], ext2_of h1 h2 h3, nd_snoc p k⟩
theorem flat_12 (L : List (List Nat)) : ∀ {S : List Int}, (∀ p, p ∈ L → ∀ x, x ∈ p.map G.T → x ∈ S) → firsts G S (L.flatMap (ext1 G)) = firsts G S (L.flatMap (ext2 G)) := by
  induction L with
  | nil => intro S _; rfl
  | cons p r ih =>
    intro S h
    have hp := h p List.mem_cons_self
    rw [List.flatMap_cons, List.flatMap_cons, firsts_append, firsts_append, ext_firsts hp]
    congr 1
    rw [ih fun q hq x hx => (after_ext hp x).2 (.inl (h q (List.mem_cons_of_mem _ hq) x hx))]
    exact firsts_congr _ fun x => (after_ext hp x).trans (after_ext2 x).symm
/-- ways that end where others ended lead to nothing new -/
theorem flat_firsts (W : List (List Nat)) : ∀ {S R : List Int}, (∀ p, p ∈ W → ∀ x, x ∈ p.map G.T → x ∈ S) → (∀ i, i ∈ R → ∀ k, Adj G i k → k ∈ S) →
    firsts G S (W.flatMap (ext1 G)) = firsts G S ((firsts G R W).flatMap (ext1 G)) := by
  induction W with
  | nil => intro S R _ _; rfl
  | cons p r ih =>
    intro S R h hT
    have hp := h p List.mem_cons_self
    rw [List.flatMap_cons, firsts_append, firsts_cons R]
    by_cases hl : nd G p ∈ R
    · rw [if_pos hl, firsts_skip (ext1 G p) fun q hq => by
        obtain ⟨k, rfl, h1, h2, h3, _⟩ := ext1_last hq
        rw [nd_snoc]; exact hT _ hl _ ⟨k, h1, h2, h3, rfl⟩]
      rw [List.nil_append, ← ih (fun q hq => h q (List.mem_cons_of_mem _ hq)) hT]
      refine firsts_congr _ fun x => (after_ext hp x).trans ⟨?_, .inl⟩
      rintro (h | h)
      · exact h
      · exact hT _ hl x h
    · rw [if_neg hl, List.flatMap_cons, firsts_append]
      congr 1
      refine ih (fun q hq x hx => (after_ext hp x).2 (.inl (h q (List.mem_cons_of_mem _ hq) x hx))) fun i hi k hk => (after_ext hp k).2 ?_
      rcases List.mem_cons.1 hi with rfl | hi
      · exact .inr hk
      · exact .inl (hT i hi k hk)
end
end Go.Rt
end

/- The search by layers along edges finds the document's first way that closes. -/
section
namespace Go.Rt

section
variable (G : Gr) (s : Nat)
def Wy : Nat → List (List Nat)
  | 0 => [[s]]
  | d + 1 => (Wy d).flatMap (ext1 G)
def LS : Nat → List Int × List (List Nat)
  | 0 => ([G.T s], [[s]])
  | d + 1 => ((LS d).1 ++ (firsts G (LS d).1 ((LS d).2.flatMap (ext2 G))).map (nd G), firsts G (LS d).1 ((LS d).2.flatMap (ext2 G)))
def Ly (d : Nat) : List (List Nat) := (LS G s d).2
def Sv (d : Nat) : List Int := (LS G s d).1
def Er : Nat → List Int
  | 0 => []
  | d + 1 => Sv G s d
variable {G s}
theorem Ly_succ (d : Nat) : Ly G s (d + 1) = firsts G (Sv G s d) ((Ly G s d).flatMap (ext2 G)) := rfl
theorem Sv_succ (d : Nat) : Sv G s (d + 1) = Sv G s d ++ (Ly G s (d + 1)).map (nd G) := rfl

structure Lay (d : Nat) : Prop where
  c1 : Ly G s d = firsts G (Er G s d) (Wy G s d)
  c2 : ∀ p, p ∈ Wy G s d → ∀ x, x ∈ p.map G.T → x ∈ Sv G s d
  c3 : ∀ i, i ∈ Er G s d → ∀ k, Adj G i k → k ∈ Sv G s d
  c4 : ∀ x, x ∈ Sv G s d ↔ x ∈ Er G s d ∨ ∃ p, p ∈ Ly G s d ∧ nd G p = x
theorem lay (G : Gr) (s : Nat) : ∀ d, Lay (G := G) (s := s) d
  | 0 => by
    refine ⟨?_, ?_, ?_, ?_⟩
    · show [[s]] = firsts G [] [[s]]
      simp [firsts]
    · intro p hp x hx
      simp only [Wy, List.mem_singleton] at hp
      subst hp; exact hx
    · intro i hi; cases hi
    · intro x
      show x ∈ [G.T s] ↔ x ∈ ([] : List Int) ∨ ∃ p, p ∈ [[s]] ∧ nd G p = x
      simp [nd_one, eq_comm]
  | d + 1 => by
    have ih := lay G s d
    have hsub : ∀ p, p ∈ Ly G s d → p ∈ Wy G s d := fun p hp => (firsts_sub _ (ih.c1 ▸ hp)).1
    have h1 : Ly G s (d + 1) = firsts G (Er G s (d + 1)) (Wy G s (d + 1)) := by
      rw [Ly_succ, ← flat_12 _ fun p hp => ih.c2 p (hsub p hp), ih.c1, ← flat_firsts _ ih.c2 ih.c3]
      rfl
    have hup : ∀ x, x ∈ Sv G s d → x ∈ Sv G s (d + 1) := fun x hx => by rw [Sv_succ]; exact List.mem_append_left _ hx
    have h2 : ∀ p, p ∈ Wy G s (d + 1) → ∀ x, x ∈ p.map G.T → x ∈ Sv G s (d + 1) := by
      intro p hp x hx
      obtain ⟨q, hq, hpq⟩ := List.mem_flatMap.1 hp
      obtain ⟨k, rfl, _, _, _, _⟩ := ext1_last hpq
      rw [List.map_append, List.mem_append] at hx
      rcases hx with hx | hx
      · exact hup x (ih.c2 q hq x hx)
      · simp only [List.map_cons, List.map_nil, List.mem_singleton] at hx
        subst hx
        rcases firsts_has (G := G) _ (S := Er G s (d + 1)) hp with h | ⟨q', g1, g2⟩
        · rw [nd_snoc] at h; exact hup _ h
        · rw [Sv_succ, h1]
          rw [nd_snoc] at g2
          exact List.mem_append_right _ (List.mem_map.2 ⟨q', g1, g2⟩)
    refine ⟨h1, h2, ?_, ?_⟩
    · intro i hi k hk
      rcases (ih.c4 i).1 hi with hi | ⟨p, hp, rfl⟩
      · exact hup _ (ih.c3 i hi k hk)
      · obtain ⟨j, j1, j2, j3, rfl⟩ := hk
        by_cases hkp : G.T j ∈ p.map G.T
        · exact hup _ (ih.c2 p (hsub p hp) _ hkp)
        · exact h2 (p ++ [j]) (List.mem_flatMap.2 ⟨p, hsub p hp, ext1_of j1 j2 j3 hkp⟩) _ (by simp)
    · intro x
      rw [Sv_succ, List.mem_append, List.mem_map]
      exact Iff.rfl

variable (G s) in
def cl (x : Int) : Bool := decide (x = G.F s)
variable (G s) in
/-- no earlier layer closes -/
def Open (d : Nat) : Prop := ∀ d', d' < d → (Ly G s d').find? (fun p => cl G s (nd G p)) = none
theorem Er_open : ∀ {d : Nat}, Open G s d → ∀ x, x ∈ Er G s d → cl G s x = false
  | 0, _, x, hx => by cases hx
  | d + 1, h, x, hx => by
    rcases ((lay G s d).c4 x).1 hx with hx | ⟨p, hp, rfl⟩
    · exact Er_open (fun d' hd => h d' (by omega)) x hx
    · have := List.find?_eq_none.1 (h d (by omega)) p hp
      simpa using this
theorem find_same {d : Nat} (h : Open G s d) : (Wy G s d).find? (fun p => cl G s (nd G p)) = (Ly G s d).find? fun p => cl G s (nd G p) := by
  rw [(lay G s d).c1, find_firsts _ _ (Er_open h)]

/- the document's ways -/
variable (G) in
def ways : Nat → List Nat → List (List Nat)
  | 0, l => [l]
  | n + 1, l => (ext1 G l).flatMap (ways n)
theorem ways_snoc : ∀ (n : Nat) (l : List Nat), (ways G n l).flatMap (ext1 G) = ways G (n + 1) l
  | 0, l => by simp [ways]
  | n + 1, l => by
    show ((ext1 G l).flatMap (ways G n)).flatMap (ext1 G) = (ext1 G l).flatMap (ways G (n + 1))
    rw [List.flatMap_assoc]
    congr 1
    funext x
    exact ways_snoc n x
theorem ways_Wy : ∀ d, ways G d [s] = Wy G s d
  | 0 => rfl
  | d + 1 => by rw [← ways_snoc, ways_Wy d]; rfl
theorem ways_ne : ∀ (n : Nat) {l p : List Nat}, l ≠ [] → p ∈ ways G n l → p ≠ []
  | 0, l, p, hl, hp => by simp only [ways, List.mem_singleton] at hp; subst hp; exact hl
  | n + 1, l, p, hl, hp => by
    obtain ⟨q, hq, hpq⟩ := List.mem_flatMap.1 hp
    obtain ⟨k, rfl, _⟩ := ext1_last hq
    exact ways_ne n (by simp) hpq
theorem headD_snoc {l : List Nat} (h : l ≠ []) (k : Nat) : (l ++ [k]).headD 0 = l.headD 0 := by
  cases l with
  | nil => exact absurd rfl h
  | cons a r => rfl
variable (G) in
/-- the first way that goes on behind some edges, so many more, and leads back -/
def wayM : Nat → List Nat → List Nat
  | 0, l => if nd G l = G.F (l.headD 0) then l else []
  | n + 1, l => firstNE ((List.range G.m).map fun k => if c1 (G := G) l k then wayM n (l ++ [k]) else [])
theorem wayM_find : ∀ (n : Nat) {l : List Nat}, l ≠ [] → wayM G n l = ((ways G n l).find? fun p => cl G (l.headD 0) (nd G p)).getD []
  | 0, l, hl => by
    simp only [wayM, ways, List.find?_cons, cl]
    generalize l.headD 0 = h0
    by_cases h : nd G l = G.F h0 <;> simp [h]
  | n + 1, l, hl => by
    simp only [wayM, ways, ext1, onto]
    generalize List.range G.m = ks
    induction ks with
    | nil => rfl
    | cons k ks ih =>
      simp only [List.map_cons, firstNE, List.filter_cons]
      by_cases hk : c1 (G := G) l k = true
      · rw [if_pos hk, if_pos hk, List.map_cons, List.flatMap_cons, List.find?_append]
        have hw := wayM_find n (l := l ++ [k]) (by simp)
        rw [headD_snoc hl] at hw
        rw [hw]
        cases hf : (ways G n (l ++ [k])).find? fun p => cl G (l.headD 0) (nd G p) with
        | none => simp only [Option.getD_none, List.isEmpty_nil, if_true, Option.none_or]; exact ih
        | some p =>
          have := ways_ne n (by simp) (List.mem_of_find?_eq_some hf)
          simp only [Option.getD_some, Option.some_or]
          rw [if_neg (by simpa using this)]
      · rw [if_neg hk, if_neg hk]
        simpa using ih
theorem way_Ly {d : Nat} (h : Open G s d) : wayM G d [s] = ((Ly G s d).find? fun p => cl G s (nd G p)).getD [] := by
  rw [wayM_find d (by simp), ways_Wy]
  show ((Wy G s d).find? fun p => cl G s (nd G p)).getD [] = _
  rw [find_same h]

/- the search -/
def ent (q : List Nat) : Int × Int := (nd G q, if q.length ≤ 1 then -1 else (lastN q : Int))
theorem ent_snoc {p : List Nat} (hp : p ≠ []) (k : Nat) : ent (G := G) (p ++ [k]) = (G.T k, (k : Int)) := by
  have := List.length_pos_iff.2 hp
  unfold ent
  rw [nd_snoc, lastN_snoc, if_neg (by simp; omega)]
variable (G) in
def stepE (n : Int) (st : Fm × List Int) (k : Nat) : Fm × List Int := if G.ok k = true ∧ G.F k = n ∧ fmAt st.1 (G.T k) = none then (st.1 ++ [(G.T k, (k : Int))], st.2 ++ [G.T k]) else st
variable (G) in
def foldE (n : Int) (ks : List Nat) (st : Fm × List Int) : Fm × List Int := ks.foldl (stepE G n) st
variable (G) in
def layS (circle : List Int) (st : Fm × List Int) : Fm × List Int := circle.foldl (fun st n => foldE G n (List.range G.m) st) st
variable (G) in
def scanE (dst n : Int) : List Nat → Fm × List Int → Bool × Fm × List Int
  | [], st => (false, st)
  | k :: r, st => if G.ok k = true ∧ G.F k = n ∧ fmAt st.1 (G.T k) = none then (if G.T k = dst then (true, stepE G n st k) else scanE dst n r (stepE G n st k)) else scanE dst n r st
variable (G) in
def layerE (dst : Int) : List Int → Fm × List Int → Bool × Fm × List Int
  | [], st => (false, st)
  | n :: r, st => if (scanE G dst n (List.range G.m) st).1 = true then scanE G dst n (List.range G.m) st else layerE dst r (foldE G n (List.range G.m) st)
variable (G) in
def bfsE (dst : Int) : Nat → List Int → Fm → Option (Bool × Fm)
  | _, [], f => some (false, f)
  | 0, _ :: _, _ => none
  | k + 1, c :: r, f => if (layerE G dst (c :: r) (f, [])).1 = true then some (true, (layerE G dst (c :: r) (f, [])).2.1) else bfsE dst k (layS G (c :: r) (f, [])).2 (layS G (c :: r) (f, [])).1
variable (G) in
def chain (f : Fm) : Nat → Int → Option (List Nat)
  | 0, at' => if (fmAt f at').getD 0 < 0 then some [] else none
  | k + 1, at' => if (fmAt f at').getD 0 < 0 then some [] else (chain f k (G.F ((fmAt f at').getD 0).toNat)).map fun l => ((fmAt f at').getD 0).toNat :: l

theorem keys_after {f : Fm} {S : List Int} (hS : ∀ x, x ∈ S ↔ x ∈ f.map (·.1)) (l : List (List Nat)) (x : Int) : x ∈ after G S l ↔ x ∈ (f ++ (firsts G S l).map (ent (G := G))).map (·.1) := by
  rw [after_mem, List.map_append, List.mem_append, hS x]
  constructor
  · rintro (h | ⟨p, hp, rfl⟩)
    · exact .inl h
    · rcases firsts_has (G := G) l (S := S) hp with h | ⟨q, h1, h2⟩
      · exact .inl ((hS _).1 h)
      · exact .inr (List.mem_map.2 ⟨ent (G := G) q, List.mem_map.2 ⟨q, h1, rfl⟩, h2⟩)
  · rintro (h | h)
    · exact .inl h
    · obtain ⟨_, h1, rfl⟩ := List.mem_map.1 h
      obtain ⟨q, hq, rfl⟩ := List.mem_map.1 h1
      exact .inr ⟨q, (firsts_sub l hq).1, rfl⟩
theorem foldE_firsts {p : List Nat} (hp : p ≠ []) : ∀ (ks : List Nat) {f : Fm} {nx S : List Int}, (∀ x, x ∈ S ↔ x ∈ f.map (·.1)) →
    foldE G (nd G p) ks (f, nx) = (f ++ (firsts G S (onto p (ks.filter (c2 (G := G) p)))).map (ent (G := G)), nx ++ (firsts G S (onto p (ks.filter (c2 (G := G) p)))).map (nd G)) := by
  intro ks
  induction ks with
  | nil => intro f nx S _; simp [foldE, onto, firsts]
  | cons k ks ih =>
    intro f nx S hS
    show foldE G (nd G p) ks (stepE G (nd G p) (f, nx) k) = _
    rw [List.filter_cons]
    by_cases hk : c2 (G := G) p k = true
    · rw [if_pos hk]
      simp only [c2, decide_eq_true_eq] at hk
      show _ = (f ++ (firsts G S ((p ++ [k]) :: onto p _)).map (ent (G := G)), nx ++ (firsts G S ((p ++ [k]) :: onto p _)).map (nd G))
      rw [firsts_cons, nd_snoc]
      unfold stepE
      by_cases hm : G.T k ∈ S
      · rw [if_pos hm, if_neg fun h => fmAt_none.1 h.2.2 ((hS _).1 hm)]
        exact ih hS
      · rw [if_neg hm, if_pos ⟨hk.1, hk.2, fmAt_none.2 fun h => hm ((hS _).2 h)⟩]
        rw [ih (S := G.T k :: S) fun x => by
          rw [List.map_append, List.mem_append, List.mem_cons, hS x]
          simp [or_comm]]
        simp [ent_snoc hp, nd_snoc]
    · rw [if_neg hk]
      simp only [c2, decide_eq_true_eq] at hk
      unfold stepE
      rw [if_neg fun h => hk ⟨h.1, h.2.1⟩]
      exact ih hS
theorem scanE_firsts {dst : Int} {p : List Nat} (hp : p ≠ []) : ∀ (ks : List Nat) {f : Fm} {nx S : List Int}, (∀ x, x ∈ S ↔ x ∈ f.map (·.1)) →
    ((∀ q, q ∈ firsts G S (onto p (ks.filter (c2 (G := G) p))) → nd G q ≠ dst) ∧ (scanE G dst (nd G p) ks (f, nx)).1 = false) ∨
    ∃ a q b nx', firsts G S (onto p (ks.filter (c2 (G := G) p))) = a ++ q :: b ∧ (∀ r, r ∈ a → nd G r ≠ dst) ∧ nd G q = dst ∧ scanE G dst (nd G p) ks (f, nx) = (true, f ++ (a ++ [q]).map (ent (G := G)), nx') := by
  intro ks
  induction ks with
  | nil => intro f nx S _; exact .inl ⟨by simp [onto, firsts], rfl⟩
  | cons k ks ih =>
    intro f nx S hS
    rw [List.filter_cons]
    simp only [scanE]
    by_cases hk : c2 (G := G) p k = true
    · rw [if_pos hk]
      simp only [c2, decide_eq_true_eq] at hk
      have hcons : onto p (k :: ks.filter (c2 (G := G) p)) = (p ++ [k]) :: onto p (ks.filter (c2 (G := G) p)) := rfl
      rw [hcons, firsts_cons, nd_snoc]
      by_cases hm : G.T k ∈ S
      · rw [if_pos hm, if_neg fun h => fmAt_none.1 h.2.2 ((hS _).1 hm)]
        exact ih hS
      · have hcnd : G.ok k = true ∧ G.F k = nd G p ∧ fmAt f (G.T k) = none := ⟨hk.1, hk.2, fmAt_none.2 fun h => hm ((hS _).2 h)⟩
        have hst : stepE G (nd G p) (f, nx) k = (f ++ [(G.T k, (k : Int))], nx ++ [G.T k]) := by unfold stepE; rw [if_pos hcnd]
        rw [if_neg hm, if_pos hcnd, hst]
        by_cases hd : G.T k = dst
        · rw [if_pos hd]
          exact .inr ⟨[], p ++ [k], _, nx ++ [G.T k], rfl, by simp, by rw [nd_snoc]; exact hd, by simp [ent_snoc hp]⟩
        · rw [if_neg hd]
          have := ih (f := f ++ [(G.T k, (k : Int))]) (nx := nx ++ [G.T k]) (S := G.T k :: S) fun x => by
            rw [List.map_append, List.mem_append, List.mem_cons, hS x]
            simp [or_comm]
          rcases this with ⟨h1, h2⟩ | ⟨a, q, b, nx', h1, h2, h3, h4⟩
          · refine .inl ⟨fun q hq => ?_, h2⟩
            rcases List.mem_cons.1 hq with rfl | hq
            · rw [nd_snoc]; exact hd
            · exact h1 q hq
          · refine .inr ⟨(p ++ [k]) :: a, q, b, nx', by rw [h1]; rfl, ?_, h3, by rw [h4]; simp [ent_snoc hp]⟩
            intro r hr
            rcases List.mem_cons.1 hr with rfl | hr
            · rw [nd_snoc]; exact hd
            · exact h2 r hr
    · rw [if_neg hk]
      simp only [c2, decide_eq_true_eq] at hk
      rw [if_neg fun h => hk ⟨h.1, h.2.1⟩]
      exact ih hS
theorem layS_firsts : ∀ (L : List (List Nat)) {f : Fm} {nx S : List Int}, (∀ p, p ∈ L → p ≠ []) → (∀ x, x ∈ S ↔ x ∈ f.map (·.1)) →
    layS G (L.map (nd G)) (f, nx) = (f ++ (firsts G S (L.flatMap (ext2 G))).map (ent (G := G)), nx ++ (firsts G S (L.flatMap (ext2 G))).map (nd G)) := by
  intro L
  induction L with
  | nil => intro f nx S _ _; simp [layS, firsts]
  | cons p L ih =>
    intro f nx S hne hS
    show layS G (L.map (nd G)) (foldE G (nd G p) (List.range G.m) (f, nx)) = _
    rw [foldE_firsts (hne p List.mem_cons_self) _ hS]
    have h2 : onto p ((List.range G.m).filter (c2 (G := G) p)) = ext2 G p := rfl
    rw [h2, ih (fun q hq => hne q (List.mem_cons_of_mem _ hq)) (keys_after hS (ext2 G p)), List.flatMap_cons, firsts_append]
    simp
theorem layerE_firsts {dst : Int} : ∀ (L : List (List Nat)) {f : Fm} {nx S : List Int}, (∀ p, p ∈ L → p ≠ []) → (∀ x, x ∈ S ↔ x ∈ f.map (·.1)) →
    ((∀ q, q ∈ firsts G S (L.flatMap (ext2 G)) → nd G q ≠ dst) ∧ (layerE G dst (L.map (nd G)) (f, nx)).1 = false) ∨
    ∃ a q b nx', firsts G S (L.flatMap (ext2 G)) = a ++ q :: b ∧ (∀ r, r ∈ a → nd G r ≠ dst) ∧ nd G q = dst ∧ layerE G dst (L.map (nd G)) (f, nx) = (true, f ++ (a ++ [q]).map (ent (G := G)), nx') := by
  intro L
  induction L with
  | nil => intro f nx S _ _; exact .inl ⟨by simp [firsts], rfl⟩
  | cons p L ih =>
    intro f nx S hne hS
    have hpne := hne p List.mem_cons_self
    rw [List.flatMap_cons, firsts_append]
    simp only [List.map_cons, layerE]
    have hsc := scanE_firsts (G := G) (dst := dst) hpne (List.range G.m) (nx := nx) hS
    have h2 : onto p ((List.range G.m).filter (c2 (G := G) p)) = ext2 G p := rfl
    rw [h2] at hsc
    rcases hsc with ⟨g1, g2⟩ | ⟨a, q, b, nx', g1, g2, g3, g4⟩
    · rw [if_neg (by rw [g2]; simp), foldE_firsts hpne _ hS, h2]
      rcases ih (f := f ++ (firsts G S (ext2 G p)).map (ent (G := G))) (nx := nx ++ (firsts G S (ext2 G p)).map (nd G)) (fun q hq => hne q (List.mem_cons_of_mem _ hq)) (keys_after hS (ext2 G p)) with ⟨h3, h4⟩ | ⟨a, q, b, nx', h3, h4, h5, h6⟩
      · refine .inl ⟨fun q hq => ?_, h4⟩
        rcases List.mem_append.1 hq with hq | hq
        · exact g1 q hq
        · exact h3 q hq
      · refine .inr ⟨firsts G S (ext2 G p) ++ a, q, b, nx', by rw [h3, List.append_assoc], fun r hr => ?_, h5, by rw [h6]; simp⟩
        rcases List.mem_append.1 hr with hr | hr
        · exact g1 r hr
        · exact h4 r hr
    · rw [if_pos (by rw [g4]), g4]
      exact .inr ⟨a, q, b ++ firsts G (after G S (ext2 G p)) (L.flatMap (ext2 G)), nx', by rw [g1]; simp, g2, g3, rfl⟩

variable (G s) in
def PS : Nat → List (List Nat)
  | 0 => Ly G s 0
  | d + 1 => PS d ++ Ly G s (d + 1)
variable (G s) in
def Fd (d : Nat) : Fm := (PS G s d).map (ent (G := G))
theorem Fd_keys : ∀ d, (Fd G s d).map (·.1) = Sv G s d
  | 0 => rfl
  | d + 1 => by
    have := Fd_keys d
    unfold Fd at this ⊢
    rw [PS, List.map_append, List.map_append, this, Sv_succ, List.map_map]
    rfl
theorem PS_mem : ∀ {d : Nat} {p : List Nat}, p ∈ PS G s d ↔ ∃ d', d' ≤ d ∧ p ∈ Ly G s d'
  | 0, p => ⟨fun h => ⟨0, Nat.le_refl _, h⟩, fun ⟨d', h1, h2⟩ => by
    cases Nat.le_zero.1 h1
    exact h2⟩
  | d + 1, p => by
    rw [PS, List.mem_append, PS_mem]
    constructor
    · rintro (⟨d', h1, h2⟩ | h)
      · exact ⟨d', by omega, h2⟩
      · exact ⟨d + 1, Nat.le_refl _, h⟩
    · rintro ⟨d', h1, h2⟩
      by_cases hd : d' = d + 1
      · subst hd; exact .inr h2
      · exact .inl ⟨d', by omega, h2⟩
theorem Sv_nodup : ∀ d, (Sv G s d).Nodup
  | 0 => by show [G.T s].Nodup; simp
  | d + 1 => by
    rw [Sv_succ, List.nodup_append]
    refine ⟨Sv_nodup d, ?_, fun a ha b hb hab => ?_⟩
    · rw [Ly_succ]; exact firsts_nodup _
    · subst hab
      obtain ⟨p, hp, rfl⟩ := List.mem_map.1 hb
      rw [Ly_succ] at hp
      exact (firsts_sub _ hp).2 ha
/-- what is so of every way -/
structure Way (G : Gr) (s d : Nat) (p : List Nat) : Prop where
  len : p.length = d + 1
  inn : ∀ k, k ∈ p → k < G.m
  nodup : (p.map G.T).Nodup
  head : p.head? = some s
  ok : ∀ k, k ∈ p.tail → G.ok k = true
  step : ∀ (i a b : Nat), p[i]? = some a → p[i + 1]? = some b → G.F b = G.T a
theorem way_of (hs : s < G.m) : ∀ {d : Nat} {p : List Nat}, p ∈ Wy G s d → Way G s d p
  | 0, p, hp => by
    simp only [Wy, List.mem_singleton] at hp
    subst hp
    refine ⟨rfl, fun x hx => ?_, by simp, rfl, fun k hk => (by cases hk), fun i a b _ hb => (by simp at hb)⟩
    simp only [List.mem_singleton] at hx; subst hx; exact hs
  | d + 1, p, hp => by
    obtain ⟨q, hq, hpq⟩ := List.mem_flatMap.1 hp
    obtain ⟨k, rfl, h1, h2, h3, h4⟩ := ext1_last hpq
    have ih := way_of hs hq
    refine ⟨by simp [ih.len], fun x hx => ?_, ?_, ?_, ?_, ?_⟩
    · rcases List.mem_append.1 hx with hx | hx
      · exact ih.inn x hx
      · simp only [List.mem_singleton] at hx; subst hx; exact h1
    · rw [List.map_append, List.nodup_append]
      refine ⟨ih.nodup, by simp, fun a ha b hb => ?_⟩
      simp only [List.map_cons, List.map_nil, List.mem_singleton] at hb
      subst hb
      rintro rfl
      exact h4 ha
    · have := ih.head
      cases q with
      | nil => cases this
      | cons a r => exact this
    · intro x hx
      have h0 := ih.ok
      cases q with
      | nil => have := ih.len; simp at this
      | cons a r =>
        have hx' : x ∈ r ++ [k] := hx
        rcases List.mem_append.1 hx' with hx' | hx'
        · exact h0 x hx'
        · simp only [List.mem_singleton] at hx'; subst hx'; exact h2
    · intro i a b ha hb
      have hl := (List.getElem?_eq_some_iff.1 hb).1
      simp only [List.length_append, List.length_singleton] at hl
      rw [List.getElem?_append_left (by omega)] at ha
      by_cases hi : i + 1 < q.length
      · rw [List.getElem?_append_left hi] at hb
        exact ih.step i a b ha hb
      · have he : i + 1 = q.length := by omega
        rw [he] at hb
        simp at hb
        subst hb
        have : lastN q = a := by
          unfold lastN
          rw [List.getLast?_eq_getElem?, show q.length - 1 = i by omega, ha]; rfl
        rw [h3]; unfold nd; rw [this]
theorem way_Ly' (hs : s < G.m) {d : Nat} {p : List Nat} (hp : p ∈ Ly G s d) : Way G s d p := by
  rw [(lay G s d).c1] at hp
  exact way_of hs (firsts_sub _ hp).1
theorem nodup_le {α : Type} [DecidableEq α] : ∀ {l r : List α}, l.Nodup → (∀ x, x ∈ l → x ∈ r) → l.length ≤ r.length
  | [], r, _, _ => Nat.zero_le _
  | a :: l, r, hn, h => by
    obtain ⟨h1, h2⟩ := List.nodup_cons.1 hn
    have ha := h a List.mem_cons_self
    have := nodup_le (l := l) (r := r.erase a) h2 fun x hx => by
      have hne : x ≠ a := fun e => h1 (e ▸ hx)
      exact (List.mem_erase_of_ne hne).2 (h x (List.mem_cons_of_mem _ hx))
    rw [List.length_erase_of_mem ha] at this
    have := List.length_pos_iff.2 (List.ne_nil_of_mem ha)
    simp only [List.length_cons]; omega
theorem Way.ne {d : Nat} {p : List Nat} (h : Way G s d p) : p ≠ [] := fun he => by have := h.len; rw [he] at this; cases this
theorem Way.lt {d : Nat} {p : List Nat} (h : Way G s d p) : d < G.m := by
  have h1 := nodup_le (r := (List.range G.m).map G.T) h.nodup fun x hx => by
    obtain ⟨k, hk, rfl⟩ := List.mem_map.1 hx
    exact List.mem_map.2 ⟨k, List.mem_range.2 (h.inn k hk), rfl⟩
  have := h.len
  simp at h1; omega
theorem nd_mem {p : List Nat} (h : p ≠ []) : nd G p ∈ p.map G.T := by
  unfold nd lastN
  cases hl : p.getLast? with
  | none => exact absurd (List.getLast?_eq_none_iff.1 hl) h
  | some a => exact List.mem_map.2 ⟨a, List.mem_of_getLast? hl, rfl⟩
theorem Sv_sub (hs : s < G.m) : ∀ d x, x ∈ Sv G s d → x ∈ (List.range G.m).map G.T
  | 0, x, hx => by
    have : x ∈ [G.T s] := hx
    simp only [List.mem_singleton] at this; subst this
    exact List.mem_map.2 ⟨s, List.mem_range.2 hs, rfl⟩
  | d + 1, x, hx => by
    rw [Sv_succ] at hx
    rcases List.mem_append.1 hx with hx | hx
    · exact Sv_sub hs d x hx
    · obtain ⟨p, hp, rfl⟩ := List.mem_map.1 hx
      have hw := way_Ly' hs hp
      obtain ⟨k, hk, he⟩ := List.mem_map.1 (nd_mem (G := G) hw.ne)
      exact List.mem_map.2 ⟨k, List.mem_range.2 (hw.inn k hk), he⟩
theorem Sv_len (hs : s < G.m) (d : Nat) : (Sv G s d).length ≤ G.m := by
  have := nodup_le (Sv_nodup (G := G) (s := s) d) (Sv_sub hs d)
  simpa using this
theorem chain_way (hs : s < G.m) {g : Fm} (hg : (g.map (·.1)).Nodup) {d : Nat} (hsub : ∀ p, p ∈ PS G s d → ent (G := G) p ∈ g) : ∀ {d' : Nat} {p : List Nat}, d' ≤ d → p ∈ Ly G s d' → chain G g d' (nd G p) = some p.tail.reverse
  | 0, p, hd, hp => by
    have hf := fmAt_mem hg (hsub p (PS_mem.2 ⟨0, hd, hp⟩))
    have hp' : p ∈ [[s]] := hp
    simp only [List.mem_singleton] at hp'
    subst hp'
    have hf' : fmAt g (nd G [s]) = some (-1) := hf
    simp [chain, hf']
  | d' + 1, p, hd, hp => by
    have hf := fmAt_mem hg (hsub p (PS_mem.2 ⟨d' + 1, hd, hp⟩))
    rw [Ly_succ] at hp
    obtain ⟨q, hq, hpq⟩ := List.mem_flatMap.1 (firsts_sub _ hp).1
    obtain ⟨k, rfl, h1, h2, h3⟩ := ext2_last hpq
    have hqn := (way_Ly' hs hq).ne
    have ih := chain_way hs hg hsub (by omega) hq
    have he := ent_snoc (G := G) hqn k
    have hk : (ent (G := G) (q ++ [k])).2 = (k : Int) := by rw [he]
    have hf' : fmAt g (nd G (q ++ [k])) = some (k : Int) := by rw [← hk]; exact hf
    unfold chain
    rw [hf']
    simp only [Option.getD_some, Int.toNat_natCast]
    rw [if_neg (by omega), h3, ih]
    cases q with
    | nil => exact absurd rfl hqn
    | cons a r => simp

variable (G s) in
/-- the document's cycle that begins with an edge -/
def cyc : List Nat := firstTo (fun n => wayM G n [s]) (G.m + 1)
variable (G s) in
/-- what is found behind the first layer -/
def Found (b : Bool) (g : Fm) : Prop :=
  (b = true ∧ ∃ D p, Open G s D ∧ (Ly G s D).find? (fun p => cl G s (nd G p)) = some p ∧ chain G g D (G.F s) = some p.tail.reverse) ∨ (b = false ∧ ∀ D, Open G s D)
theorem empty_stays {d : Nat} (h : Ly G s d = []) : ∀ j, Ly G s (d + j) = []
  | 0 => h
  | j + 1 => by rw [← Nat.add_assoc, Ly_succ, empty_stays h j]; rfl
theorem open_all {d : Nat} (ho : Open G s d) (h : Ly G s d = []) : ∀ D, Open G s D := by
  intro D d' hd'
  by_cases hd : d' < d
  · exact ho d' hd
  · have := empty_stays h (d' - d)
    rw [show d + (d' - d) = d' by omega] at this
    rw [this]; rfl
theorem find_none {d : Nat} : (∀ q, q ∈ Ly G s d → nd G q ≠ G.F s) ↔ (Ly G s d).find? (fun p => cl G s (nd G p)) = none := by
  rw [List.find?_eq_none]
  constructor
  · intro h q hq; simpa [cl] using h q hq
  · intro h q hq; simpa [cl] using h q hq
theorem run (hs : s < G.m) : ∀ (k d : Nat), Open G s (d + 1) → (Ly G s d = [] ∨ G.m + 1 ≤ (Sv G s d).length + k) →
    ∃ b g, bfsE G (G.F s) k ((Ly G s d).map (nd G)) (Fd G s d) = some (b, g) ∧ Found G s b g := by
  intro k
  induction k with
  | zero =>
    intro d ho hk
    rcases hk with hk | hk
    · exact ⟨false, Fd G s d, by rw [hk]; rfl, .inr ⟨rfl, open_all (fun d' h => ho d' (by omega)) hk⟩⟩
    · have := Sv_len hs d
      omega
  | succ k ih =>
    intro d ho hk
    by_cases hL : Ly G s d = []
    · exact ⟨false, Fd G s d, by rw [hL]; rfl, .inr ⟨rfl, open_all (fun d' h => ho d' (by omega)) hL⟩⟩
    · have hk := hk.resolve_left hL
      have hlf := layerE_firsts (G := G) (dst := G.F s) (Ly G s d) (f := Fd G s d) (nx := []) (S := Sv G s d) (fun p hp => (way_Ly' hs hp).ne) (fun x => by rw [Fd_keys])
      have hls := layS_firsts (G := G) (Ly G s d) (f := Fd G s d) (nx := []) (S := Sv G s d) (fun p hp => (way_Ly' hs hp).ne) (fun x => by rw [Fd_keys])
      have hb : bfsE G (G.F s) (k + 1) ((Ly G s d).map (nd G)) (Fd G s d) = if (layerE G (G.F s) ((Ly G s d).map (nd G)) (Fd G s d, [])).1 = true then some (true, (layerE G (G.F s) ((Ly G s d).map (nd G)) (Fd G s d, [])).2.1)
          else bfsE G (G.F s) k (layS G ((Ly G s d).map (nd G)) (Fd G s d, [])).2 (layS G ((Ly G s d).map (nd G)) (Fd G s d, [])).1 := by
        cases hc : (Ly G s d).map (nd G) with
        | nil => exact absurd (List.map_eq_nil_iff.1 hc) hL
        | cons a b => rfl
      rw [hb]
      rcases hlf with ⟨h1, h2⟩ | ⟨a, q, b, nx', h1, h2, h3, h4⟩
      · rw [if_neg (by rw [h2]; simp), hls]
        simp only [List.nil_append]
        have ho2 : Open G s (d + 1 + 1) := fun d' hd' => by
          by_cases h : d' < d + 1
          · exact ho d' h
          · have : d' = d + 1 := by omega
            subst this
            rw [Ly_succ] at *
            exact find_none.1 (by rw [Ly_succ]; exact h1)
        have hF : Fd G s d ++ (firsts G (Sv G s d) ((Ly G s d).flatMap (ext2 G))).map (ent (G := G)) = Fd G s (d + 1) := by
          unfold Fd
          rw [PS, List.map_append]; rfl
        rw [hF]
        refine ih (d + 1) ho2 ?_
        by_cases hL2 : Ly G s (d + 1) = []
        · exact .inl hL2
        · right
          have := List.length_pos_iff.2 hL2
          rw [Sv_succ, List.length_append, List.length_map]
          omega
      · rw [if_pos (by rw [h4]), h4]
        refine ⟨true, _, rfl, .inl ⟨rfl, d + 1, q, ho, ?_, ?_⟩⟩
        · rw [Ly_succ, h1, List.find?_append, List.find?_eq_none.2, Option.none_or]
          · rw [List.find?_cons]
            have : cl G s (nd G q) = true := by simp [cl, h3]
            rw [this]
          · intro x hx; have := h2 x hx; simpa [cl] using this
        · have hq : q ∈ Ly G s (d + 1) := by rw [Ly_succ, h1]; simp
          -- its entries
          have hks : ((Fd G s d ++ (a ++ [q]).map (ent (G := G))).map (·.1)).Nodup := by
            have hn := Sv_nodup (G := G) (s := s) (d + 1)
            rw [Sv_succ, Ly_succ, h1] at hn
            rw [List.map_append, Fd_keys]
            have he : Sv G s d ++ (a ++ q :: b).map (nd G) = (Sv G s d ++ ((a ++ [q]).map (ent (G := G))).map (·.1)) ++ b.map (nd G) := by
              simp [ent, Function.comp_def]
            rw [he] at hn
            exact (List.nodup_append.1 hn).1
          rw [← h3]
          obtain ⟨p, hp, hpq⟩ := List.mem_flatMap.1 (firsts_sub _ (by rw [Ly_succ] at hq; exact hq)).1
          obtain ⟨j, rfl, j1, j2, j3⟩ := ext2_last hpq
          have hpn := (way_Ly' hs hp).ne
          have he := ent_snoc (G := G) hpn j
          have hf : fmAt (Fd G s d ++ (a ++ [p ++ [j]]).map (ent (G := G))) (nd G (p ++ [j])) = some (j : Int) := by
            refine fmAt_mem hks ?_
            rw [nd_snoc, ← he]; simp
          have ih2 := chain_way hs (g := Fd G s d ++ (a ++ [p ++ [j]]).map (ent (G := G))) hks (d := d) (fun r hr => List.mem_append_left _ (List.mem_map.2 ⟨r, hr, rfl⟩)) (Nat.le_refl d) hp
          unfold chain
          rw [hf]
          simp only [Option.getD_some, Int.toNat_natCast]
          rw [if_neg (by omega), j3, ih2]
          cases p with
          | nil => exact absurd rfl hpn
          | cons x r => simp
end
end Go.Rt
end

/- What a cycle that is found is like; where there is none. No program in sight. -/
section
namespace Go.Rt

section
variable {G : Gr} {s : Nat}
theorem wayM_some {n : Nat} (h : wayM G n [s] ≠ []) : wayM G n [s] ∈ Wy G s n ∧ nd G (wayM G n [s]) = G.F s := by
  have hw := wayM_find (G := G) n (l := [s]) (by simp)
  rw [ways_Wy] at hw
  cases hf : (Wy G s n).find? fun p => cl G ([s].headD 0) (nd G p) with
  | none => rw [hf] at hw; exact absurd hw h
  | some p =>
    rw [hf] at hw
    rw [hw]
    refine ⟨List.mem_of_find?_eq_some hf, ?_⟩
    have := List.find?_some hf
    simpa [cl] using this
theorem cyc_is (hs : s < G.m) (h : cyc G s ≠ []) : ∃ D, Way G s D (cyc G s) ∧ nd G (cyc G s) = G.F s := by
  obtain ⟨n, h1, h2, h3⟩ := firstTo_some h
  have h2' : cyc G s = wayM G n [s] := h2
  rw [h2'] at h ⊢
  obtain ⟨g1, g2⟩ := wayM_some h
  exact ⟨n, way_of hs g1, g2⟩
theorem cyc_here (h : G.T s = G.F s) : cyc G s = [s] := by
  have h0 : wayM G 0 [s] = [s] := by
    show (if G.T s = G.F s then [s] else []) = [s]
    rw [if_pos h]
  have := firstTo_is (f := fun n => wayM G n [s]) (i := 0) (n := G.m + 1) (fun j hj => by omega) (by omega) (by rw [h0]; simp)
  rw [h0] at this
  exact this
theorem cyc_open (h : ∀ D, Open G s D) : cyc G s = [] := firstTo_none _ fun i _ => by
  rw [way_Ly (h i), h (i + 1) i (by omega)]; rfl
theorem cyc_found (hs : s < G.m) {D : Nat} {p : List Nat} (ho : Open G s D) (hf : (Ly G s D).find? (fun p => cl G s (nd G p)) = some p) : cyc G s = p := by
  have hw := way_Ly' hs (List.mem_of_find?_eq_some hf)
  have h3 : wayM G D [s] = p := by rw [way_Ly ho, hf]; rfl
  have := firstTo_is (f := fun n => wayM G n [s]) (i := D) (n := G.m + 1) (fun j hj => by
    rw [way_Ly fun d' hd' => ho d' (by omega), ho j hj]; rfl) (by have := hw.lt; omega) (by rw [h3]; exact hw.ne)
  rw [h3] at this
  exact this
/-- the search by layers -/
theorem cycle_same (hs : s < G.m) (hne : G.T s ≠ G.F s) : ∃ K b g, bfsE G (G.F s) K [G.T s] [(G.T s, -1)] = some (b, g) ∧
    ((b = false ∧ cyc G s = []) ∨ (b = true ∧ ∃ K2, chain G g K2 (G.F s) = some (cyc G s).tail.reverse ∧ ∃ D, Way G s D (cyc G s))) := by
  have ho : Open G s (0 + 1) := by
    intro d' hd'
    have : d' = 0 := by omega
    subst this
    refine find_none.1 fun q hq => ?_
    have hq' : q ∈ [[s]] := hq
    simp only [List.mem_singleton] at hq'
    subst hq'; exact hne
  obtain ⟨b, g, h1, h2⟩ := run hs (G.m + 1) 0 ho (.inr (by omega))
  refine ⟨_, b, g, h1, ?_⟩
  rcases h2 with ⟨rfl, D, p, h3, h4, h5⟩ | ⟨rfl, h3⟩
  · have := cyc_found hs h3 h4
    rw [this]
    exact .inr ⟨rfl, D, h5, D, way_Ly' hs (List.mem_of_find?_eq_some h4)⟩
  · exact .inl ⟨rfl, cyc_open h3⟩
/-- where there is none, some numbers hold the edge's end, not its begin, and no edge leads out of them -/
theorem Ly_empties (hs : s < G.m) : ∃ d, Ly G s d = [] := Classical.byContradiction fun hn => by
  have h : ∀ d, d + 1 ≤ (Sv G s d).length := by
    intro d
    induction d with
    | zero => show 1 ≤ [G.T s].length; simp
    | succ d ih =>
      rw [Sv_succ, List.length_append, List.length_map]
      have : Ly G s (d + 1) ≠ [] := fun h => hn ⟨_, h⟩
      have := List.length_pos_iff.2 this
      omega
  have := h G.m
  have := Sv_len hs G.m
  omega
theorem Sv_start : ∀ d, G.T s ∈ Sv G s d
  | 0 => by show G.T s ∈ [G.T s]; simp
  | d + 1 => by rw [Sv_succ]; exact List.mem_append_left _ (Sv_start d)
theorem cyc_none (hs : s < G.m) (h : cyc G s = []) : ∃ C : List Int, G.T s ∈ C ∧ G.F s ∉ C ∧ ∀ a b, a ∈ C → Adj G a b → b ∈ C := by
  have ho : ∀ D, Open G s D := by
    intro D
    induction D with
    | zero => intro d' h; omega
    | succ D ih =>
      intro d' hd'
      by_cases hd : d' < D
      · exact ih d' hd
      · have : d' = D := by omega
        subst this
        cases hf : (Ly G s d').find? (fun p => cl G s (nd G p)) with
        | none => rfl
        | some p =>
          have := cyc_found hs ih hf
          rw [h] at this
          have hw := way_Ly' hs (List.mem_of_find?_eq_some hf)
          exact absurd this.symm hw.ne
  obtain ⟨d, hd⟩ := Ly_empties hs
  have hl := lay G s d
  have he : ∀ x, x ∈ Sv G s d → x ∈ Er G s d := fun x hx => by
    rcases (hl.c4 x).1 hx with h | ⟨p, hp, _⟩
    · exact h
    · rw [hd] at hp; cases hp
  refine ⟨Sv G s d, Sv_start d, fun hF => ?_, fun a b ha hab => hl.c3 a (he a ha) b hab⟩
  have := Er_open (ho d) _ (he _ hF)
  simp [cl] at this

/- the walk's steps -/
theorem take_next {α : Type} {l : List α} {j : Nat} {x : α} (h : l[j]? = some x) : l.take (j + 1) = l.take j ++ [x] := by
  rw [List.take_add_one, h]; rfl
theorem drop_at {α : Type} {l : List α} {j : Nat} {x : α} (h : l[j]? = some x) : l.drop j = x :: l.drop (j + 1) := by
  have hl := (List.getElem?_eq_some_iff.1 h).1
  rw [List.drop_eq_getElem_cons hl, (List.getElem?_eq_some_iff.1 h).2]
theorem range_at {n j : Nat} (h : j < n) : (List.range n)[j]? = some j := by simp [h]
theorem foldE_next {j : Nat} (h : j < G.m) (n : Int) (st : Fm × List Int) : foldE G n ((List.range G.m).take (j + 1)) st = stepE G n (foldE G n ((List.range G.m).take j) st) j := by
  unfold foldE; rw [take_next (range_at h), List.foldl_append]; rfl
theorem layS_next {c : List Int} {j : Nat} {n : Int} (h : c[j]? = some n) (st : Fm × List Int) : layS G (c.take (j + 1)) st = foldE G n (List.range G.m) (layS G (c.take j) st) := by
  unfold layS; rw [take_next h, List.foldl_append]; rfl
theorem scanE_at {j : Nat} (h : j < G.m) (dst n : Int) (st : Fm × List Int) : scanE G dst n ((List.range G.m).drop j) st =
    if G.ok j = true ∧ G.F j = n ∧ fmAt st.1 (G.T j) = none then (if G.T j = dst then (true, stepE G n st j) else scanE G dst n ((List.range G.m).drop (j + 1)) (stepE G n st j)) else scanE G dst n ((List.range G.m).drop (j + 1)) st := by
  rw [drop_at (range_at h)]; rfl
theorem layerE_at {c : List Int} {j : Nat} {n : Int} (h : c[j]? = some n) (dst : Int) (st : Fm × List Int) : layerE G dst (c.drop j) st =
    if (scanE G dst n (List.range G.m) st).1 = true then scanE G dst n (List.range G.m) st else layerE G dst (c.drop (j + 1)) (foldE G n (List.range G.m) st) := by
  rw [drop_at h]; rfl
/-- what is so of the map: each number once, over an edge that leads there -/
structure GoodM (G : Gr) (s : Nat) (f : Fm) : Prop where
  nodup : (f.map (·.1)).Nodup
  sub : ∀ x, x ∈ f.map (·.1) → x ∈ (List.range G.m).map G.T
  val : ∀ k i, (k, i) ∈ f → i < G.m
theorem GoodM.len {f : Fm} (h : GoodM G s f) : f.length ≤ G.m := by
  have := nodup_le h.nodup h.sub
  simpa using this
def Cnt (G : Gr) (s n : Nat) (st : Fm × List Int) : Prop := GoodM G s st.1 ∧ st.1.length = n + st.2.length
theorem stepE_cnt {c : Nat} {n : Int} {k : Nat} (hk : k < G.m) {st : Fm × List Int} (h : Cnt G s c st) : Cnt G s c (stepE G n st k) := by
  unfold stepE
  split
  · rename_i g
    refine ⟨⟨?_, ?_, ?_⟩, ?_⟩
    · rw [List.map_append, List.nodup_append]
      refine ⟨h.1.nodup, by simp, fun a ha b hb => ?_⟩
      simp only [List.map_cons, List.map_nil, List.mem_singleton] at hb
      subst hb
      rintro rfl
      exact fmAt_none.1 g.2.2 ha
    · intro x hx
      rw [List.map_append] at hx
      rcases List.mem_append.1 hx with hx | hx
      · exact h.1.sub x hx
      · simp only [List.map_cons, List.map_nil, List.mem_singleton] at hx; subst hx
        exact List.mem_map.2 ⟨k, List.mem_range.2 hk, rfl⟩
    · intro a i hi
      rcases List.mem_append.1 hi with hi | hi
      · exact h.1.val a i hi
      · simp only [List.mem_singleton, Prod.mk.injEq] at hi
        rw [hi.2]; omega
    · simp only [List.length_append, List.length_singleton]; have := h.2; omega
  · exact h
theorem foldE_cnt {c : Nat} {n : Int} (ks : List Nat) : ∀ {st : Fm × List Int}, (∀ k, k ∈ ks → k < G.m) → Cnt G s c st → Cnt G s c (foldE G n ks st) := by
  induction ks with
  | nil => intro st _ h; exact h
  | cons k l ih => intro st hk h; exact ih (fun x hx => hk x (List.mem_cons_of_mem _ hx)) (stepE_cnt (hk k List.mem_cons_self) h)
theorem layS_cnt {m : Nat} (c : List Int) : ∀ {st : Fm × List Int}, Cnt G s m st → Cnt G s m (layS G c st) := by
  induction c with
  | nil => intro st h; exact h
  | cons k l ih => intro st h; exact ih (foldE_cnt _ (fun x hx => List.mem_range.1 hx) h)
theorem Cnt.len {n : Nat} {st : Fm × List Int} (h : Cnt G s n st) : st.2.length ≤ G.m := by have := h.1.len; have := h.2; omega
theorem chain_len {f : Fm} : ∀ {K : Nat} {x : Int} {l : List Nat}, chain G f K x = some l → l.length ≤ K
  | 0, x, l, h => by
    unfold chain at h
    split at h
    · cases h; simp
    · cases h
  | K + 1, x, l, h => by
    unfold chain at h
    split at h
    · cases h; simp
    · obtain ⟨l', h1, rfl⟩ := Option.map_eq_some_iff.1 h
      have := chain_len h1
      simp only [List.length_cons]; omega
end

/-- the first cycle that begins with an edge of some kind -/
def fnd (G : Gr) (first : Nat → Bool) : List Nat := firstTo (fun i => if first i then cyc G i else []) G.m
theorem fnd_some {G : Gr} {first : Nat → Bool} (h : fnd G first ≠ []) : ∃ i, i < G.m ∧ first i = true ∧ fnd G first = cyc G i ∧ cyc G i ≠ [] ∧ ∀ j, j < i → first j = true → cyc G j = [] := by
  obtain ⟨i, h1, h2, h3⟩ := firstTo_some h
  have h2' : fnd G first = if first i then cyc G i else [] := h2
  cases hi : first i with
  | false => rw [hi] at h2'; exact absurd h2' h
  | true =>
    rw [hi, if_pos rfl] at h2'
    refine ⟨i, h1, hi, h2', h2' ▸ h, fun j hj hf => ?_⟩
    have := h3 j hj
    simpa [hf] using this
theorem fnd_none {G : Gr} {first : Nat → Bool} (h : fnd G first = []) {i : Nat} (hi : i < G.m) (hf : first i = true) : cyc G i = [] := by
  have := firstTo_nil h i hi
  simpa [hf] using this
end Go.Rt
end

/- Rows in which each edge leads forward: again and again the least that is free. No program in sight. -/
section
namespace Go.Rt

def leastI : List Int → Option Int
  | [] => none
  | x :: r => match leastI r with
    | none => some x
    | some y => some (if x ≤ y then x else y)
theorem leastI_none {l : List Int} : leastI l = none ↔ l = [] := by
  cases l with
  | nil => simp [leastI]
  | cons x r => simp only [leastI]; cases leastI r <;> simp
theorem leastI_is : ∀ {l : List Int} {n : Int}, leastI l = some n → n ∈ l ∧ ∀ m, m ∈ l → n ≤ m
  | [], n, h => by cases h
  | x :: r, n, h => by
    simp only [leastI] at h
    cases hr : leastI r with
    | none =>
      rw [hr] at h
      have := leastI_none.1 hr
      subst this
      cases h
      simp
    | some y =>
      rw [hr] at h
      obtain ⟨h1, h2⟩ := leastI_is hr
      simp only [Option.some.injEq] at h
      subst h
      split
      · rename_i g
        refine ⟨List.mem_cons_self, fun m hm => ?_⟩
        rcases List.mem_cons.1 hm with rfl | hm
        · omega
        · have := h2 m hm; omega
      · rename_i g
        refine ⟨List.mem_cons_of_mem _ h1, fun m hm => ?_⟩
        rcases List.mem_cons.1 hm with rfl | hm
        · omega
        · exact h2 m hm
theorem leastI_of {l : List Int} {n : Int} (h1 : n ∈ l) (h2 : ∀ m, m ∈ l → n ≤ m) : leastI l = some n := by
  cases h : leastI l with
  | none => rw [leastI_none.1 h] at h1; cases h1
  | some y =>
    obtain ⟨g1, g2⟩ := leastI_is h
    have := h2 y g1
    have := g2 n h1
    congr 1; omega
theorem leastI_congr {l l' : List Int} (h : ∀ x, x ∈ l ↔ x ∈ l') : leastI l = leastI l' := by
  cases h' : leastI l' with
  | none =>
    have := leastI_none.1 h'
    subst this
    rw [leastI_none]
    cases l with
    | nil => rfl
    | cons a r => exact absurd ((h a).1 List.mem_cons_self) (by simp)
  | some n =>
    obtain ⟨g1, g2⟩ := leastI_is h'
    exact leastI_of ((h n).2 g1) fun m hm => g2 m ((h m).1 hm)

/-- no edge leads to it from what is left -/
def freeE (E : List (Int × Int)) (L : List Int) (n : Int) : Bool := !(E.any fun e => decide (e.2 = n ∧ e.1 ∈ L))
theorem freeE_iff {E : List (Int × Int)} {L : List Int} {n : Int} : freeE E L n = true ↔ ∀ e, e ∈ E → e.2 = n → e.1 ∉ L := by
  unfold freeE
  rw [Bool.not_eq_true', List.any_eq_false]
  simp only [decide_eq_true_eq, not_and]
theorem freeE_no {E : List (Int × Int)} {L : List Int} {n : Int} : freeE E L n = false ↔ ∃ e, e ∈ E ∧ e.2 = n ∧ e.1 ∈ L := by
  unfold freeE
  rw [Bool.not_eq_false', List.any_eq_true]
  simp only [decide_eq_true_eq]
theorem freeE_congr {E : List (Int × Int)} {L L' : List Int} (h : ∀ x, x ∈ L ↔ x ∈ L') (n : Int) : freeE E L n = freeE E L' n := by
  unfold freeE; simp only [h]
/-- the least one that is free -/
def nextE (E : List (Int × Int)) (L : List Int) : Option Int := leastI (L.filter (freeE E L))
theorem nextE_none {E : List (Int × Int)} {L : List Int} : nextE E L = none ↔ ∀ n, n ∈ L → freeE E L n = false := by
  unfold nextE
  rw [leastI_none, List.filter_eq_nil_iff]
  simp only [Bool.not_eq_true]
theorem nextE_is {E : List (Int × Int)} {L : List Int} {n : Int} (h : nextE E L = some n) : n ∈ L ∧ freeE E L n = true ∧ ∀ m, m ∈ L → freeE E L m = true → n ≤ m := by
  obtain ⟨h1, h2⟩ := leastI_is h
  rw [List.mem_filter] at h1
  exact ⟨h1.1, h1.2, fun m hm hf => h2 m (List.mem_filter.2 ⟨hm, hf⟩)⟩
theorem nextE_of {E : List (Int × Int)} {L : List Int} {n : Int} (h1 : n ∈ L) (h2 : freeE E L n = true) (h3 : ∀ m, m ∈ L → freeE E L m = true → n ≤ m) : nextE E L = some n :=
  leastI_of (List.mem_filter.2 ⟨h1, h2⟩) fun m hm => by rw [List.mem_filter] at hm; exact h3 m hm.1 hm.2
theorem nextE_congr {E : List (Int × Int)} {L L' : List Int} (h : ∀ x, x ∈ L ↔ x ∈ L') : nextE E L = nextE E L' :=
  leastI_congr fun x => by rw [List.mem_filter, List.mem_filter, h x, freeE_congr h x]
def tpE (E : List (Int × Int)) : Nat → List Int → Option (List Int)
  | 0, _ => some []
  | k + 1, L => if L = [] then some [] else match nextE E L with
    | none => none
    | some n => (tpE E k (L.filter fun x => decide (x ≠ n))).map (n :: ·)
theorem tpE_nil {E : List (Int × Int)} : ∀ k, tpE E k [] = some []
  | 0 => rfl
  | _ + 1 => rfl
theorem same_nil {L L' : List Int} (h : ∀ x, x ∈ L ↔ x ∈ L') : L = [] ↔ L' = [] := by
  rw [List.eq_nil_iff_forall_not_mem, List.eq_nil_iff_forall_not_mem]
  simp only [h]
theorem del_len {L : List Int} {n : Int} (h : n ∈ L) : (L.filter fun x => decide (x ≠ n)).length < L.length := by
  rw [List.length_filter_lt_length_iff_exists]
  exact ⟨n, h, by simp⟩
theorem tpE_congr {E : List (Int × Int)} : ∀ (k k' : Nat) {L L' : List Int}, (∀ x, x ∈ L ↔ x ∈ L') → L.length ≤ k → L'.length ≤ k' → tpE E k L = tpE E k' L' := by
  intro k
  induction k with
  | zero =>
    intro k' L L' h h1 h2
    have : L = [] := List.length_eq_zero_iff.1 (by omega)
    subst this
    rw [(same_nil h).1 rfl]; simp only [tpE_nil]
  | succ k ih =>
    intro k' L L' h h1 h2
    by_cases hL : L = []
    · subst hL
      rw [(same_nil h).1 rfl]; simp only [tpE_nil]
    · have hL' : L' ≠ [] := fun e => hL ((same_nil h).2 e)
      cases k' with
      | zero => exact absurd (List.length_eq_zero_iff.1 (by omega)) hL'
      | succ k' =>
        simp only [tpE, if_neg hL, if_neg hL', nextE_congr h]
        cases hn : nextE E L' with
        | none => rfl
        | some n =>
          have hm' := (nextE_is hn).1
          have hm := (h n).2 hm'
          have := del_len hm
          have := del_len hm'
          simp only []
          rw [ih k' (L := L.filter fun x => decide (x ≠ n)) (L' := L'.filter fun x => decide (x ≠ n)) (fun x => by rw [List.mem_filter, List.mem_filter, h x]) (by omega) (by omega)]
/-- the row that comes first -/
def topo (E : List (Int × Int)) (L : List Int) : Option (List Int) := tpE E L.length L
theorem topo_nil {E : List (Int × Int)} : topo E [] = some [] := rfl
theorem topo_congr {E : List (Int × Int)} {L L' : List Int} (h : ∀ x, x ∈ L ↔ x ∈ L') : topo E L = topo E L' := tpE_congr _ _ h (Nat.le_refl _) (Nat.le_refl _)
theorem topo_stuck {E : List (Int × Int)} {L : List Int} (hL : L ≠ []) (h : nextE E L = none) : topo E L = none := by
  unfold topo
  obtain ⟨k, hk⟩ : ∃ k, L.length = k + 1 := ⟨L.length - 1, by have := List.length_pos_iff.2 hL; omega⟩
  rw [hk]; simp only [tpE, if_neg hL, h]
theorem topo_next {E : List (Int × Int)} {L L' : List Int} {n : Int} (h : nextE E L = some n) (hL' : ∀ x, x ∈ L' ↔ x ∈ L ∧ x ≠ n) : topo E L = (topo E L').map (n :: ·) := by
  have hm := (nextE_is h).1
  have hL := List.ne_nil_of_mem hm
  have hd := del_len hm
  unfold topo
  obtain ⟨k, hk⟩ : ∃ k, L.length = k + 1 := ⟨L.length - 1, by have := List.length_pos_iff.2 hL; omega⟩
  rw [hk]; simp only [tpE, if_neg hL, h]
  rw [tpE_congr k L'.length (L := L.filter fun x => decide (x ≠ n)) (L' := L') (fun x => by rw [List.mem_filter, hL' x]; simp) (by omega) (Nat.le_refl _)]
theorem tp_none {E : List (Int × Int)} : ∀ (k : Nat) {L : List Int}, tpE E k L = none → ∃ K : List Int, K ≠ [] ∧ (∀ x, x ∈ K → x ∈ L) ∧ ∀ n, n ∈ K → ∃ e, e ∈ E ∧ e.2 = n ∧ e.1 ∈ K := by
  intro k
  induction k with
  | zero => intro L h; cases h
  | succ k ih =>
    intro L h
    simp only [tpE] at h
    split at h
    · cases h
    · rename_i hL
      cases hn : nextE E L with
      | none => exact ⟨L, hL, fun _ h => h, fun n hm => freeE_no.1 (nextE_none.1 hn n hm)⟩
      | some n =>
        rw [hn] at h
        simp only [Option.map_eq_none_iff] at h
        obtain ⟨K, h1, h2, h3⟩ := ih h
        exact ⟨K, h1, fun x hx => (List.mem_filter.1 (h2 x hx)).1, h3⟩
/-- where there is no row some lead to one another -/
theorem topo_none {E : List (Int × Int)} {L : List Int} (h : topo E L = none) : ∃ K : List Int, K ≠ [] ∧ (∀ x, x ∈ K → x ∈ L) ∧ ∀ n, n ∈ K → ∃ e, e ∈ E ∧ e.2 = n ∧ e.1 ∈ K := tp_none _ h
theorem tp_some {E : List (Int × Int)} : ∀ (k : Nat) {L s : List Int}, L.length ≤ k → tpE E k L = some s →
    (∀ x, x ∈ s ↔ x ∈ L) ∧ s.Nodup ∧ ∀ e, e ∈ E → e.1 ∈ L → e.2 ∈ L → s.idxOf e.1 < s.idxOf e.2 := by
  intro k
  induction k with
  | zero =>
    intro L s hk h
    have : L = [] := List.length_eq_zero_iff.1 (by omega)
    subst this
    cases h
    simp
  | succ k ih =>
    intro L s hk h
    simp only [tpE] at h
    split at h
    · rename_i hL; subst hL; cases h; simp
    · cases hn : nextE E L with
      | none => rw [hn] at h; cases h
      | some n =>
        rw [hn] at h
        simp only [Option.map_eq_some_iff] at h
        obtain ⟨s', h1, rfl⟩ := h
        obtain ⟨g1, g2, g3⟩ := nextE_is hn
        have := del_len g1
        obtain ⟨i1, i2, i3⟩ := ih (by omega) h1
        have hmem : ∀ x, x ∈ s' ↔ x ∈ L ∧ x ≠ n := fun x => by rw [i1 x, List.mem_filter]; simp
        refine ⟨fun x => ?_, List.nodup_cons.2 ⟨fun h => ((hmem n).1 h).2 rfl, i2⟩, fun e he ha hb => ?_⟩
        · rw [List.mem_cons, hmem]
          by_cases hx : x = n
          · subst hx; simp [g1]
          · simp [hx]
        · have hbn : e.2 ≠ n := fun h => freeE_iff.1 g2 e he h ha
          rw [List.idxOf_cons, List.idxOf_cons]
          have hbn' : (n == e.2) = false := by simpa using fun h : n = e.2 => hbn h.symm
          rw [hbn']
          by_cases han : e.1 = n
          · rw [han]; simp
          · have han' : (n == e.1) = false := by simpa using fun h : n = e.1 => han h.symm
            rw [han']
            have := i3 e he (List.mem_filter.2 ⟨ha, by simpa using han⟩) (List.mem_filter.2 ⟨hb, by simpa using hbn⟩)
            simpa using this
theorem topo_some {E : List (Int × Int)} {L s : List Int} (h : topo E L = some s) : (∀ x, x ∈ s ↔ x ∈ L) ∧ s.Nodup ∧ ∀ e, e ∈ E → e.1 ∈ L → e.2 ∈ L → s.idxOf e.1 < s.idxOf e.2 :=
  tp_some _ (Nat.le_refl _) h
end Go.Rt
end

/- Where there are cycles: what can be come to. No program in sight. -/
section
namespace Go.Rt

inductive Rc' (G : Gr) : Int → Int → Prop
  | refl (a : Int) : Rc' G a a
  | step {a b c : Int} : Adj G a b → Rc' G b c → Rc' G a c
section
variable {G : Gr} {s : Nat}
theorem Rc'.trans {a b c : Int} (h : Rc' G a b) (h2 : Rc' G b c) : Rc' G a c := by
  induction h with
  | refl => exact h2
  | step h _ ih => exact .step h (ih h2)
theorem Rc'.one {a b : Int} (h : Adj G a b) : Rc' G a b := .step h (.refl b)
theorem Rc'.closed {a b : Int} (h : Rc' G a b) {C : List Int} (hC : ∀ a b, a ∈ C → Adj G a b → b ∈ C) (ha : a ∈ C) : b ∈ C := by
  induction h with
  | refl => exact ha
  | step h _ ih => exact ih (hC _ _ ha h)
theorem Way.snoc {d : Nat} {p : List Nat} {k : Nat} (h : Way G s (d + 1) (p ++ [k])) : Way G s d p ∧ G.ok k = true ∧ k < G.m ∧ G.F k = nd G p := by
  have hl := h.len
  simp only [List.length_append, List.length_singleton] at hl
  have hp : p ≠ [] := fun e => by rw [e] at hl; simp at hl
  refine ⟨⟨by omega, fun x hx => h.inn x (List.mem_append_left _ hx), ?_, ?_, ?_, ?_⟩, ?_, h.inn k (by simp), ?_⟩
  · have := h.nodup; rw [List.map_append] at this; exact (List.nodup_append.1 this).1
  · have := h.head
    cases p with
    | nil => exact absurd rfl hp
    | cons a r => exact this
  · intro x hx
    refine h.ok x ?_
    rw [List.tail_append_of_ne_nil hp]
    exact List.mem_append_left _ hx
  · intro i a b ha hb
    exact h.step i a b (by rw [List.getElem?_append_left (List.getElem?_eq_some_iff.1 ha).1]; exact ha) (by rw [List.getElem?_append_left (List.getElem?_eq_some_iff.1 hb).1]; exact hb)
  · refine h.ok k ?_
    rw [List.tail_append_of_ne_nil hp]; simp
  · have h1 : (p ++ [k])[d]? = some (lastN p) := by
      rw [List.getElem?_append_left (by omega)]
      unfold lastN
      rw [List.getLast?_eq_getElem?, show p.length - 1 = d by omega]
      cases hd : p[d]? with
      | none => rw [List.getElem?_eq_none_iff] at hd; omega
      | some x => rfl
    exact h.step d (lastN p) k h1 (by rw [List.getElem?_append_right (by omega), show d + 1 - p.length = 0 by omega]; rfl)
theorem Way.reach : ∀ {d : Nat} {p : List Nat}, Way G s d p → Rc' G (G.T s) (nd G p)
  | 0, p, h => by
    have hl := h.len
    have hh := h.head
    obtain ⟨a, rfl⟩ : ∃ a, p = [a] := List.length_eq_one_iff.1 (by omega)
    cases hh
    exact .refl _
  | d + 1, p, h => by
    have hl := h.len
    have hp : p ≠ [] := fun e => by rw [e] at hl; simp at hl
    obtain ⟨q, k, rfl⟩ : ∃ q k, p = q ++ [k] := ⟨p.dropLast, p.getLast hp, (List.dropLast_concat_getLast hp).symm⟩
    obtain ⟨h1, h2, h3, h4⟩ := h.snoc
    have := h1.reach
    rw [nd_snoc]
    exact this.trans (.one ⟨k, h3, h2, h4, rfl⟩)
theorem cyc_iff (hs : s < G.m) : cyc G s ≠ [] ↔ Rc' G (G.T s) (G.F s) := by
  constructor
  · intro h
    obtain ⟨D, h1, h2⟩ := cyc_is hs h
    rw [← h2]; exact h1.reach
  · intro h hc
    obtain ⟨C, h1, h2, h3⟩ := cyc_none hs hc
    exact h2 (h.closed h3 h1)
/-- where each edge leads forward nothing can be come to again -/
theorem Rc'.rank {f : Int → Int} (hf : ∀ a b, Adj G a b → f a < f b) {a b : Int} (h : Rc' G a b) : f a ≤ f b := by
  induction h with
  | refl => exact Int.le_refl _
  | step h _ ih => have := hf _ _ h; omega
theorem cyc_rank {f : Int → Int} (hf : ∀ a b, Adj G a b → f a < f b) (hs : s < G.m) (ho : G.ok s = true) : cyc G s = [] := Classical.byContradiction fun h => by
  have h1 := ((cyc_iff hs).1 h).rank hf
  have h2 := hf (G.F s) (G.T s) ⟨s, hs, ho, rfl, rfl⟩
  omega
/-- where each of some has an edge from one of them there is a cycle -/
theorem cyc_back {K : List Int} (hK : K ≠ []) (h : ∀ n, n ∈ K → ∃ a, a ∈ K ∧ Adj G a n) : ∃ s, s < G.m ∧ G.ok s = true ∧ cyc G s ≠ [] := Classical.byContradiction fun hno => by
  have hno' : ∀ a b, Adj G a b → ¬Rc' G b a := fun a b ⟨k, h1, h2, h3, h4⟩ hr => hno ⟨k, h1, h2, (cyc_iff h1).2 (by rw [h3, h4]; exact hr)⟩
  have key : ∀ j : Nat, ∃ (a : Int) (R : List Int), (a :: R).length = j + 1 ∧ (a :: R).Nodup ∧ (∀ x, x ∈ a :: R → x ∈ K) ∧ ∀ x, x ∈ a :: R → Rc' G a x := by
    intro j
    induction j with
    | zero =>
      obtain ⟨a, ha⟩ := List.exists_mem_of_ne_nil K hK
      refine ⟨a, [], rfl, by simp, fun x hx => ?_, fun x hx => ?_⟩
      · rw [List.mem_singleton.1 hx]; exact ha
      · rw [List.mem_singleton.1 hx]; exact .refl a
    | succ j ih =>
      obtain ⟨a, R, h1, h2, h3, h4⟩ := ih
      obtain ⟨b, hb, hba⟩ := h a (h3 a List.mem_cons_self)
      refine ⟨b, a :: R, by rw [List.length_cons, h1], List.nodup_cons.2 ⟨fun hm => hno' b a hba (h4 b hm), h2⟩, fun x hx => ?_, fun x hx => ?_⟩
      · rcases List.mem_cons.1 hx with rfl | hx
        · exact hb
        · exact h3 x hx
      · rcases List.mem_cons.1 hx with rfl | hx
        · exact .refl _
        · exact .step hba (h4 x hx)
  obtain ⟨a, R, h1, h2, h3, _⟩ := key K.length
  have := nodup_le h2 h3
  omega
end
end Go.Rt
end
