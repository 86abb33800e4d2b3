/- Contracts of functions of the program, and what they lean on. Conditions: those of each theorem. -/
import Derived.Test.YtpgkohlaiaoolaaPA
import Derived.Test.YtpgkohlaiaoolaaPB
import Derived.Test.YtpgkohlaiaoolaaSort

set_option linter.unusedVariables false
set_option linter.unusedSimpArgs false

/- Contracts: the keys of a map as a function that is ranged over; a row of what such a function hands over; sorted. -/
section
namespace Go.Rt
open Go.Vm

def krow (k : Int) : List IV := [.v (.int .i64 k)]
def krows (ks : List Int) : List (List IV) := ks.map krow
/-- what may come behind what, of these keys -/
def PreK (L : List Int) (pre : List (List IV)) (x : List IV) : Prop := ∃ ks k, pre = krows ks ∧ x = krow k ∧ (ks ++ [k]).Nodup ∧ ∀ j ∈ ks ++ [k], j ∈ L
def AllK (L : List Int) (xs : List (List IV)) : Prop := ∃ ks : List Int, xs = krows ks ∧ ks.Nodup ∧ ∀ j, j ∈ ks ↔ j ∈ L
/-- the map's keys are these -/
def KeysOf (g : List Value → Option (List IV)) (L : List Int) : Prop := ∀ q, g q ≠ none ↔ ∃ k ∈ L, q = [.int .i64 k]

set_option maxRecDepth 8000 in
set_option maxHeartbeats 4000000 in
theorem keys1_ispec {g : List Value → Option (List IV)} {L : List Int} (hk : KeysOf g L) : ISpec prog n_maps_Keys_map_int_int_int_int_1 [.pt [.mp skS g]] (PreK L) (AllK L) := by
  intro l Zs Zx cont hy
  refine gspecI maps_Keys_map_int_int_int_int_1_is (by simp) (by decide) ?_
  simp -dsimp [maps_Keys_map_int_int_int_int_1]
  intro L0 hn0 hL0 _
  refine loop_any (fun n s => ∃ (left : List (List Value)) (last : Option (List Value)) (ks : List Int), n = left.length ∧ s = ⟨[(5, .ptr 5 0), (0, .iv (.v (.func (.yield l) #[] #[])))], [(5, .iter skS g left last), (1000, .gh (Zs (krows ks)) [] [])]⟩ ∧
    ks.Nodup ∧ (∀ q ∈ left, ∃ k ∈ L, q = [.int .i64 k] ∧ k ∉ ks) ∧ (∀ k ∈ ks, k ∈ L) ∧ ∀ k ∈ L, k ∈ ks ∨ [Value.int .i64 k] ∈ left) ⟨_, _, LeTo.le (D := []) (s' := ⟨[(5, .ptr 5 0), (0, .iv (.v (.func (.yield l) #[] #[])))], [(5, .iter skS g L0 none), (1000, .gh (Zs (krows [])) [] [])]⟩) ?_, L0, none, [], rfl, rfl, by simp, ?_, by simp, ?_⟩ ?_
  · simp -dsimp [krows]
  · intro q hq
    obtain ⟨k, h1, h2⟩ := (hk q).1 ((hL0 q).1 hq)
    exact ⟨k, h1, h2, by simp⟩
  · intro k hkL
    exact .inr ((hL0 _).2 ((hk _).2 ⟨k, hkL, rfl⟩))
  · rintro n s ⟨left, last, ks, rfl, rfl, h1, h2, h3, h4⟩
    simp -dsimp [maps_Keys_map_int_int_int_int_1_l4]
    refine ⟨?_, ?_⟩
    · rintro rfl
      refine ⟨Zs (krows ks), by simp, fun A B w hz => .inl ⟨_, ⟨ks, rfl, h1, fun j => ⟨h3 j, fun hj => (h4 j hj).resolve_right (by simp)⟩⟩, hz⟩, by simp⟩
    · intro q c hq hg
      obtain ⟨k, q1, rfl, q3⟩ := h2 q hq
      simp -dsimp [hg]
      have hp : PreK L (krows ks) (krow k) := ⟨ks, k, rfl, rfl, by
        refine List.nodup_append.2 ⟨h1, by simp, ?_⟩
        rintro a ha b hb rfl
        rw [List.mem_singleton.1 hb] at ha
        exact q3 ha, fun j hj => by
        rcases List.mem_append.1 hj with h | h
        · exact h3 j h
        · rw [List.mem_singleton.1 h]; exact q1⟩
      refine yield_ok (g := 1000) (hy _ _ hp) (by simp) (by simp [krow]) ?_
      cases hc : cont (krows ks) (krow k) with
      | true =>
        have hkr : krows ks ++ [krow k] = krows (ks ++ [k]) := by simp [krows]
        simp -dsimp [hc, hkr]
        refine ⟨_, rmk_lt hq, _, LeTo.le (D := []) (s' := ⟨[(5, .ptr 5 0), (0, .iv (.v (.func (.yield l) #[] #[])))], [(5, .iter skS g (rmk [.int .i64 k] left) (some [.int .i64 k])), (1000, .gh (Zs (krows (ks ++ [k]))) [] [])]⟩) ?_, _, rfl, _, _, rfl, ?_⟩
        · simp -dsimp
        · obtain ⟨_, _, e1, e2, g1, g2⟩ := hp
          refine ⟨List.nodup_append.2 ⟨h1, by simp, fun a ha b hb => by rintro rfl; rw [List.mem_singleton.1 hb] at ha; exact q3 ha⟩, fun q hq' => ?_, fun j hj => ?_, fun j hj => ?_⟩
          · obtain ⟨hq1, hq2⟩ := rmk_mem.1 hq'
            obtain ⟨k', p1, rfl, p3⟩ := h2 q hq1
            refine ⟨k', p1, rfl, fun hm => ?_⟩
            rcases List.mem_append.1 hm with h | h
            · exact p3 h
            · rw [List.mem_singleton.1 h] at hq2; exact hq2 rfl
          · rcases List.mem_append.1 hj with h | h
            · exact h3 j h
            · rw [List.mem_singleton.1 h]; exact q1
          · rcases h4 j hj with h | h
            · exact .inl (List.mem_append_left _ h)
            · by_cases e : j = k
              · exact .inl (List.mem_append_right _ (by simp [e]))
              · exact .inr (rmk_mem.2 ⟨h, by simpa using e⟩)
      | false =>
        simp -dsimp [hc]
        exact ⟨Zx (krows ks) (krow k), by simp, fun A B w hz => .inr ⟨_, _, hz⟩, by simp⟩

theorem maps_Keys_spec (g : List Value → Option (List IV)) : GSpecN prog false n_maps_Keys_map_int_int_int_int [.iv (.mp skS g)] [] (fun r K => r = .fn n_maps_Keys_map_int_int_int_int_1 [] [.ptr 1 0] ∧ K = [(1, .box [.iv (.mp skS g)])]) := by
  refine gspecR _ maps_Keys_map_int_int_int_int_is (by simp) (by decide) (fun x H' h => by
    obtain ⟨rfl, rfl⟩ := h
    refine ⟨fun id o ho => ?_, by simp⟩
    simp only [Vm.look] at ho
    split at ho
    · cases ho; rfl
    · cases ho) ?_
  simp -dsimp [maps_Keys_map_int_int_int_int]
  exact ⟨[], _, _, ⟨rfl, rfl⟩, by simp -dsimp⟩

/-- a row of these numbers, as the function hands it back -/
def RowR (j : Nat) (S : List Int → Prop) (r : AV) (K : Hp) : Prop := ∃ ks : List Int, S ks ∧ ((ks = [] ∧ r = .nil 1 ∧ K = []) ∨ (ks ≠ [] ∧ r = .sl j 1 0 ks.length ∧ K = [(j, .list 1 (intsC ks))]))
def intsOf (p : List (List IV)) : List Int := p.map fun x => match x with
  | [.v (.int .i64 k)] => k
  | _ => 0
theorem intsOf_krows (ks : List Int) : intsOf (krows ks) = ks := by
  induction ks with
  | nil => rfl
  | cons k ks ih => simpa [intsOf, krows, krow] using ih
def appH : List Int → Hp
  | [] => [(2, .box [.nil 1])]
  | k :: ks => [(2, .box [.sl 11 1 0 (k :: ks).length]), (11, .list 1 (intsC (k :: ks)))]
theorem appH_ne {ks : List Int} (h : ks ≠ []) : appH ks = [(2, .box [.sl 11 1 0 ks.length]), (11, .list 1 (intsC ks))] := by
  cases ks with
  | nil => exact absurd rfl h
  | cons k ks => rfl

theorem rowR_flat {j : Nat} {S : List Int → Prop} {r : AV} {K : Hp} (h : RowR j S r K) : (∀ id o, Vm.look K id = some o → o.isLent = false ∧ o.flat) ∧ r.flat = true := by
  obtain ⟨ks, _, ⟨_, rfl, rfl⟩ | ⟨_, rfl, rfl⟩⟩ := h
  · exact ⟨fun id o h => (by cases h), rfl⟩
  · refine ⟨fun id o ho => ?_, rfl⟩
    simp only [Vm.look] at ho
    split at ho
    · cases ho
      refine ⟨rfl, fun x hx y hy => ?_⟩
      obtain ⟨k, _, rfl⟩ := List.mem_map.1 hx
      simp at hy; subst hy; rfl
    · cases ho

set_option maxRecDepth 8000 in
set_option maxHeartbeats 4000000 in
theorem slices_AppendSeq_spec {f : FuncId} {caps : List IV} {Pre : List (List IV) → List IV → Prop} {S : List (List IV) → Prop} (hi : ISpec prog f caps Pre S) (hok : okFn prog f = true)
    (hp : ∀ pre x, Pre pre x → ∃ ks k, pre = krows ks ∧ x = krow k ∧ ks.length < 2 ^ 32) :
    GSpecN prog true n_slices_AppendSeq_int_int [.nil 1, .fn f [] (caps.map CapV.val)] [] (RowR 11 fun ks => S (krows ks)) := by
  refine gspecRf _ slices_AppendSeq_int_int_is (by simp) (by decide) (fun x H' h => rowR_flat h) ?_
  simp -dsimp [slices_AppendSeq_int_int]
  refine rng_all [4] [5, 10] 990 [(2, .ptr 2 0), (6, .fn f [] (caps.map CapV.val))] (fun p => ∃ ks, p = krows ks) (fun p => appH (intsOf p)) hi ?_ (by simp) hok (by decide) (by simp [intsOf, appH]) (by simp) ?_ ⟨[], rfl⟩ ?_ ?_
  · simp -dsimp [intsOf, appH]
  · intro pre x hx
    obtain ⟨ks, k, _, rfl, _⟩ := hp pre x hx
    rfl
  · rintro vs _ x ⟨ks, rfl⟩ hx
    obtain ⟨ks', k, hks, rfl, hlen⟩ := hp _ x hx
    have hks : ks = ks' := by have := congrArg intsOf hks; rwa [intsOf_krows, intsOf_krows] at this
    subst hks
    have hkr : krows ks ++ [krow k] = krows (ks ++ [k]) := by simp [krows]
    refine ⟨⟨ks ++ [k], hkr⟩, ?_⟩
    rw [hkr, intsOf_krows, intsOf_krows, appH_ne (by simp : ks ++ [k] ≠ [])]
    cases ks with
    | nil =>
      simp -dsimp [slices_AppendSeq_int_int_a4, slices_AppendSeq_int_int_b5, parS, St.set_mk, krow, appH, frCs]
      rfl
    | cons k0 ks =>
      simp -dsimp [slices_AppendSeq_int_int_a4, slices_AppendSeq_int_int_b5, parS, St.set_mk, krow, appH, frCs]
      simp only [List.length_cons] at hlen
      refine ⟨by omega, by omega, by simp [intsC]⟩
  · rintro vs _ ⟨ks, rfl⟩ hS
    rw [intsOf_krows]
    cases ks with
    | nil =>
      simp -dsimp [appH, frCs]
      exact ⟨[2, 990], _, _, ⟨_, hS, .inl ⟨rfl, rfl, rfl⟩⟩, by simp -dsimp⟩
    | cons k0 ks =>
      simp -dsimp [appH, frCs]
      exact ⟨[2, 990], _, _, ⟨_, hS, .inr ⟨by simp, rfl, rfl⟩⟩, by simp -dsimp⟩

theorem slices_Collect_spec {f : FuncId} {caps : List IV} {Pre : List (List IV) → List IV → Prop} {S : List (List IV) → Prop} (hi : ISpec prog f caps Pre S) (hok : okFn prog f = true)
    (hp : ∀ pre x, Pre pre x → ∃ ks k, pre = krows ks ∧ x = krow k ∧ ks.length < 2 ^ 32) :
    GSpecN prog true n_slices_Collect_int [.fn f [] (caps.map CapV.val)] [] (RowR 11 fun ks => S (krows ks)) := by
  refine gspecRf _ slices_Collect_int_is (by simp) (by decide) (fun x H' h => rowR_flat h) ?_
  simp -dsimp [slices_Collect_int]
  refine call_open (slices_AppendSeq_spec hi hok hp) ?_ (by simp) ?_ ?_
  · simp
  · intro x H' h id o ho
    simp -dsimp
    obtain ⟨ks, hS, ⟨rfl, rfl, rfl⟩ | ⟨hne, rfl, rfl⟩⟩ := h
    · cases ho
    · simp only [Vm.look] at ho
      split at ho
      · omega
      · cases ho
  · rintro x H' ⟨ks, hS, ⟨rfl, rfl, rfl⟩ | ⟨hne, rfl, rfl⟩⟩
    · simp -dsimp
      exact ⟨[2], _, _, ⟨_, hS, .inl ⟨rfl, rfl, rfl⟩⟩, by simp -dsimp⟩
    · simp -dsimp
      exact ⟨[2], _, _, ⟨_, hS, .inr ⟨hne, rfl, rfl⟩⟩, by simp -dsimp⟩

theorem sorted_same {ks L : List Int} (h1 : ks.Nodup) (h2 : ∀ j, j ∈ ks ↔ j ∈ L) (hL : L.Pairwise (· < ·)) : sortI ks = L := by
  have hp : (sortI ks).Perm L := by
    refine (List.mergeSort_perm ks _).trans ?_
    refine (List.perm_ext_iff_of_nodup h1 (hL.imp fun h => by omega)).2 h2
  refine List.Perm.eq_of_pairwise (le := fun a b : Int => a ≤ b) (fun a b _ _ h1 h2 => by omega) ?_ (hL.imp fun h => by omega) hp
  have := List.pairwise_mergeSort (le := fun x y : Int => decide (x ≤ y)) (fun a b c h1 h2 => by simp at *; omega) (fun a b => by simp; omega) ks
  exact this.imp fun h => by simpa using h
theorem slices_Sort_spec (xs : List Int) (hl : xs.length < 2 ^ 62) : GSpec prog false n_slices_Sort_int_int [.sl 1000 1 0 xs.length] [(1000, .list 1 (intsC xs))] (.tup []) [(1000, .list 1 (intsC (sortI xs)))] :=
  gspec_rowF sortI (fun l => List.length_mergeSort _) (by simp [sortI]) (fun blk off cap zs w hH hb hs => Go.Proofs.Try.slices_Sort_int blk off cap zs w hH hb hs) (fun p cap w => Go.Proofs.Any.slices_Sort_int_none Go.Proofs.Try.lays189 p cap w) xs hl
theorem slices_Sort_nil : GSpec prog true n_slices_Sort_int_int [.iv (.lst 1 [])] [] (.tup []) [] :=
  gspec_none fun p cap w => Go.Proofs.Any.slices_Sort_int_none Go.Proofs.Try.lays189 p cap w

theorem le_ivc {s : St} {t : Nat} {y : IV} (h : (s.get t).ivc = some y) : Le s (s.set t (.iv y)) := by
  rintro E n a w ⟨ψ, hs⟩
  refine ⟨ψ, { hs with frame := fun u => ?_ }⟩
  rw [St.get_set]
  split
  · rename_i e; subst e
    exact .iv _ _ (riv_ivc (hs.frame t) h (fun _ _ h => h))
  · exact hs.frame u
/-- a function's end with one plain value, or a slice that is nil, that may lean on what came in -/
def EndV (D : List Nat) (t : Nat) (x : IV) (s : St) : Prop := D.all (· < 1000) = true ∧ ((s.drops D).get t).ivc = some x ∧ smallH s.hp = true
theorem gspec1V {P : Program} {f : FuncId} {args : List AV} {x : IV} {n t : Nat} {c : VCode} (hf : fnV P f = some (n, c, [.tmp t]))
    (hargs : args.length ≤ n) (hn : n ≤ 999) (h : wpV P c ⟨argFr 0 args, []⟩ ⟨fun s => ∃ D, EndV D t x s, fun _ _ => False, fun s => ∃ D, EndV D t x s, fun _ _ => False⟩) : GSpec P false f args [] (.iv x) [] :=
  gspec_of_vc hf hargs rfl rfl (outs_mono (wpV_sound hn _ _ _ h) fun s h => by
    obtain ⟨D, h1, h2, h3⟩ := h
    have hk : (((s.drops D).set t (.iv x)).hp.map (·.1)).all (· < 1000) = true := by
      show ((s.drops D).hp.map (·.1)).all (· < 1000) = true
      rw [List.all_eq_true]
      intro k hk
      exact List.all_eq_true.1 (smallH_all h3) k (drops_keys D hk)
    refine ⟨((s.drops D).set t (.iv x)).drops (((s.drops D).set t (.iv x)).hp.map (·.1)), [.iv x], ((le_drops D h1 s).trans (le_ivc h2)).trans (le_drops _ hk _), ?_, rfl, fun id => ?_, fun h => by cases h⟩
    · simp [resV, get_drops_iv _ (show ((s.drops D).set t (.iv x)).get t = .iv x by rw [St.get_set, if_pos rfl])]
    · refine look_drops_none _ ?_
      cases hl : Vm.look ((s.drops D).set t (.iv x)).hp id with
      | none => exact .inr rfl
      | some o => exact .inl (List.contains_iff_mem.1 (look_mem hl)))

/-- a slot that holds a slice that is nil may as well hold an empty row of one's own -/
theorem le_ownT {s : St} {t sz id : Nat} (h : s.get t = .nil sz) (hno : Vm.look s.hp id = none) (hid : id < 1000) : Le s ((s.add id (.list sz [])).set t (.sl id sz 0 0)) := by
  rintro E n a w ⟨ψ, hs⟩
  have h1 := hs.new (o := .list sz []) (p := none) (w' := w) hid hno (Ext.refl w) (fun b k e => by cases e) ⟨fun _ h => (by cases h), .inl ⟨by simp [upd], rfl⟩⟩
  have hψ : upd ψ id none id = none := by simp [upd]
  refine ⟨_, { h1 with frame := fun u => ?_ }⟩
  have hf := h1.frame u
  rw [St.get_set]
  split
  · rename_i e; subst e
    rw [show (s.add id (.list sz [])).get t = .nil sz from h] at hf
    generalize a.tmps.getD t undef = v at hf
    cases hf
    exact .sl0 id sz (.list sz []) 0 (by rw [show ((s.add id (.list sz [])).set t (.sl id sz 0 0)).hp = (s.add id (.list sz [])).hp from rfl, look_add, if_pos rfl]) rfl hψ
  · exact hf

def EndRL (t : Nat) (R : AV → Hp → Prop) (s : St) : Prop := ∃ s1, Le s s1 ∧ EndR t R s1
theorem gspecRL {P : Program} {f : FuncId} {args : List AV} {n t : Nat} {c : VCode} (R : AV → Hp → Prop) (hf : fnV P f = some (n, c, [.tmp t])) (hargs : args.length ≤ n) (hn : n ≤ 999)
    (hR : ∀ x H', R x H' → (∀ id o, Vm.look H' id = some o → o.isLent = false ∧ o.flat) ∧ x.flat = true)
    (h : wpV P c ⟨argFr 0 args, []⟩ ⟨EndRL t R, fun _ _ => False, EndRL t R, fun _ _ => False⟩) : GSpecN P true f args [] R :=
  gspecN_of_vc hf hargs rfl rfl (fun x H' h id o ho => ((hR x H' h).1 id o ho).1) (outs_mono (wpV_sound hn _ _ _ h) fun s h => by
    obtain ⟨s1, h0, D, x, H', h1, h2⟩ := h
    exact ⟨⟨[(t, x)], H'⟩, [x], H', h0.trans h2.le, by simp [resV, St.get, Vm.look], h1, fun _ => rfl, fun _ => ⟨(hR x H' h1).2, fun id o ho => ((hR x H' h1).1 id o ho).2⟩⟩)

theorem slices_Sorted_spec {f : FuncId} {caps : List IV} {Pre : List (List IV) → List IV → Prop} {S : List (List IV) → Prop} (hi : ISpec prog f caps Pre S) (hok : okFn prog f = true)
    (hp : ∀ pre x, Pre pre x → ∃ ks k, pre = krows ks ∧ x = krow k ∧ ks.length < 2 ^ 32) {L : List Int} (hL : ∀ ks, S (krows ks) → sortI ks = L ∧ ks.length < 2 ^ 40) :
    GSpec prog true n_slices_Sorted_int [.fn f [] (caps.map CapV.val)] [] (.sl 11 1 0 L.length) [(11, .list 1 (intsC L))] := by
  refine (gspecRL (fun r K => r = .sl 11 1 0 L.length ∧ K = [(11, .list 1 (intsC L))]) slices_Sorted_int_is (by simp) (by decide) (fun x H' h => ?_) ?_).one (fun _ _ h => h) (fun id o ho => ?_)
  · obtain ⟨rfl, rfl⟩ := h
    refine ⟨fun id o ho => ?_, rfl⟩
    simp only [Vm.look] at ho
    split at ho
    · cases ho
      refine ⟨rfl, fun x hx y hy => ?_⟩
      obtain ⟨k, _, rfl⟩ := List.mem_map.1 hx
      simp at hy; subst hy; rfl
    · cases ho
  rotate_left
  · simp only [Vm.look] at ho
    split at ho
    · cases ho; rfl
    · cases ho
  simp -dsimp [slices_Sorted_int]
  refine call_open (slices_Collect_spec hi hok hp) ?_ (by simp) ?_ ?_
  · simp
  · intro x H' h id o ho
    simp -dsimp
    obtain ⟨ks, hS, ⟨rfl, rfl, rfl⟩ | ⟨hne, rfl, rfl⟩⟩ := h
    · cases ho
    · simp only [Vm.look] at ho
      split at ho
      · omega
      · cases ho
  · rintro x H' ⟨ks, hS, ⟨rfl, rfl, rfl⟩ | ⟨hne, rfl, rfl⟩⟩
    · simp -dsimp
      refine call_pure slices_Sort_nil (by simp) (by simp) ?_
      obtain ⟨hL1, _⟩ := hL [] hS
      have hL0 : L = [] := by rw [← hL1]; simp [sortI]
      subst hL0
      simp -dsimp
      refine ⟨_, le_ownT (t := 2) (sz := 1) (id := 11) (by simp) (by simp) (by decide), [2], _, _, ⟨rfl, rfl⟩, ?_⟩
      simp -dsimp [St.add, St.set_mk, intsC]
    · obtain ⟨hL1, hL2⟩ := hL ks hS
      simp -dsimp
      have hs : GSpec prog false n_slices_Sort_int_int [.sl 11 1 0 ks.length] [(11, .list 1 (intsC ks))] (.tup []) [(11, .list 1 (intsC (sortI ks)))] := (slices_Sort_spec ks (by omega)).ren (Ren.swaps [(1000, 11)]) rfl
      rw [hL1] at hs
      have hll : ks.length = L.length := by rw [← hL1]; exact (List.length_mergeSort _).symm
      refine call_mut hs rfl (by simp) (by simp) (by simp) (by simp) (by simp) (by simp [Ob.le, Ob.dim, hll]) (by simp) ?_
      simp -dsimp
      refine ⟨_, Le.refl _, [2], _, _, ⟨rfl, rfl⟩, ?_⟩
      simp -dsimp [hll]
end Go.Rt
end

/- Rows that are built from nil; loops entered by whatever step. -/
section
namespace Go.Vm
@[simp] theorem ev_pn {s : St} : s.ev (.const (.pointer none)) = .iv (.v (.pointer none)) := rfl
/-- a cell that holds a slice that is nil may as well hold an empty row of one's own -/
theorem le_own {s : St} {j i sz id : Nat} {cs : List AV} (h : look s.hp j = some (.box cs)) (hi : cs[i]? = some (.nil sz)) (hno : look s.hp id = none) (hid : id < 1000) :
    Le s ((s.add id (.list sz [])).add j (.box (cs.set i (.sl id sz 0 0)))) := by
  rintro E n a w ⟨ψ, hs⟩
  have h1 := hs.new (o := .list sz []) (p := none) (w' := w) hid hno (Ext.refl w) (fun b k e => by cases e) ⟨fun _ h => (by cases h), .inl ⟨by simp [upd], rfl⟩⟩
  have hj : j ≠ id := by rintro rfl; rw [hno] at h; cases h
  have hl : look (s.add id (.list sz [])).hp j = some (.box cs) := by rw [look_add, if_neg (Ne.symm hj)]; exact h
  obtain ⟨b, c, e, g1, g2, g3, g4⟩ := h1.obs j _ hl
  have hψ : upd ψ id none id = none := by simp [upd]
  refine ⟨_, h1.chg (o' := .box (cs.set i (.sl id sz 0 0))) hl (Ob.le_none rfl) rfl (fun h => by cases h) g1 (fun _ _ => rfl) rfl ⟨rfl, rfl, rfl⟩ fun hm _ => ⟨b, c, e, g1, g2, by simpa using g3, fun k x hx => ?_⟩⟩
  rw [List.getElem?_set] at hx
  split at hx
  · rename_i e1
    subst e1
    split at hx
    · simp only [Option.some.injEq] at hx
      subst hx
      have := g4 i _ hi
      generalize c.getD i undef = v at this
      cases this
      exact .sl0 id sz (.list sz []) 0 (by rw [look_add, if_neg hj, look_add, if_pos rfl]) rfl hψ
    · cases hx
  · exact hm x _ (g4 k x hx)

/-- a loop that counts up to a bound, entered by whatever step -/
theorem loop_idxL {P : Program} {c : VCode} {s : St} {O : Outs} (D' : List Nat) (n : Nat) (S : Nat → St) (Q : Nat → Prop) (h0 : Le s (S 0)) (q0 : Q 0)
    (hs : ∀ i, i ≤ n → Q i → wpV P c (S i) { O with n := fun s2 => i < n ∧ LeTo D' s2 (S (i + 1)) ∧ Q (i + 1) }) : loopW P c s O := by
  refine ⟨fun k s => ∃ i, i ≤ n ∧ k = n - i ∧ s = S i ∧ Q i, ⟨_, _, h0, 0, Nat.zero_le _, rfl, rfl, q0⟩, ?_⟩
  rintro k s' ⟨i, hi, rfl, rfl, hq⟩
  refine wpV_mono c (O := { O with n := fun s2 => i < n ∧ LeTo D' s2 (S (i + 1)) ∧ Q (i + 1) }) (fun s2 h => ?_) (fun _ _ h => h) (fun _ h => h) (fun _ _ h => h) (hs i hi hq)
  obtain ⟨hlt, hle, hq'⟩ := h
  exact ⟨_, _, by omega, hle.le, i + 1, hlt, rfl, rfl, hq'⟩

/-- a loop over a function, none of whose rounds leaves it, entered by whatever step -/
theorem rng_le {P : Program} {g : Operand} {ps : List Nat} {X Y : VCode} {s : St} {O : Outs} (D' : List Nat) (r : Nat) (fr : List (Nat × AV)) (I : List (List IV) → Prop) (H : List (List IV) → Hp)
    {f : FuncId} {caps : List IV} {Pre : List (List IV) → List IV → Prop} {S : List (List IV) → Prop} (hspec : ISpec P f caps Pre S) (h0 : Le s ⟨fr, H []⟩) (hg : St.ev ⟨fr, H []⟩ g = .fn f [] (caps.map CapV.val)) (hok : okFn P f = true)
    (hr : r < 1000) (hr0 : look (H []) r = none) (hnd : (fr.map (·.1)).Nodup) (hlen : ∀ pre x, Pre pre x → x.length = ps.length) (hI : I [])
    (hround : ∀ vs pre x, I pre → Pre pre x → I (pre ++ [x]) ∧ wpV P X (parS ps x ⟨fr, (r, .gh ZT vs (frCs fr)) :: H pre⟩)
      ⟨fun s' => wpV P Y s' ⟨fun s2 => LeTo D' s2 ⟨[], (r, .gh ZT vs (frCs fr)) :: H (pre ++ [x])⟩, fun _ _ => False, fun _ => False, fun _ _ => False⟩, fun _ _ => False, fun _ => False, fun _ _ => False⟩)
    (hend : ∀ vs xs, I xs → S xs → O.n ⟨fr, (r, .gh ZT vs (frCs fr)) :: H xs⟩) : rngW P g ps X Y s O := by
  refine ⟨f, caps, Pre, S, r, fr, I, H, fun _ _ => true, fun _ _ => [], ⟨h0, hg, hok, hspec, hr, hr0, hnd, hlen, hI⟩, fun vs pre x q1 q2 _ => ⟨(hround vs pre x q1 q2).1, ?_⟩, fun _ _ _ _ _ h => (by cases h), fun vs xs q1 q2 => ⟨_, Le.refl _, hend vs xs q1 q2⟩⟩
  refine wpV_mono X ?_ ?_ ?_ ?_ (hround vs pre x q1 q2).2
  · intro s h
    refine wpV_mono Y ?_ ?_ ?_ ?_ h
    · exact fun s2 h => h.le
    · exact fun _ _ h => h
    · exact fun _ h => h
    · exact fun _ _ h => h
  · exact fun _ _ h => h
  · exact fun _ h => h
  · exact fun _ _ h => h
end Go.Vm
end

/- A timer: its data, and who waits, in order, as a function that is ranged over. -/
section
namespace Go.Rt
open Go.Vm

/-- since when somebody waits -/
def atL (L : List (Int × Int)) (o : Int) : Option Int := (L.find? fun p => decide (p.1 = o)).map (·.2)
/-- who waits, as a map -/
def gL (L : List (Int × Int)) : List Value → Option (List IV)
  | [.int .i64 o] => (atL L o).map fun a => [ci a]
  | _ => none
def tmIV (now : Int) (L : List (Int × Int)) : IV := .pt [ci now, .mp skS (gL L)]
structure TmOk (now : Int) (L : List (Int × Int)) : Prop where
  now0 : 0 ≤ now
  now1 : now ≤ 1099511627776
  at0 : ∀ p ∈ L, 0 ≤ p.2 ∧ p.2 ≤ now
  rise : (L.map (·.1)).Pairwise (· < ·)
  len : L.length < 2 ^ 31
theorem atL_mem {L : List (Int × Int)} {o a : Int} (h : atL L o = some a) : (o, a) ∈ L := by
  unfold atL at h
  obtain ⟨p, h1, rfl⟩ := Option.map_eq_some_iff.1 h
  have := List.find?_some h1
  have h2 := List.mem_of_find?_eq_some h1
  simp only [decide_eq_true_eq] at this
  rw [← this]; exact h2
theorem atL_none {L : List (Int × Int)} {o : Int} : atL L o = none ↔ ∀ p ∈ L, p.1 ≠ o := by
  unfold atL
  rw [Option.map_eq_none_iff, List.find?_eq_none]
  simp
theorem atL_of {L : List (Int × Int)} (hr : (L.map (·.1)).Pairwise (· < ·)) {p : Int × Int} (hp : p ∈ L) : atL L p.1 = some p.2 := by
  cases h : atL L p.1 with
  | none => exact absurd rfl (atL_none.1 h p hp)
  | some a =>
    have hm := atL_mem h
    have : ∀ {L : List (Int × Int)}, (L.map (·.1)).Pairwise (· < ·) → ∀ p ∈ L, ∀ q ∈ L, p.1 = q.1 → p = q := by
      intro L
      induction L with
      | nil => intro _ p hp; cases hp
      | cons x L ih =>
        intro hr p hp q hq e
        simp only [List.map_cons, List.pairwise_cons, List.mem_map, forall_exists_index, and_imp, forall_apply_eq_imp_iff₂] at hr
        rcases List.mem_cons.1 hp with rfl | hp <;> rcases List.mem_cons.1 hq with rfl | hq
        · rfl
        · have := hr.1 q hq; omega
        · have := hr.1 _ ‹_ ∈ L›; omega
        · exact ih hr.2 p hp q hq e
    have := this hr _ hp _ hm rfl
    exact congrArg some (congrArg Prod.snd this).symm
theorem keys_gL {L : List (Int × Int)} : KeysOf (gL L) (L.map (·.1)) := by
  intro q
  unfold gL
  split
  · rename_i o
    constructor
    · intro h
      cases ha : atL L o with
      | none => rw [ha] at h; exact absurd rfl h
      | some a => exact ⟨o, List.mem_map.2 ⟨_, atL_mem ha, rfl⟩, rfl⟩
    · rintro ⟨k, hk, e⟩ h
      simp only [List.cons.injEq, Value.int.injEq, true_and, and_true] at e
      subst e
      obtain ⟨p, hp, e⟩ := List.mem_map.1 hk
      have h : atL L o = none := by simpa using h
      exact atL_none.1 h p hp e
  · rename_i hq
    refine ⟨fun h => absurd rfl h, ?_⟩
    rintro ⟨k, hk, rfl⟩
    exact absurd rfl (hq k)

theorem nodup_le : ∀ {ks L : List Int}, ks.Nodup → (∀ j ∈ ks, j ∈ L) → ks.length ≤ L.length
  | [], _, _, _ => Nat.zero_le _
  | k :: ks, L, h, hs => by
    have hk := hs k List.mem_cons_self
    have h2 := List.nodup_cons.1 h
    have := nodup_le (ks := ks) (L := L.erase k) h2.2 fun j hj => (List.mem_erase_of_ne (fun (e : j = k) => h2.1 (by rw [← e]; exact hj))).2 (hs j (List.mem_cons_of_mem _ hj))
    rw [List.length_erase_of_mem hk] at this
    have := List.length_pos_of_mem hk
    simp only [List.length_cons]
    omega
/-- the keys of a map, sorted -/
theorem Sorted_keys {g : List Value → Option (List IV)} {L : List Int} (h : KeysOf g L) (hL : L.Pairwise (· < ·)) (hlen : L.length < 2 ^ 32) (d : Nat) :
    GSpec prog true n_slices_Sorted_int [.fn n_maps_Keys_map_int_int_int_int_1 [] [.val (.pt [.mp skS g])]] [] (.sl d 1 0 L.length) [(d, .list 1 (intsC L))] := by
  refine (slices_Sorted_spec (caps := [.pt [.mp skS g]]) (keys1_ispec h) (by kernel_rfl) ?_ ?_).freshL d (by simp [AV.shal, AV.shal2, AV.shal1]) (fun ρ => by simp [AV.ren, AV.ren2, AV.ren1, CapV.ren])
  · rintro pre x ⟨ks, k, rfl, rfl, h1, h2⟩
    refine ⟨ks, k, rfl, rfl, ?_⟩
    have := nodup_le h1 h2
    simp at this
    omega
  · rintro ks ⟨ks', e, h1, h2⟩
    have e : ks = ks' := by have := congrArg intsOf e; rwa [intsOf_krows, intsOf_krows] at this
    subst e
    exact ⟨sorted_same h1 h2 hL, by have := nodup_le h1 fun j hj => (h2 j).1 hj; omega⟩
theorem maps_Keys_at (g : List Value → Option (List IV)) (d : Nat) : GSpec prog false n_maps_Keys_map_int_int_int_int [.iv (.mp skS g)] [] (.fn n_maps_Keys_map_int_int_int_int_1 [] [.ptr d 0]) [(d, .box [.iv (.mp skS g)])] := by
  have h := ((maps_Keys_spec g).one (fun _ _ h => h) (fun id o ho => by
    simp only [Vm.look] at ho
    split at ho
    · cases ho; rfl
    · cases ho)).ren (Ren.swap 1 d) (by simp [AV.shal, AV.shal2, AV.shal1, Ob.shal])
  have e : (Ren.swap 1 d).to 1 = d := by simp [Ren.swap, swapN]
  simpa [Hp.ren, AV.ren, AV.ren2, AV.ren1, Ob.ren, CapV.ren, e] using h

/-- what the timer tells, one after the other -/
def wRow (now : Int) (p : Int × Int) : List IV := [ci p.1, ci (now - p.2)]
def PreW (now : Int) (L : List (Int × Int)) (pre : List (List IV)) (x : List IV) : Prop := ∃ i p, L[i]? = some p ∧ pre = (L.take i).map (wRow now) ∧ x = wRow now p
def AllW (now : Int) (L : List (Int × Int)) (xs : List (List IV)) : Prop := xs = L.map (wRow now)

set_option maxRecDepth 8000 in
set_option maxHeartbeats 4000000 in
theorem waiting1_ispec {now : Int} {L : List (Int × Int)} (ok : TmOk now L) : ISpec prog n_timer_Timer_waiting_1 [.pt [tmIV now L]] (PreW now L) (AllW now L) := by
  intro l Zs Zx cont hy
  refine gspecI timer_Timer_waiting_1_is (by simp) (by decide) ?_
  have hlen := ok.len
  simp -dsimp [timer_Timer_waiting_1, tmIV]
  refine call_newC (maps_Keys_at (gL L) 9) (by decide) rfl (by simp) (by simp) ?_
  simp -dsimp
  refine call_new (Sorted_keys (keys_gL (L := L)) ok.rise (by simp; omega) 10) (by decide) (by simp) (by simp) ?_
  simp -dsimp
  refine loop_idx [9] [] L.length (fun i => ⟨[(12, vi i), (11, vi L.length), (10, .sl 10 1 0 L.length), (1, .iv (.pt [.pt [ci now, .mp skS (gL L)]])), (0, .iv (.v (.func (.yield l) #[] #[])))],
    [(10, .list 1 (intsC (L.map (·.1)))), (1000, .gh (Zs ((L.take i).map (wRow now))) [] [])]⟩) (fun _ => True) ?_ trivial ?_
  · simp
  · intro i hi _
    by_cases hil : i < L.length
    · have hil2 : ¬L.length ≤ i := by omega
      obtain ⟨p, hp⟩ := some_at hil
      have hiw := wrap_in (n := (i : Int) + 1) (by omega)
      have hpm := List.mem_of_getElem? hp
      have hat := atL_of ok.rise hpm
      have hg : gL L [.int .i64 p.1] = some [ci p.2] := by simp [gL, hat]
      obtain ⟨a0, a1⟩ := ok.at0 p hpm
      have h0 := ok.now0
      have h1 := ok.now1
      have hws : IntKind.i64.wrap (now - p.2) = now - p.2 := by rw [IntKind.wrap_i64]; omega
      simp -dsimp [timer_Timer_waiting_1_l5, hil2, hp, hg, hws]
      intro _
      refine ⟨hil, ?_⟩
      have hpre : PreW now L ((L.take i).map (wRow now)) (wRow now p) := ⟨i, p, hp, rfl, rfl⟩
      refine yield_ok (g := 1000) (hy _ _ hpre) (by simp) (by simp [wRow]) ?_
      have hnx : (L.take i).map (wRow now) ++ [wRow now p] = (L.take (i + 1)).map (wRow now) := by rw [List.take_add_one, hp]; simp
      rw [← List.map_take]
      cases hc : cont ((L.take i).map (wRow now)) (wRow now p) with
      | true =>
        have hnx' : List.take i (List.map (wRow now) L) ++ [wRow now p] = List.take (i + 1) (List.map (wRow now) L) := by rw [← List.map_take, hnx, List.map_take]
        simp -dsimp [hc, hiw, hnx']
        exact hil
      | false =>
        simp -dsimp [hc]
        exact ⟨Zx (List.take i (List.map (wRow now) L)) (wRow now p), by simp, fun A B w hz => .inr ⟨_, _, hz⟩, by simp⟩
    · have hie : i = L.length := by omega
      subst hie
      simp -dsimp [timer_Timer_waiting_1_l5]
      exact ⟨Zs (L.map (wRow now)), by simp, fun A B w hz => .inl ⟨_, rfl, hz⟩, by simp⟩
end Go.Rt
end

/- A timer: who is due. -/
section
namespace Go.Rt
open Go.Vm

/-- who is due -/
def dueL (now : Int) (L : List (Int × Int)) (lim : Int) : List Int := (L.filter fun p => decide (lim ≤ now - p.2)).map (·.1)
theorem waiting_at (now : Int) (L : List (Int × Int)) (d : Nat) : GSpec prog false n_timer_Timer_waiting [.iv (tmIV now L)] [] (.fn n_timer_Timer_waiting_1 [] [.ptr d 0]) [(d, .box [.iv (tmIV now L)])] := by
  have h : GSpecN prog false n_timer_Timer_waiting [.iv (tmIV now L)] [] (fun r K => r = .fn n_timer_Timer_waiting_1 [] [.ptr 1 0] ∧ K = [(1, .box [.iv (tmIV now L)])]) := by
    refine gspecR _ timer_Timer_waiting_is (by simp) (by decide) (fun x H' h => by
      obtain ⟨rfl, rfl⟩ := h
      refine ⟨fun id o ho => ?_, by simp⟩
      simp only [Vm.look] at ho
      split at ho
      · cases ho; rfl
      · cases ho) ?_
    simp -dsimp [timer_Timer_waiting, tmIV]
    exact ⟨[], _, _, ⟨rfl, rfl⟩, by simp -dsimp⟩
  have h := (h.one (fun _ _ h => h) (fun id o ho => by
    simp only [Vm.look] at ho
    split at ho
    · cases ho; rfl
    · cases ho)).ren (Ren.swap 1 d) (by simp [AV.shal, AV.shal2, AV.shal1, Ob.shal])
  have e : (Ren.swap 1 d).to 1 = d := by simp [Ren.swap, swapN]
  simpa [Hp.ren, AV.ren, AV.ren2, AV.ren1, Ob.ren, CapV.ren, e] using h
/-- those told so far who are due -/
def dueR (lim : Int) (p : List (List IV)) : List Int := p.filterMap fun x => match x with
  | [.v (.int .i64 o), .v (.int .i64 n)] => if lim ≤ n then some o else none
  | _ => none
theorem dueR_w (lim now : Int) (L : List (Int × Int)) : dueR lim (L.map (wRow now)) = dueL now L lim := by
  induction L with
  | nil => rfl
  | cons p L ih =>
    unfold dueR dueL at *
    simp only [List.map_cons, List.filterMap_cons, wRow, List.filter_cons, ih]
    by_cases h : lim ≤ now - p.2
    · simp [h]
    · simp [h]
theorem dueR_snoc (lim : Int) (p : List (List IV)) (o n : Int) : dueR lim (p ++ [[ci o, ci n]]) = if lim ≤ n then dueR lim p ++ [o] else dueR lim p := by
  unfold dueR
  rw [List.filterMap_append]
  by_cases h : lim ≤ n <;> simp [h]

set_option maxRecDepth 8000 in
set_option maxHeartbeats 4000000 in
theorem timer_Due_spec {now : Int} {L : List (Int × Int)} (ok : TmOk now L) (lim : Int) (d : Nat) :
    GSpec prog true n_timer_Timer_Due [.iv (tmIV now L), vi lim] [] (.sl d 1 0 (dueL now L lim).length) [(d, .list 1 (intsC (dueL now L lim)))] := by
  have hlen := ok.len
  have hcl : (intsC (dueL now L lim)).length = (dueL now L lim).length := by simp
  rw [← hcl]
  refine (gspecN 21 1 (intsC (dueL now L lim)) timer_Timer_Due_is (by simp) (by decide) (by simp [intsC, IV.flat]) ?_).fresh d (by simp [AV.shal, AV.shal2, AV.shal1]) (fun ρ => by simp [AV.ren, AV.ren2, AV.ren1])
  simp -dsimp [timer_Timer_Due, tmIV]
  refine call_newC (waiting_at now L 12) (by decide) rfl (by simp [tmIV]) (by simp) ?_
  simp -dsimp [tmIV]
  refine rng_le [20] 990 [(5, .ptr 5 0), (3, .ptr 3 0), (12, .fn n_timer_Timer_waiting_1 [] [.val (.pt [tmIV now L])])] (fun _ => True) (fun p => [(5, .box [.sl 21 1 0 (dueR lim p).length]), (21, .list 1 (intsC (dueR lim p))), (3, .box [.iv (ci lim)])]) (waiting1_ispec ok) ?_ (by simp) (by kernel_rfl) (by decide) (by simp) (by simp) ?_ trivial ?_ ?_
  · refine (le_own (j := 5) (i := 0) (id := 21) (sz := 1) rfl rfl rfl (by decide)).trans (LeTo.le (D := [12, 4]) ?_)
    simp -dsimp only [St.add, dueR, intsC, tmIV, St.set_mk]
    simp -dsimp
  · rintro pre x ⟨i, p, hp, rfl, rfl⟩
    rfl
  · rintro vs pre x - ⟨i, p, hp, rfl, rfl⟩
    refine ⟨trivial, ?_⟩
    have hs := dueR_snoc lim ((L.take i).map (wRow now)) p.1 (now - p.2)
    have hll : (dueR lim ((L.take i).map (wRow now))).length < 2 ^ 31 := by
      have h1 : (dueR lim ((L.take i).map (wRow now))).length ≤ ((L.take i).map (wRow now)).length := List.length_filterMap_le _ _
      have h2 : ((L.take i).map (wRow now)).length ≤ L.length := by simp; omega
      omega
    generalize dueR lim ((L.take i).map (wRow now)) = R at hs hll
    by_cases hc : lim ≤ now - p.2
    · rw [if_pos hc] at hs
      simp -dsimp [timer_Timer_Due_a9, timer_Timer_Due_b10, parS, St.set_mk, wRow, frCs, hc]
      rw [← List.map_take, hs]
      refine ⟨by omega, by omega, by simp, by simp [intsC]⟩
    · rw [if_neg hc] at hs
      simp -dsimp [timer_Timer_Due_a9, timer_Timer_Due_b10, parS, St.set_mk, wRow, frCs, hc]
      rw [← List.map_take, hs]
      exact ⟨rfl, rfl⟩
  · rintro vs xs - rfl
    rw [dueR_w]
    simp -dsimp [frCs]
end Go.Rt
end

/- A timer: begun, asked, moved on. -/
section
namespace Go.Vm
theorem call_newH {P : Program} {d : Nat} {f : FuncId} {ops : List Operand} {s s1 : St} {K : St → AV → Prop} {args : List AV} {res : AV} {H' : Hp} (h : GSpec P false f args [] res H')
    (hs1 : (s.frz ((s.args [] ops []).filter fun x => !x.inns [])).drop d = s1)
    (ha : ((s1.args [] ops []).map (s1.arg false [])) = args) (hr : args.all (AV.inns []) = true) (hn : keysB H' (H'.map (·.1)) = true) (hf : H'.all (fun p => decide (p.1 < 1000) && (look s1.hp p.1).isNone) = true)
    (hk : K (s1.join H') res) : callW P d f [] ops [] none s K := by
  refine callK_of ⟨s, Le.refl s, false, [], res, H', s1, hs1.symm, trivial, { spec := ?_, refs := ?_, sub := fun _ _ h => ?_, own := fun _ _ h => ?_, keep := fun _ _ h => ?_, new := fun id o h1 _ => ?_ }, hk⟩
  · rw [List.map_nil]; rw [ha]; exact h
  · rw [List.map_nil]; rw [ha]; exact hr
  · cases h
  · cases h
  · cases h
  · have := List.all_eq_true.1 hf _ (look_some_mem h1)
    simp only [Bool.and_eq_true, decide_eq_true_eq, Option.isNone_iff_eq_none] at this
    exact ⟨this.2, this.1⟩
end Go.Vm
namespace Go.Rt
open Go.Vm

theorem New_spec : GSpec prog false n_timer_New [] [] (.ptr 3 0) [(3, .box [.iv (ci 0), .mpr 1]), (1, .map skS (gL []))] := by
  have hg : gL [] = fun _ => none := by
    funext q; unfold gL; split <;> simp [atL]
  have h : GSpecN prog false n_timer_New [] [] (fun r K => r = .ptr 3 0 ∧ K = [(3, .box [.iv (ci 0), .mpr 1]), (1, .map skS (gL []))]) := by
    rw [hg]
    refine gspecR _ timer_New_is (by simp) (by decide) (fun x H' h => by
      obtain ⟨rfl, rfl⟩ := h
      refine ⟨fun id o ho => ?_, by simp⟩
      simp only [Vm.look] at ho
      split at ho
      · cases ho; rfl
      · split at ho
        · cases ho; rfl
        · cases ho) ?_
    simp -dsimp [timer_New]
    exact ⟨[], _, _, ⟨rfl, rfl⟩, by simp -dsimp⟩
  exact h.one (fun _ _ h => h) (fun id o ho => by
    simp only [Vm.look] at ho
    split at ho
    · cases ho; rfl
    · split at ho
      · cases ho; rfl
      · cases ho)
theorem Now_spec (now : Int) (L : List (Int × Int)) : GSpec prog true n_timer_Timer_Now [.iv (tmIV now L)] [] (vi now) [] := by
  refine gspec1 timer_Timer_Now_is (by simp) (by decide) rfl ?_
  simp -dsimp [timer_Timer_Now, tmIV]
/-- for how many ticks somebody has waited -/
def sinceN (now : Int) (L : List (Int × Int)) (o : Int) : Int := ((atL L o).map fun a => now - a).getD 0
def sinceB (L : List (Int × Int)) (o : Int) : Bool := (atL L o).isSome
theorem Since_spec {now : Int} {L : List (Int × Int)} (ok : TmOk now L) (o : Int) : GSpec prog true n_timer_Timer_Since [.iv (tmIV now L), vi o] [] (.tup [vi (sinceN now L o), .iv (.v (.bool (sinceB L o)))]) [] := by
  refine gspec2 timer_Timer_Since_is (by simp) (by decide) rfl rfl ?_
  unfold sinceN sinceB
  cases h : atL L o with
  | none =>
    simp -dsimp [timer_Timer_Since, tmIV, gL, h]
  | some a =>
    obtain ⟨a0, a1⟩ := ok.at0 _ (atL_mem h)
    have h0 := ok.now0
    have h1 := ok.now1
    have hws : IntKind.i64.wrap (now - a) = now - a := by rw [IntKind.wrap_i64]; simp only at a0 a1; omega
    simp -dsimp [timer_Timer_Since, tmIV, gL, h, hws]

def passN (now t : Int) : Int := min (now + min (max t 0) 1000) 1099511627776
def insL (L : List (Int × Int)) (o a : Int) : List (Int × Int) := L.filter (fun p => decide (p.1 < o)) ++ (o, a) :: L.filter (fun p => decide (o < p.1))
def startL (now : Int) (L : List (Int × Int)) (o : Int) : List (Int × Int) := if (atL L o).isSome then L else insL L o now
def stopL (L : List (Int × Int)) (o : Int) : List (Int × Int) := L.filter fun p => decide (p.1 ≠ o)
theorem atL_stop {L : List (Int × Int)} (hr : (L.map (·.1)).Pairwise (· < ·)) (o k : Int) : atL (stopL L o) k = if k = o then none else atL L k := by
  split
  · rename_i e
    subst e
    exact atL_none.2 fun p hp => by simpa using (List.mem_filter.1 hp).2
  · rename_i e
    unfold atL stopL
    rw [List.find?_filter]
    congr 2
    funext p
    by_cases hp : p.1 = k
    · simp [hp, e]
    · simp [hp]
theorem atL_ins {L : List (Int × Int)} (o a k : Int) (ho : atL L o = none) : atL (insL L o a) k = if k = o then some a else atL L k := by
  unfold atL insL at *
  rw [List.find?_append, List.find?_cons, List.find?_filter, List.find?_filter]
  rw [Option.map_eq_none_iff, List.find?_eq_none] at ho
  by_cases e : k = o
  · subst e
    have : L.find? (fun p => decide (decide (p.1 < k) = true ∧ decide (p.1 = k) = true)) = none := by
      rw [List.find?_eq_none]
      intro p hp
      simp
      omega
    simp only [this, decide_true]
    rfl
  · have e' : ¬o = k := fun h => e h.symm
    simp only [e', e, decide_false, if_false]
    by_cases hk : k < o
    · have h1 : (fun p : Int × Int => decide (decide (p.1 < o) = true ∧ decide (p.1 = k) = true)) = fun p => decide (p.1 = k) := by
        funext p
        by_cases hp : p.1 = k
        · simp [hp, hk]
        · simp [hp]
      have h2 : L.find? (fun p => decide (decide (o < p.1) = true ∧ decide (p.1 = k) = true)) = none := by
        rw [List.find?_eq_none]
        intro p hp
        simp
        omega
      rw [h1, h2]
      simp
    · have h1 : (fun p : Int × Int => decide (decide (o < p.1) = true ∧ decide (p.1 = k) = true)) = fun p => decide (p.1 = k) := by
        funext p
        by_cases hp : p.1 = k
        · simp [hp]; omega
        · simp [hp]
      have h2 : L.find? (fun p => decide (decide (p.1 < o) = true ∧ decide (p.1 = k) = true)) = none := by
        rw [List.find?_eq_none]
        intro p hp
        simp
        omega
      rw [h1, h2]
      simp
theorem gset_stop {L : List (Int × Int)} (hr : (L.map (·.1)).Pairwise (· < ·)) (o : Int) : gset (gL L) [.int .i64 o] none = gL (stopL L o) := by
  funext q
  unfold gset gL
  split
  · rename_i e; subst e
    simp [atL_stop hr]
  · rename_i hq
    split
    · rename_i k
      have : k ≠ o := fun h => hq (by rw [h])
      rw [atL_stop hr, if_neg this]
    · rfl
theorem gset_start {L : List (Int × Int)} (o a : Int) (ho : atL L o = none) : gset (gL L) [.int .i64 o] (some [ci a]) = gL (insL L o a) := by
  funext q
  unfold gset gL
  split
  · rename_i e; subst e
    simp [atL_ins o a _ ho]
  · rename_i hq
    split
    · rename_i k
      have : k ≠ o := fun h => hq (by rw [h])
      rw [atL_ins o a _ ho, if_neg this]
    · rfl
abbrev tmH (d m : Nat) (now : Int) (L : List (Int × Int)) : Hp := [(d, .box [.iv (ci now), .mpr m]), (m, .map skS (gL L))]
theorem Pass_spec {now : Int} {L : List (Int × Int)} (ok : TmOk now L) (t : Int) : GSpec prog false n_timer_Timer_Pass [.ptr 1000 0, vi t] (tmH 1000 1001 now L) (.tup []) (tmH 1000 1001 (passN now t) L) := by
  refine gspecM timer_Timer_Pass_is (by simp) (by decide) (by simp [tmH]) (by simp [tmH, Ob.isLent]) ?_
  have h0 := ok.now0
  have h1 := ok.now1
  have hw : IntKind.i64.wrap (now + min (max t 0) 1000) = now + min (max t 0) 1000 := by rw [IntKind.wrap_i64]; omega
  simp -dsimp [timer_Timer_Pass, tmH, hw]
  rfl
theorem Start_spec {now : Int} {L : List (Int × Int)} (o : Int) : GSpec prog false n_timer_Timer_Start [.ptr 1000 0, vi o] (tmH 1000 1001 now L) (.tup []) (tmH 1000 1001 now (startL now L o)) := by
  refine gspecM timer_Timer_Start_is (by simp) (by decide) (by simp [tmH]) (by simp [tmH, Ob.isLent]) ?_
  unfold startL
  cases h : atL L o with
  | none =>
    simp -dsimp [timer_Timer_Start, tmH, gL, h]
    exact gset_start o now h
  | some a =>
    simp -dsimp [timer_Timer_Start, tmH, gL, h]
theorem Stop_spec {now : Int} {L : List (Int × Int)} (ok : TmOk now L) (o : Int) : GSpec prog false n_timer_Timer_Stop [.ptr 1000 0, vi o] (tmH 1000 1001 now L) (.tup []) (tmH 1000 1001 now (stopL L o)) := by
  refine gspecM timer_Timer_Stop_is (by simp) (by decide) (by simp [tmH]) (by simp [tmH, Ob.isLent]) ?_
  simp -dsimp [timer_Timer_Stop, tmH, gset_stop ok.rise]
end Go.Rt
end

/- A timer that is none; the timer by definition; the example. -/
section
namespace Go.Rt
open Go.Vm

theorem ok_new : TmOk 0 [] := ⟨by decide, by decide, by simp, by simp, by simp⟩
theorem pass_ge (now t : Int) (h : now ≤ 1099511627776) : now ≤ passN now t ∧ passN now t ≤ 1099511627776 := by unfold passN; omega
theorem ok_pass {now : Int} {L : List (Int × Int)} (ok : TmOk now L) (t : Int) : TmOk (passN now t) L := by
  obtain ⟨h1, h2⟩ := pass_ge now t ok.now1
  refine ⟨by have := ok.now0; omega, h2, fun p hp => ?_, ok.rise, ok.len⟩
  have := ok.at0 p hp
  omega
theorem ok_stop {now : Int} {L : List (Int × Int)} (ok : TmOk now L) (o : Int) : TmOk now (stopL L o) := by
  refine ⟨ok.now0, ok.now1, fun p hp => ok.at0 p (List.mem_filter.1 hp).1, ?_, Nat.lt_of_le_of_lt (List.length_filter_le _ _) ok.len⟩
  exact ok.rise.sublist ((List.filter_sublist (p := fun p : Int × Int => decide (p.1 ≠ o))).map _)
theorem mem_ins {L : List (Int × Int)} {o a : Int} {p : Int × Int} (h : p ∈ insL L o a) : p ∈ L ∨ p = (o, a) := by
  unfold insL at h
  simp only [List.mem_append, List.mem_cons, List.mem_filter] at h
  rcases h with h | h | h
  · exact .inl h.1
  · exact .inr h
  · exact .inl h.1
theorem len_ins (L : List (Int × Int)) (o a : Int) : (insL L o a).length ≤ L.length + 1 := by
  unfold insL
  induction L with
  | nil => simp
  | cons p L ih =>
    simp only [List.filter_cons, List.length_append, List.length_cons] at *
    by_cases h1 : p.1 < o
    · have : ¬o < p.1 := by omega
      simp [h1, this] at *; omega
    · by_cases h2 : o < p.1
      · simp [h1, h2] at *; omega
      · simp [h1, h2] at *; omega
theorem rise_ins {L : List (Int × Int)} (h : (L.map (·.1)).Pairwise (· < ·)) (o a : Int) : ((insL L o a).map (·.1)).Pairwise (· < ·) := by
  unfold insL
  rw [List.map_append, List.map_cons, List.pairwise_append, List.pairwise_cons]
  refine ⟨h.sublist (List.filter_sublist.map _), ⟨?_, h.sublist (List.filter_sublist.map _)⟩, ?_⟩
  · intro k hk
    obtain ⟨p, hp, rfl⟩ := List.mem_map.1 hk
    simpa using (List.mem_filter.1 hp).2
  · intro k hk j hj
    obtain ⟨p, hp, rfl⟩ := List.mem_map.1 hk
    have h1 : p.1 < o := by simpa using (List.mem_filter.1 hp).2
    rcases List.mem_cons.1 hj with rfl | hj
    · exact h1
    · obtain ⟨q, hq, rfl⟩ := List.mem_map.1 hj
      have h2 : o < q.1 := by simpa using (List.mem_filter.1 hq).2
      omega
theorem ok_start {now : Int} {L : List (Int × Int)} (ok : TmOk now L) (o : Int) (hl : L.length + 1 < 2 ^ 31) : TmOk now (startL now L o) := by
  unfold startL
  split
  · exact ok
  · refine ⟨ok.now0, ok.now1, fun p hp => ?_, rise_ins ok.rise o now, by have := len_ins L o now; omega⟩
    rcases mem_ins hp with hp | rfl
    · exact ok.at0 p hp
    · exact ⟨ok.now0, Int.le_refl _⟩
theorem len_start (now : Int) (L : List (Int × Int)) (o : Int) : (startL now L o).length ≤ L.length + 1 := by
  unfold startL
  split
  · omega
  · exact len_ins L o now
theorem len_stop (L : List (Int × Int)) (o : Int) : (stopL L o).length ≤ L.length := List.length_filter_le _ _

/- none -/
abbrev nilP : AV := .iv (.v (.pointer none))
theorem Now_nil : GSpec prog true n_timer_Timer_Now [nilP] [] (vi 0) [] := by
  refine gspec1 timer_Timer_Now_is (by simp) (by decide) rfl ?_
  simp -dsimp [timer_Timer_Now]
theorem Since_nil (o : Int) : GSpec prog true n_timer_Timer_Since [nilP, vi o] [] (.tup [vi 0, .iv (.v (.bool false))]) [] := by
  refine gspec2 timer_Timer_Since_is (by simp) (by decide) rfl rfl ?_
  simp -dsimp [timer_Timer_Since]
theorem Pass_nil (t : Int) : GSpec prog false n_timer_Timer_Pass [nilP, vi t] [] (.tup []) [] := by
  refine gspecM timer_Timer_Pass_is (by simp) (by decide) (by simp) (by simp) ?_
  simp -dsimp [timer_Timer_Pass]
theorem Start_nil (t : Int) : GSpec prog false n_timer_Timer_Start [nilP, vi t] [] (.tup []) [] := by
  refine gspecM timer_Timer_Start_is (by simp) (by decide) (by simp) (by simp) ?_
  simp -dsimp [timer_Timer_Start]
theorem Stop_nil (t : Int) : GSpec prog false n_timer_Timer_Stop [nilP, vi t] [] (.tup []) [] := by
  refine gspecM timer_Timer_Stop_is (by simp) (by decide) (by simp) (by simp) ?_
  simp -dsimp [timer_Timer_Stop]
theorem Due_nil (t : Int) : GSpec prog false n_timer_Timer_Due [nilP, vi t] [] (.iv (intsIV [])) [] := by
  refine gspec1V timer_Timer_Due_is (by simp) (by decide) ?_
  simp -dsimp [timer_Timer_Due]
  exact ⟨[], by simp [EndV, AV.ivc, intsIV, intsC]⟩

theorem take_next' {α : Type} {l : List α} {i : Nat} {x : α} (h : l[i]? = some x) : l.take (i + 1) = l.take i ++ [x] := by
  rw [List.take_add_one, h]; rfl
theorem ref10_Ints_spec (a b : List Int) (hl : a.length < 2 ^ 63) : GSpec prog true n_ratlineref10_Ints [.iv (intsIV a), .iv (intsIV b)] [] (vb (decide (a = b))) [] := by
  refine gspec1 ratlineref10_Ints_is (by simp) (by decide) rfl ?_
  by_cases hlen : a.length = b.length
  · have hlen' : (a.length : Int) = b.length := by omega
    simp -dsimp [ratlineref10_Ints, intsIV, hlen']
    refine loop_idx [] [] b.length (fun i => ⟨[(5, vi i), (0, .iv (.lst 1 (intsC a))), (1, .iv (.lst 1 (intsC b)))], []⟩) (fun i => a.take i = b.take i) ?_ ?_ ?_
    · simp -dsimp
    · simp
    · intro i hi hq
      simp -dsimp [ratlineref10_Ints_l8, hlen']
      refine ⟨fun hlt => ?_, fun hge => ?_⟩
      · obtain ⟨x, hx⟩ : ∃ x, a[i]? = some x := some_at (by omega)
        obtain ⟨y, hy⟩ := some_at hlt
        have hw := wrap_in (n := (i : Int) + 1) (by omega)
        simp -dsimp [hx, hy, hw]
        refine ⟨fun g e => ?_, fun g => ⟨hlt, by rw [take_next' hx, take_next' hy, hq, g]⟩⟩
        subst e; rw [hx] at hy; cases hy; exact g rfl
      · rw [List.take_of_length_le (by omega), List.take_of_length_le hge] at hq
        simpa using hq
  · have hne : ¬a = b := fun g => hlen (by rw [g])
    have hlen' : ¬(a.length : Int) = b.length := by omega
    simp -dsimp [ratlineref10_Ints, intsIV, hlen', hne]

/- with the timer under the names that New gives it -/
abbrev tm3 (now : Int) (L : List (Int × Int)) : Hp := [(3, .box [.iv (ci now), .mpr 1]), (1, .map skS (gL L))]
theorem Pass_at {now : Int} {L : List (Int × Int)} (ok : TmOk now L) (t : Int) : GSpec prog false n_timer_Timer_Pass [.ptr 3 0, vi t] (tm3 now L) (.tup []) (tm3 (passN now t) L) := (Pass_spec ok t).ren (Ren.swaps [(1000, 3), (1001, 1)]) rfl
theorem Start_at (now : Int) (L : List (Int × Int)) (o : Int) : GSpec prog false n_timer_Timer_Start [.ptr 3 0, vi o] (tm3 now L) (.tup []) (tm3 now (startL now L o)) := (Start_spec o).ren (Ren.swaps [(1000, 3), (1001, 1)]) rfl
theorem Stop_at {now : Int} {L : List (Int × Int)} (ok : TmOk now L) (o : Int) : GSpec prog false n_timer_Timer_Stop [.ptr 3 0, vi o] (tm3 now L) (.tup []) (tm3 now (stopL L o)) := (Stop_spec ok o).ren (Ren.swaps [(1000, 3), (1001, 1)]) rfl

set_option maxRecDepth 8000 in
set_option maxHeartbeats 4000000 in
theorem awake_spec : GSpec prog true n_ratlinelaw13_awake [] [] (vb true) [] := by
  refine gspec1 ratlinelaw13_awake_is (by simp) (by decide) rfl ?_
  have k1 := ok_start ok_new 3 (by decide)
  have k2 := ok_pass k1 4
  have k3 := ok_start k2 1 (by decide)
  have k4 := ok_pass k3 1
  simp -dsimp [ratlinelaw13_awake]
  refine call_newH New_spec rfl (by simp) (by simp) (by simp) (by simp) ?_
  simp -dsimp
  refine call_mut (Start_at 0 [] 3) rfl (by simp) (by simp) (by simp) (by simp) (by simp) (by simp) (by simp) ?_
  simp -dsimp
  refine call_mut (Pass_at k1 4) rfl (by simp) (by simp) (by simp) (by simp) (by simp) (by simp) (by simp) ?_
  simp -dsimp
  refine call_mut (Start_at (passN 0 4) (startL 0 [] 3) 1) rfl (by simp) (by simp) (by simp) (by simp) (by simp) (by simp) (by simp) ?_
  simp -dsimp
  refine call_mut (Pass_at k3 1) rfl (by simp) (by simp) (by simp) (by simp) (by simp) (by simp) (by simp) ?_
  simp -dsimp
  have e1 : passN (passN 0 4) 1 = 5 := by decide
  have e2 : startL (passN 0 4) (startL 0 [] 3) 1 = [(1, 4), (3, 0)] := by decide
  rw [e1, e2]
  rw [e1, e2] at k4
  refine call_pure (Now_spec 5 [(1, 4), (3, 0)]) (by simp [tmIV]) (by simp [tmIV]) ?_
  simp -dsimp
  have d1 : dueL 5 [(1, 4), (3, 0)] 5 = [3] := by decide
  have d2 : dueL 5 [(1, 4), (3, 0)] 1 = [1, 3] := by decide
  have s1 := timer_Due_spec k4 5 16
  have s2 := timer_Due_spec k4 1 22
  rw [d1] at s1
  rw [d2] at s2
  refine call_new s1 (by decide) (by simp [tmIV]) (by simp [tmIV]) ?_
  simp -dsimp [intsC]
  refine call_pure (ref10_Ints_spec [3] [3] (by decide)) (by simp [intsIV, intsC]) (by simp [intsIV]) ?_
  simp -dsimp
  refine call_new s2 (by decide) (by simp [tmIV]) (by simp [tmIV]) ?_
  simp -dsimp [intsC]
  refine call_pure (ref10_Ints_spec [1, 3] [1, 3] (by decide)) (by simp [intsIV, intsC]) (by simp [intsIV]) ?_
  simp -dsimp
end Go.Rt
end
