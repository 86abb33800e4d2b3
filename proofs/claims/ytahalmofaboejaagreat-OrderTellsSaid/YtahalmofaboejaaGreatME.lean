/- An abstract machine beside the model (fourth part): loops over functions, rules for code. Conditions: those of each theorem. -/
import Derived.Test.YtahalmofaboejaaGreatMC

set_option linter.unusedVariables false
set_option linter.unusedSimpArgs false

/- A loop over a function of the program's: what each side says to the other. -/
section
namespace Go.Vm
def ZE (S : List (List IV) → Prop) (Zs : List (List IV) → GZ) (Zx : List (List IV) → List IV → GZ) : GZ := fun A B w => (∃ xs, S xs ∧ Zs xs A B w) ∨ ∃ pre x, Zx pre x A B w
def ISpec (P : Program) (f : FuncId) (caps : List IV) (Pre : List (List IV) → List IV → Prop) (S : List (List IV) → Prop) : Prop :=
  ∀ (l : Nat) (Zs : List (List IV) → GZ) (Zx : List (List IV) → List IV → GZ) (cont : List (List IV) → List IV → Bool),
  (∀ pre x, Pre pre x → YSpec P l x (Zs pre) (cont pre x) (if cont pre x then Zs (pre ++ [x]) else Zx pre x)) →
  GSpec P false f (.iv (.v (.func (.yield l) #[] #[])) :: caps.map AV.iv) [(1000, .gh (Zs []) [] [])] (.tup []) [(1000, .gh (ZE S Zs Zx) [] [])]
theorem YSpec.conv {P : Program} {l : Nat} {x : List IV} {Z Z' Z1 Z1' : GZ} {b : Bool} (h : YSpec P l x Z b Z') (h1 : ∀ A B w, Z1 A B w → Z A B w) (h2 : ∀ A B w, Z' A B w → Z1' A B w) : YSpec P l x Z1 b Z1' := by
  intro A B w vs a1 a2 a3 a4 a5 a6
  obtain ⟨fn, tmps, assign, body, hr, hround⟩ := h A B w vs a1 a2 a3 (fun A' B' w' k1 k2 k3 k4 => h1 _ _ _ (a4 A' B' w' k1 k2 k3 k4)) a5 a6
  exact ⟨fn, tmps, assign, body, hr, fun m => (hround m).mono fun e w' ⟨B', q1, q2, q3, q4, q5, q6, q7⟩ => ⟨B', q1, q2, q3, q4, q5, q6, fun A' B' w' k1 k2 k3 k4 => h2 _ _ _ (q7 A' B' w' k1 k2 k3 k4)⟩⟩
def ZT : GZ := fun _ _ _ => True
def parS : List Nat → List IV → St → St
  | p :: ps, x :: xs, s => parS ps xs (s.set p (.iv x))
  | _, _, s => s
def II (E : En) (ψ : Pl) (H : Hp) (A B : Nat → Prop) (w : World) (b : Nat) : Prop := ((A b ∧ ¬ isDef w b) ∨ (B b ∧ (E.A b ∨ E.fresh b))) ∧ ¬ Held ψ H b
structure ZA (E : En) (ds : List Deferred) (H : Hp) (l D : Nat) (rec : Loop) (A B : Nat → Prop) (w : World) (ψ : Pl) : Prop where
  obs : ∀ id o, look H id = some o → ROb (II E ψ H A B w) ψ H w id o
  inj : ∀ id id' o o' b, look H id = some o → look H id' = some o' → Owns ψ id b → Owns ψ id' b → id = id'
  own : ∀ id o b, look H id = some o → Owns ψ id b → (o.org id ∈ E.ids ∧ Owns E.ψ (o.org id) b) ∨ E.fresh b
  subs : Subs ψ H w
  par : ∀ id, id ∈ E.ids → ψ id = E.ψ id
  held : ∀ b, Held ψ H b → B b
  ids : ∀ id b, id ∈ E.ids → Owns E.ψ id b → B b
  nl : ¬ Held ψ H l
  nD : ¬ Held ψ H D
  bl : B l
  bD : B D
  hl : w.heap[l]? = some (.loop rec)
  hD : w.heap[D]? = some (.deferred (some []))
  old : ∀ b, b < E.w.heap.size → ¬ E.mp b → w.heap[b]? = E.w.heap[b]? ∧ ((A b ∧ ¬ isDef w b) ∨ B b)
  defs : DefOk E.w.heap.size (fun b => B b ∧ ¬ Held ψ H b) w ds
def ZC (E : En) (ds : List Deferred) (H : Hp) (l D : Nat) (rec : Loop) : GZ := fun A B w => ∃ ψ, ZA E ds H l D rec A B w ψ
theorem ZC.gok {E : En} {ds : List Deferred} {H : Hp} {l D : Nat} {rec : Loop} {A B : Nat → Prop} {w : World} (h : ZC E ds H l D rec A B w) : GOk (ZC E ds H l D rec) A B w := by
  intro A' B' w' k1 k2 k3 k4
  obtain ⟨ψ, h⟩ := h
  have lt : ∀ b, b < w.heap.size → A b → ¬ isDef w b → b < w'.heap.size ∧ ¬ isDef w' b := fun b hb ha hd => by
    have e := k3 b hb ha hd
    refine ⟨?_, fun ⟨q, hq, hc⟩ => hd ⟨q, by rw [← e]; exact hq, hc⟩⟩
    rw [Array.getElem?_eq_getElem hb] at e
    exact heap_lt e
  have ltB : ∀ b, b < w.heap.size → B b → b < w'.heap.size := fun b hb h => by
    have e := k4 b h
    rw [Array.getElem?_eq_getElem hb] at e
    exact heap_lt e
  have hI : ∀ b, b < w.heap.size → II E ψ H A B w b → II E ψ H A' B' w' b := fun b hb ⟨h, h''⟩ => ⟨h.imp (fun ⟨a, d⟩ => ⟨k1 b hb a d, (lt b hb a d).2⟩) (fun h => ⟨k2 b h.1, h.2⟩), h''⟩
  have hw : ∀ b, b < w.heap.size → II E ψ H A B w b → w'.heap[b]? = w.heap[b]? := fun b hb ⟨h, _⟩ => by
    rcases h with ⟨a, d⟩ | h
    · exact k3 b hb a d
    · exact k4 b h.1
  refine ⟨ψ, fun id o ho => (h.obs id o ho).mono hI hw (Keeps.refl _ _) ⟨rfl, fun _ h => h⟩ (fun b hb => k4 b (h.held b ⟨id, o, ho, hb⟩)), h.inj, h.own, fun id o b ho hb => ?_, h.par, fun b hb => k2 b (h.held b hb), fun id b hi ho => k2 b (h.ids id b hi ho),
    h.nl, h.nD, k2 _ h.bl, k2 _ h.bD, (k4 _ h.bl).trans h.hl, (k4 _ h.bD).trans h.hD, fun b hb hm => ?_, ⟨h.defs.1, fun d hd => ?_⟩⟩
  · obtain ⟨q1, q2, q3⟩ := h.subs id o b ho hb
    exact ⟨q1, ltB b q2 (h.held b ⟨id, o, ho, .inr hb⟩), q3⟩
  · obtain ⟨e, h'⟩ := h.old b hb hm
    rcases h' with ⟨a, d⟩ | h'
    · by_cases hb2 : b < w.heap.size
      · exact ⟨(k3 b hb2 a d).trans e, .inl ⟨k1 b hb2 a d, (lt b hb2 a d).2⟩⟩
      · exfalso
        rw [Array.getElem?_eq_none (by omega), Array.getElem?_eq_getElem hb] at e
        cases e
    · exact ⟨(k4 b h').trans e, .inr (k2 b h')⟩
  · obtain ⟨D', g1, g2, g3, g4⟩ := h.defs.2 d hd
    exact ⟨D', g1, g2, ⟨k2 _ g3.1, g3.2⟩, (k4 _ g3.1).trans g4⟩
theorem look_idx {α : Type} : ∀ {l : List (Nat × α)} {t : Nat} {x : α}, look l t = some x → ∃ i : Nat, l[i]? = some (t, x)
  | [], _, _, h => by cases h
  | (j, y) :: r, t, x, h => by
    simp only [look] at h
    split at h
    · rename_i e; subst e; cases h; exact ⟨0, rfl⟩
    · obtain ⟨i, hi⟩ := look_idx h; exact ⟨i + 1, hi⟩
def frVs (tmps : Array Value) (fr : List (Nat × AV)) : List Value := fr.map fun p => tmps.getD p.1 undef
def frCs (fr : List (Nat × AV)) : List AV := fr.map fun p => p.2
theorem frame_of_gh {A : Nat → Prop} {ψ : Pl} {H : Hp} {w : World} {r : Nat} {tmps : Array Value} {fr : List (Nat × AV)} (h : ROb A ψ H w r (.gh ZT (frVs tmps fr) (frCs fr))) (H2 : Hp) (t : Nat) :
    RAV A ψ H w (St.get ⟨fr, H2⟩ t) (tmps.getD t undef) := by
  simp only [St.get]
  cases hl : look fr t with
  | none => exact .junk _
  | some x =>
    obtain ⟨i, hi⟩ := look_idx hl
    obtain ⟨_, _, _, h4⟩ := h
    have := h4 i x (by simp [frCs, hi])
    simpa [frVs, List.getD, hi] using this
def En.round (E : En) (ψ : Pl) (H : Hp) (A B : Nat → Prop) (w w2 : World) (hsz : E.w.heap.size ≤ w.heap.size) (hs2 : w2.heap.size = w.heap.size)
    (hids : ∀ id b, id ∈ E.ids → Owns E.ψ id b → B b) (hBA : ∀ b, B b → ¬ A b) : En where
  A := fun b => b < w.heap.size ∧ II E ψ H A B w b
  w := w2
  ids := E.ids
  ψ := E.ψ
  big := E.big
  disj := fun b id hi ho ha => by
    rcases ha.2.1 with h | ⟨_, h | h | h⟩
    · exact hBA b (hids id b hi ho) h.1
    · exact E.disj b id hi ho h
    · exact E.poolI b id hi ho h
    · have := E.there id b hi ho; omega
  there := fun id b h1 h2 => by rw [hs2]; exact Nat.lt_of_lt_of_le (E.there id b h1 h2) hsz
  inA := fun b h => by rw [hs2]; exact h.1
  pool := fun b => E.fresh b ∧ Held ψ H b ∧ b < w.heap.size
  poolW := fun b h => by rw [hs2]; exact h.2.2
  poolA := fun b h h' => h'.2.2 h.2.1
  poolI := fun b id hi ho hp => by
    rcases hp.1 with h | h
    · exact E.poolI b id hi ho h
    · have := E.there id b hi ho; omega
theorem parS_sim {E : En} {n : Nat} {ψ : Pl} {w : World} : ∀ (ps : List Nat) (xs : List IV) (vs : List Value) (s : St) (a : Act), SimAt E n ψ s a w → (∀ p ∈ ps, p < n) → xs.length = ps.length → vs.length = ps.length →
    (∀ i x, xs[i]? = some x → RIV (Im E ψ s.hp) w x (vs.getD i undef)) → SimAt E n ψ (parS ps xs s) { a with tmps := (ps.zip vs).foldl (fun t p => t.setIfInBounds p.1 p.2) a.tmps } w := by
  intro ps
  induction ps with
  | nil => intro xs vs s a h _ h1 h2 _; cases xs <;> cases vs <;> first | exact h | simp at h1 h2
  | cons p ps ih =>
    intro xs vs s a h hp h1 h2 hr
    match xs, vs, h1, h2 with
    | x :: xs, v :: vs, h1, h2 =>
      have hv := hr 0 x rfl
      exact ih xs vs (s.set p (.iv x)) (a.put (some p) v) (h.set (hp p List.mem_cons_self) (.iv x v hv)) (fun q hq => hp q (List.mem_cons_of_mem _ hq)) (by simpa using h1) (by simpa using h2)
        (fun i y hy => hr (i + 1) y (by simpa using hy))
def recOf (fn : FuncId) (tmps : Array Value) (ps : Array Nat) (cx cy : Code) (D : Nat) (c : Option Code) : Loop :=
  { state := if c.isNone then .ready else .done, pending := c, fn, tmps, params := ps, assign := cx, body := cy, defers := D }
def ZJ (E : En) (ds : List Deferred) (l D : Nat) (fn : FuncId) (tmps : Array Value) (ps : Array Nat) (cx cy : Code) (J : Option Code → Prop) (H : Hp) : GZ := fun A B w =>
  ∃ c, J c ∧ ZC E ds H l D (recOf fn tmps ps cx cy D c) A B w
theorem ZJ.gok {E : En} {ds : List Deferred} {l D : Nat} {fn : FuncId} {tmps : Array Value} {ps : Array Nat} {cx cy : Code} {J : Option Code → Prop} {H : Hp} {A B : Nat → Prop} {w : World}
    (h : ZJ E ds l D fn tmps ps cx cy J H A B w) : GOk (ZJ E ds l D fn tmps ps cx cy J H) A B w := by
  obtain ⟨c, hc, h⟩ := h
  exact fun A' B' w' k1 k2 k3 k4 => ⟨c, hc, h.gok A' B' w' k1 k2 k3 k4⟩
theorem round_ok {P : Program} {E : En} {n : Nat} {tmps : Array Value} {ds : List Deferred} {fr : List (Nat × AV)} {H H' : Hp} {r l D : Nat} {fn : FuncId} {ps : Array Nat} {cx cy : Code} {x : List IV} {X Y : VCode}
    (hx : compCode P n cx = some X) (hy : compCode P n cy = some Y) (rx : X.rnd = true) (ry : Y.rnd = true) (hps : ∀ p ∈ ps.toList, p < n) (hlen : x.length = ps.size) (htm : tmps.size = n)
    (hl : E.w.heap.size ≤ l) (hD : E.w.heap.size ≤ D) (hlD : D ≠ l) (gr : look H r = some (.gh ZT (frVs tmps fr) (frCs fr))) (J : Option Code → Prop) (b : Bool) (hJ : ∀ c, J c → c.isNone = b)
    (hv : VC P n X (parS ps.toList x ⟨fr, H⟩) ⟨fun s' => VC P n Y s' ⟨fun s2 => J none ∧ Le s2 ⟨[], H'⟩, fun id s2 => J (some (.exit id)) ∧ Le s2 ⟨[], H'⟩, fun s2 => J (some .ret) ∧ Le s2 ⟨[], H'⟩, fun _ _ => False⟩,
      fun _ _ => False, fun _ => False, fun _ _ => False⟩) :
    YSpec P l x (ZJ E ds l D fn tmps ps cx cy (· = none) H) b (ZJ E ds l D fn tmps ps cx cy J H') := by
  intro A B w vs hA hB hBA hgo hlv hrv
  obtain ⟨c, rfl, ψ, hz⟩ := hgo.now
  have hsz : E.w.heap.size ≤ w.heap.size := by have := heap_lt hz.hl; omega
  refine ⟨fn, _, cx, cy, run_yield hz.hl (by simp [recOf, hlv, hlen]), fun m => ?_⟩
  let E1 := E.round ψ H A B w w hsz rfl hz.ids hBA
  have hIm : ∀ k, k < w.heap.size → II E ψ H A B w k → Im E1 ψ H k := fun k hk h => ⟨.inl ⟨hk, h⟩, h.2⟩
  have hsim : SimAt E1 n ψ ⟨fr, H⟩ { tmps := tmps, defers := [] } w := {
    size := htm
    defers := ⟨by simp, fun d hd => by cases hd⟩
    frame := fun t => (frame_of_gh (hz.obs r _ gr) H t).mono hIm (fun _ _ _ => rfl) (Keeps.refl _ _)
    obs := fun id o ho => (hz.obs id o ho).mono hIm (fun _ _ _ => rfl) (Keeps.refl _ _) ⟨rfl, fun _ h => h⟩ (fun _ _ => rfl)
    inj := hz.inj
    own := fun id o k ho hk => (hz.own id o k ho hk).imp (fun h => h) fun hf => .inl ⟨hf, ⟨id, o, ho, hk⟩, hB k (hz.held k ⟨id, o, ho, hk⟩)⟩
    subs := hz.subs
    par := hz.par
    old := fun _ _ _ => rfl
    grow := Nat.le_refl _
    same := ⟨rfl, rfl, rfl⟩ }
  have hsim1 := parS_sim ps.toList x vs _ _ hsim hps (by simpa using hlen) (by simpa [hlv] using hlen) (fun i y hy => (hrv i y hy).dat.mono (fun k hk h => hIm k hk ⟨.inl h, fun hh => hBA k (hz.held k hh) h.1⟩) (fun _ _ _ => rfl))
  have htm2 : (ps.toList.zip vs).foldl (fun (t : Array Value) p => t.setIfInBounds p.1 p.2) tmps = (ps.zip vs.toArray).foldl (fun (t : Array Value) (p : Nat × Value) => t.setIfInBounds p.1 p.2) tmps := by
    rw [← Array.foldl_toList, Array.toList_zip]
  have hsim2 : SimAt E1 n ψ (parS ps.toList x ⟨fr, H⟩) { tmps := (ps.zip vs.toArray).foldl (fun (t : Array Value) (p : Nat × Value) => t.setIfInBounds p.1 p.2) tmps, defers := [] } w := by
    rw [← htm2]; exact hsim1
  have lnm : ∀ {s : St} {a : Act} {w' : World} {ψ' : Pl}, SimAt E1 n ψ' s a w' → ¬ E1.mp l ∧ ¬ Held ψ' s.hp l := by
    intro s a w' ψ' h
    have h1 : ¬ E1.mp l := by
      rintro (⟨id, hi, ho⟩ | hp)
      · have := E.there id l hi ho; omega
      · exact hz.nl hp.2.1
    refine ⟨h1, fun ⟨id, o, ho, hk⟩ => ?_⟩
    rcases h.own id o l ho hk with ⟨q1, q2⟩ | q | q
    · exact h1 (.inl ⟨_, q1, q2⟩)
    · exact h1 (.inr q)
    · have := heap_lt hz.hl
      have : w.heap.size ≤ l := q
      omega
  have hmpB : ∀ k, E1.mp k → B k := by
    rintro k (⟨id, hi, ho⟩ | hp)
    · exact hz.ids id k hi ho
    · exact hz.held k hp.2.1
  refine roundIn_of_wpIn trivial (Code.wpIn_mono ?_ (hv cx hx (some l) m (.inr rx) E1 _ w ⟨ψ, hsim2⟩))
  intro e a1 w1 hp
  cases e with
  | normal =>
    obtain ⟨s1, ⟨ψ1, h1⟩, hk⟩ := hp
    obtain ⟨n1, n2⟩ := lnm h1
    have hl1 : w1.heap[l]? = some (.loop (recOf fn tmps ps cx cy D none)) := by rw [h1.old l (heap_lt hz.hl) n1]; exact hz.hl
    refine ⟨_, run_beginRound hl1 rfl, ?_⟩
    let E2 := E.round ψ H A B w (w.putObj l (.loop { recOf fn tmps ps cx cy D none with state := .busy })) hsz (by simp) hz.ids hBA
    have h2 : SimAt E2 n ψ1 s1 { a1 with defers := a1.defers } (w1.putObj l (.loop { recOf fn tmps ps cx cy D none with state := .busy })) := by
      refine h1.ctl (E2 := E2) (o' := .loop { recOf fn tmps ps cx cy D none with state := .busy }) ⟨_, hl1, rfl⟩ n2 rfl rfl rfl rfl (by simp [E2, E1, En.round]) ⟨rfl, rfl, rfl⟩ (fun k hk hm => ?_) ?_
      · by_cases e : k = l
        · subst e
          rw [World.putObj_heap_same (heap_lt hl1)]
          exact (World.putObj_heap_same (heap_lt hz.hl)).symm
        · rw [World.putObj_heap_other e]
          refine (h1.old k hk hm).trans ?_
          exact (World.putObj_heap_other e).symm
      · refine ⟨h1.defers.1, fun d hd => ?_⟩
        obtain ⟨D', g1, g2, g3, g4⟩ := h1.defers.2 d hd
        refine ⟨D', g1, g2, g3, ?_⟩
        rw [World.putObj_heap_other (fun e => by subst e; rw [hl1] at g4; cases g4)]
        exact g4
    -- what stands behind the body
    have fin : ∀ (c : Option Code) (s3 : St) (a3 : Act) (w3 : World), Sim E2 n s3 a3 w3 → J c → Le s3 ⟨[], H'⟩ → ∃ v w', (Instr.endRound l c).run P w3 = .ok v w' ∧ ∃ B' : Nat → Prop, Ending.returned v = .returned (.bool b) ∧
        (∀ k, k < w.heap.size → ¬ B k → w'.heap[k]? = w.heap[k]?) ∧ w.heap.size ≤ w'.heap.size ∧ Same w w' ∧ (∀ k, B' k → B k ∨ w.heap.size ≤ k) ∧ (∀ k, B' k → k < w'.heap.size) ∧
        GOk (ZJ E ds l D fn tmps ps cx cy J H') (fun k => (A k ∨ w.heap.size ≤ k) ∧ ¬ B' k) B' w' := by
      intro c s3 a3 w3 hs hc hle
      obtain ⟨ψ4, h4⟩ := hle E2 n a3 w3 hs
      have hsz2 : E2.w.heap.size = w.heap.size := by simp [E2, En.round]
      have hg4 : w.heap.size ≤ w3.heap.size := by have := h4.grow; rw [hsz2] at this; exact this
      have nm2 : ∀ k, ¬ B k → ¬ E2.mp k := fun k hk hm => hk (hmpB k hm)
      have lnm2 : ¬ E2.mp l ∧ ¬ Held ψ4 H' l := by
        refine ⟨(lnm h1).1, fun ⟨id, o, ho, hk⟩ => ?_⟩
        rcases h4.own id o l ho hk with ⟨q1, q2⟩ | q | q
        · exact (lnm h1).1 (.inl ⟨_, q1, q2⟩)
        · exact (lnm h1).1 (.inr q)
        · rw [hsz2] at q; have := heap_lt hz.hl; omega
      have hl3 : w3.heap[l]? = some (.loop { recOf fn tmps ps cx cy D none with state := .busy }) := by
        rw [h4.old l (by rw [hsz2]; exact heap_lt hz.hl) lnm2.1]
        exact World.putObj_heap_same (heap_lt hz.hl)
      have hrun := run_endRound (P := P) c hl3
      refine ⟨_, _, hrun, fun k => B k ∨ Held ψ4 H' k, ?_, fun k hk hb => ?_, by simpa using hg4, ⟨h4.same.1, h4.same.2.1, h4.same.2.2⟩, fun k hk => ?_, fun k hk => ?_, ?_⟩
      · rw [hJ c hc]
      · have hkl : k ≠ l := fun e => hb (e ▸ hz.bl)
        rw [World.putObj_heap_other hkl, h4.old k (by rw [hsz2]; exact hk) (nm2 k hb)]
        exact World.putObj_heap_other hkl
      · rcases hk with hk | ⟨id, o, ho, hk⟩
        · exact .inl hk
        · rcases h4.own id o k ho hk with ⟨q1, q2⟩ | q | q
          · exact .inl (hz.ids _ k q1 q2)
          · exact .inl (hz.held k q.2.1)
          · rw [hsz2] at q; exact .inr q
      · rcases hk with hk | ⟨id, o, ho, hk⟩
        · have := hB k hk; simp; omega
        · simpa using h4.lt ho hk
      · refine ZJ.gok ⟨c, hc, ψ4, ?_⟩
        have hne : ∀ {o : Obj} k, k ≠ l → (w3.putObj l o).heap[k]? = w3.heap[k]? := fun k hk => World.putObj_heap_other hk
        have hdl : isDef w3 l := ⟨_, hl3, rfl⟩
        -- a block of the machinery's, or an old one, is none of the objects' behind the round
        have nH : ∀ k, k < w.heap.size → (∀ id, id ∈ E.ids → ¬ Owns E.ψ id k) → ¬ (E.fresh k ∧ Held ψ H k) → ¬ Held ψ4 H' k := by
          rintro k hk hi hp ⟨id, o, ho, hq⟩
          rcases h4.own id o k ho hq with ⟨q1, q2⟩ | q | q
          · exact hi _ q1 q2
          · exact hp ⟨q.1, q.2.1⟩
          · rw [hsz2] at q; omega
        have nM : ∀ k, (∀ id, id ∈ E.ids → ¬ Owns E.ψ id k) → ¬ (E.fresh k ∧ Held ψ H k) → ¬ E2.mp k := by
          rintro k hi hp (⟨id, h1, h2⟩ | q)
          · exact hi id h1 h2
          · exact hp ⟨q.1, q.2.1⟩
        have noId : ∀ k, E.w.heap.size ≤ k → ∀ id, id ∈ E.ids → ¬ Owns E.ψ id k := fun k hk id hi ho => by have := E.there id k hi ho; omega
        have e2 : ∀ k, k ≠ l → E2.w.heap[k]? = w.heap[k]? := fun k hk => World.putObj_heap_other hk
        have hI : ∀ k, k < w3.heap.size → Dat (Im E2 ψ4 H') w3 k → II E ψ4 H' (fun k => (A k ∨ w.heap.size ≤ k) ∧ ¬ (B k ∨ Held ψ4 H' k)) (fun k => B k ∨ Held ψ4 H' k)
            (w3.putObj l (.loop { recOf fn tmps ps cx cy D none with state := if c.isNone then .ready else .done, pending := c })) k := by
          rintro k hk ⟨⟨him, hnh⟩, hnd⟩
          have hkl : k ≠ l := fun e => hnd (e ▸ hdl)
          have hnd4 : ∀ o, ¬ isDef (w3.putObj l o) k := fun o ⟨q, hq, hc⟩ => hnd ⟨q, by rw [← hne k hkl]; exact hq, hc⟩
          refine ⟨?_, hnh⟩
          rcases him with ⟨hkw, hA1, _⟩ | q | q
          · rcases hA1 with ⟨ha, _⟩ | ⟨hb, hf⟩
            · exact .inl ⟨⟨.inl ha, fun h => h.elim (fun h => hBA k h ha) hnh⟩, hnd4 _⟩
            · exact .inr ⟨.inl hb, hf⟩
          · exact .inr ⟨.inl (hz.held k q.2.1), .inr q.1⟩
          · rw [hsz2] at q
            exact .inl ⟨⟨.inr q, fun h => h.elim (fun h => by have := hB k h; omega) hnh⟩, hnd4 _⟩
        have hw4 : ∀ k, k < w3.heap.size → Dat (Im E2 ψ4 H') w3 k → (w3.putObj l (.loop { recOf fn tmps ps cx cy D none with state := if c.isNone then .ready else .done, pending := c })).heap[k]? = w3.heap[k]? :=
          fun k _ h => hne k fun e => h.2 (e ▸ hdl)
        have back : ∀ k, k < w.heap.size → k ≠ l → (∀ id, id ∈ E.ids → ¬ Owns E.ψ id k) → ¬ (E.fresh k ∧ Held ψ H k) → ∀ o, (w3.putObj l o).heap[k]? = w.heap[k]? := fun k hk hkl hi hp o => by
          rw [hne k hkl, h4.old k (by rw [hsz2]; exact hk) (nM k hi hp)]
          exact e2 k hkl
        exact {
          obs := fun id o ho => (h4.obs id o ho).dat.mono hI hw4 (Keeps.refl _ _) ⟨rfl, fun _ h => h⟩ fun k hk => hne k (by rintro rfl; exact lnm2.2 ⟨id, o, ho, hk⟩)
          inj := h4.inj
          own := fun id o k ho hk => (h4.own id o k ho hk).imp (fun h => h) fun q => by
            rcases q with q | q
            · exact q.1
            · rw [hsz2] at q; exact .inr (Nat.le_trans hsz q)
          subs := h4.subs.ext (by simp)
          par := h4.par
          held := fun k hk => .inr hk
          ids := fun id k hi ho => .inl (hz.ids id k hi ho)
          nl := lnm2.2
          nD := nH D (heap_lt hz.hD) (noId D hD) (fun h => hz.nD h.2)
          bl := .inl hz.bl
          bD := .inl hz.bD
          hl := World.putObj_heap_same (heap_lt hl3)
          hD := (back D (heap_lt hz.hD) hlD (noId D hD) (fun h => hz.nD h.2) _).trans hz.hD
          old := fun k hk hm => by
            obtain ⟨g1, g2⟩ := hz.old k hk hm
            have hkl : k ≠ l := by omega
            have hi : ∀ id, id ∈ E.ids → ¬ Owns E.ψ id k := fun id hi ho => hm (.inl ⟨id, hi, ho⟩)
            have hp : ¬ (E.fresh k ∧ Held ψ H k) := fun h => E.no hk hm h.1
            have e := back k (by omega) hkl hi hp (.loop { recOf fn tmps ps cx cy D none with state := if c.isNone then .ready else .done, pending := c })
            refine ⟨e.trans g1, ?_⟩
            rcases g2 with ⟨ha, hd⟩ | hb
            · exact .inl ⟨⟨.inl ha, fun h => h.elim (fun h => hBA k h ha) (nH k (by omega) hi hp)⟩, fun ⟨q, hq, hc⟩ => hd ⟨q, by rw [← e]; exact hq, hc⟩⟩
            · exact .inr (.inl hb)
          defs := ⟨hz.defs.1, fun d hd => by
            obtain ⟨D', g1, g2, g3, g4⟩ := hz.defs.2 d hd
            have hk := heap_lt g4
            have hkl : D' ≠ l := fun e => by subst e; rw [hz.hl] at g4; cases g4
            have hp : ¬ (E.fresh D' ∧ Held ψ H D') := fun h => g3.2 h.2
            exact ⟨D', g1, g2, ⟨.inl g3.1, nH D' hk (noId D' g2) hp⟩, (back D' hk hkl (noId D' g2) hp _).trans g4⟩⟩ }
    refine Code.wpIn_mono ?_ (hk cy hy (some l) m (.inr ry) E2 _ _ ⟨ψ1, h2⟩)
    intro e a3 w3 hp
    cases e with
    | normal => obtain ⟨s3, hs, hc, hle⟩ := hp; exact fin none s3 a3 w3 hs hc hle
    | ret => obtain ⟨s3, hs, hc, hle⟩ := hp; exact fin (some .ret) s3 a3 w3 hs hc hle
    | exit id => obtain ⟨s3, hs, hc, hle⟩ := hp; exact fin (some (.exit id)) s3 a3 w3 hs hc hle
    | goto t => obtain ⟨_, _, hk⟩ := hp; exact hk.elim
    | panic ch => exact hp.elim
    | outgrown => exact hp.elim
  | exit id => obtain ⟨_, _, hk⟩ := hp; exact hk.elim
  | ret => obtain ⟨_, _, hk⟩ := hp; exact hk.elim
  | goto t => obtain ⟨_, _, hk⟩ := hp; exact hk.elim
  | panic ch => exact hp.elim
  | outgrown => exact hp.elim
end Go.Vm
end

/- A loop over a function of the program's: the rule. -/
section
namespace Go.Vm
def rngV (P : Program) (W1 W2 : St → Outs → Prop) (g : Operand) (ps : List Nat) (s : St) (O : Outs) : Prop :=
  ∃ (f : FuncId) (caps : List IV) (Pre : List (List IV) → List IV → Prop) (S : List (List IV) → Prop) (r : Nat) (fr : List (Nat × AV)) (I : List (List IV) → Prop) (H : List (List IV) → Hp) (cont : List (List IV) → List IV → Bool) (Hx : List (List IV) → List IV → Hp),
    (Le s ⟨fr, H []⟩ ∧ St.ev ⟨fr, H []⟩ g = .fn f [] (caps.map CapV.val) ∧ okFn P f = true ∧ ISpec P f caps Pre S ∧ r < 1000 ∧ look (H []) r = none ∧ (fr.map (·.1)).Nodup ∧ (∀ pre x, Pre pre x → x.length = ps.length) ∧ I []) ∧
    (∀ vs pre x, I pre → Pre pre x → cont pre x = true → I (pre ++ [x]) ∧ W1 (parS ps x ⟨fr, (r, .gh ZT vs (frCs fr)) :: H pre⟩)
      ⟨fun s' => W2 s' ⟨fun s2 => Le s2 ⟨[], (r, .gh ZT vs (frCs fr)) :: H (pre ++ [x])⟩, fun _ _ => False, fun _ => False, fun _ _ => False⟩, fun _ _ => False, fun _ => False, fun _ _ => False⟩) ∧
    (∀ vs pre x, I pre → Pre pre x → cont pre x = false → W1 (parS ps x ⟨fr, (r, .gh ZT vs (frCs fr)) :: H pre⟩)
      ⟨fun s' => W2 s' ⟨fun _ => False, fun id s2 => Le s2 ⟨[], (r, .gh ZT vs (frCs fr)) :: Hx pre x⟩ ∧ ∃ s', Le ⟨fr, (r, .gh ZT vs (frCs fr)) :: Hx pre x⟩ s' ∧ O.x id s',
        fun s2 => Le s2 ⟨[], (r, .gh ZT vs (frCs fr)) :: Hx pre x⟩ ∧ ∃ s', Le ⟨fr, (r, .gh ZT vs (frCs fr)) :: Hx pre x⟩ s' ∧ O.r s', fun _ _ => False⟩, fun _ _ => False, fun _ => False, fun _ _ => False⟩) ∧
    ∀ vs xs, I xs → S xs → ∃ s', Le ⟨fr, (r, .gh ZT vs (frCs fr)) :: H xs⟩ s' ∧ O.n s'
theorem rngV_mono {P : Program} {W1 W2 W1' W2' : St → Outs → Prop} {g : Operand} {ps : List Nat} {s : St} {O O' : Outs}
    (m1 : ∀ {s : St} {O O' : Outs}, (∀ s, O.n s → O'.n s) → (∀ i s, O.x i s → O'.x i s) → (∀ s, O.r s → O'.r s) → (∀ i s, O.g i s → O'.g i s) → W1 s O → W1' s O')
    (m2 : ∀ {s : St} {O O' : Outs}, (∀ s, O.n s → O'.n s) → (∀ i s, O.x i s → O'.x i s) → (∀ s, O.r s → O'.r s) → (∀ i s, O.g i s → O'.g i s) → W2 s O → W2' s O')
    (hn : ∀ s, O.n s → O'.n s) (hx : ∀ i s, O.x i s → O'.x i s) (hr : ∀ s, O.r s → O'.r s) (h : rngV P W1 W2 g ps s O) : rngV P W1' W2' g ps s O' := by
  obtain ⟨f, caps, Pre, S, r, fr, I, H, cont, Hx, h1, h2, h3, h4⟩ := h
  refine ⟨f, caps, Pre, S, r, fr, I, H, cont, Hx, h1, fun vs pre x q1 q2 q3 => ⟨(h2 vs pre x q1 q2 q3).1, ?_⟩, fun vs pre x q1 q2 q3 => ?_, fun vs xs q1 q2 => ?_⟩
  · refine m1 ?_ ?_ ?_ ?_ (h2 vs pre x q1 q2 q3).2
    · intro s h
      exact m2 (fun _ h => h) (fun _ _ h => h) (fun _ h => h) (fun _ _ h => h) h
    · exact fun _ _ h => h
    · exact fun _ h => h
    · exact fun _ _ h => h
  · refine m1 ?_ ?_ ?_ ?_ (h3 vs pre x q1 q2 q3)
    · intro s h
      refine m2 ?_ ?_ ?_ ?_ h
      · exact fun _ h => h
      · exact fun _ _ ⟨q, s', q1, q2⟩ => ⟨q, s', q1, hx _ _ q2⟩
      · exact fun _ ⟨q, s', q1, q2⟩ => ⟨q, s', q1, hr _ q2⟩
      · exact fun _ _ h => h
    · exact fun _ _ h => h
    · exact fun _ h => h
    · exact fun _ _ h => h
  · obtain ⟨s', g1, g2⟩ := h4 vs xs q1 q2
    exact ⟨s', g1, hn _ g2⟩
theorem rngV_mono' {P : Program} {W1 W2 W1' W2' : St → Outs → Prop} {g : Operand} {ps : List Nat} {s : St} {O : Outs}
    (w1 : ∀ s O, W1 s O → W1' s O) (w2 : ∀ s O, W2 s O → W2' s O)
    (m1 : ∀ {s : St} {O O' : Outs}, (∀ s, O.n s → O'.n s) → (∀ i s, O.x i s → O'.x i s) → (∀ s, O.r s → O'.r s) → (∀ i s, O.g i s → O'.g i s) → W1' s O → W1' s O')
    (h : rngV P W1 W2 g ps s O) : rngV P W1' W2' g ps s O := by
  obtain ⟨f, caps, Pre, S, r, fr, I, H, cont, Hx, h1, h2, h3, h4⟩ := h
  refine ⟨f, caps, Pre, S, r, fr, I, H, cont, Hx, h1, fun vs pre x q1 q2 q3 => ⟨(h2 vs pre x q1 q2 q3).1, ?_⟩, fun vs pre x q1 q2 q3 => ?_, h4⟩
  · refine m1 ?_ ?_ ?_ ?_ (w1 _ _ (h2 vs pre x q1 q2 q3).2)
    · exact fun s h => w2 _ _ h
    · exact fun _ _ h => h
    · exact fun _ h => h
    · exact fun _ _ h => h
  · refine m1 ?_ ?_ ?_ ?_ (w1 _ _ (h3 vs pre x q1 q2 q3))
    · exact fun s h => w2 _ _ h
    · exact fun _ _ h => h
    · exact fun _ h => h
    · exact fun _ _ h => h
theorem nodup_look {α : Type} : ∀ {l : List (Nat × α)} {i t : Nat} {x : α}, (l.map (·.1)).Nodup → l[i]? = some (t, x) → look l t = some x
  | [], _, _, _, _, h => by simp at h
  | (j, y) :: r, i, t, x, hn, h => by
    simp only [List.map_cons, List.nodup_cons] at hn
    cases i with
    | zero => simp only [List.getElem?_cons_zero, Option.some.injEq, Prod.mk.injEq] at h; obtain ⟨rfl, rfl⟩ := h; simp [look]
    | succ i =>
      have h : r[i]? = some (t, x) := by simpa using h
      have : j ≠ t := by rintro rfl; exact hn.1 (List.mem_map.2 ⟨(j, x), List.mem_of_getElem? h, rfl⟩)
      simp only [look, if_neg this]
      exact nodup_look hn.2 h
theorem vc_rng {P : Program} {n : Nat} {g : Operand} {ps : List Nat} {X Y : VCode} {s : St} {O : Outs} (hv : rngV P (VC P n X) (VC P n Y) g ps s O) : VC P n (.rng g ps X Y) s O := by
  intro code hc ro m hro E a w hs
  cases code <;> simp only [compCode] at hc <;> (first | cases hc | skip)
  case rangeFunc g' ps' cx cy =>
    obtain ⟨X', hX, hc⟩ := bind_some hc
    obtain ⟨Y', hY, hc⟩ := bind_some hc
    obtain ⟨e, rx, ry, hps⟩ := rngOf_shape hc
    simp only [VCode.rng.injEq] at e
    obtain ⟨rfl, rfl, rfl, rfl⟩ := e
    obtain rfl : ro = none := hro.resolve_right (by simp [VCode.rnd])
    obtain ⟨f, caps, Pre, S, r, fr, I, H0, cont, Hx, ⟨h1, hg, hok, hspec, hr, hr0, hnd, hlen, hI0⟩, hround, hstop, hfin⟩ := hv
    obtain ⟨H, hH⟩ : ∃ H : Nat → Hp, H 0 = H0 [] := ⟨fun _ => H0 [], rfl⟩
    rw [← hH] at h1 hg hr0
    obtain ⟨ψ, h⟩ := h1 E n a w hs
    have hnr : r ∉ E.ids := fun hi => by have := E.big r hi; omega
    refine wpIn_rangeFunc ?_
    intro fn _
    obtain ⟨W1, hW1⟩ : ∃ W1, (w.alloc (.deferred (some []))).alloc (.loop (recOf fn a.tmps ps' cx cy w.heap.size none)) = W1 := ⟨_, rfl⟩
    have hx1 : Ext w W1 := by rw [← hW1]; exact (Ext.alloc _ _).trans (Ext.alloc _ _)
    have hsz : W1.heap.size = w.heap.size + 2 := by rw [← hW1]; simp
    have hL1 : W1.heap[w.heap.size + 1]? = some (.loop (recOf fn a.tmps ps' cx cy w.heap.size none)) := by
      rw [← hW1]; have := World.alloc_heap_new (w.alloc (.deferred (some []))) (.loop (recOf fn a.tmps ps' cx cy w.heap.size none)); rwa [World.size_alloc] at this
    have hD1 : W1.heap[w.heap.size]? = some (.deferred (some [])) := by
      rw [← hW1]; exact ((Ext.alloc _ _).block _ (by simp)).trans (World.alloc_heap_new w _)
    have h' := h.ext hx1
    let A : Nat → Prop := fun b => b < w.heap.size ∧ Im E ψ (H 0) b ∧ ¬ isDef w b
    let B : Nat → Prop := fun b => b < W1.heap.size ∧ ¬ A b
    have nd1 : ∀ b, b < w.heap.size → (isDef W1 b ↔ isDef w b) := fun b hb => by simp only [isDef, hx1.block b hb]
    have hlt : ∀ {b}, Held ψ (H 0) b → b < w.heap.size := fun ⟨id, o, ho, hb⟩ => h.lt ho hb
    have hDatA : ∀ b, b < W1.heap.size → Dat (Im E ψ (H 0)) W1 b → A b := by
      rintro b hb ⟨him, hnd⟩
      by_cases hbw : b < w.heap.size
      · exact ⟨hbw, him, fun h => hnd ((nd1 b hbw).2 h)⟩
      · exfalso
        have : b = w.heap.size ∨ b = w.heap.size + 1 := by omega
        rcases this with rfl | rfl
        · exact hnd ⟨_, hD1, rfl⟩
        · exact hnd ⟨_, hL1, rfl⟩
    -- the loop's side
    let Hr : Hp → Hp := fun K => (r, .gh ZT (frVs a.tmps fr) (frCs fr)) :: K
    let ψr := upd ψ r none
    have lkr : ∀ {K : Hp} {id : Nat}, look (Hr K) id = if r = id then some (.gh ZT (frVs a.tmps fr) (frCs fr)) else look K id := fun {K id} => rfl
    have ownr : ∀ {id b}, id ≠ r → (Owns ψr id b ↔ Owns ψ id b) := fun hne => owns_upd_ne none hne
    have notr : ∀ {b}, ¬ Owns ψr r b := fun hb => by obtain ⟨k, h⟩ := owns_upd_same r none hb; cases h
    have heldr : ∀ {b}, Held ψr (Hr (H 0)) b → Held ψ (H 0) b := by
      rintro b ⟨id, o, ho, hb⟩
      rw [lkr] at ho
      by_cases e : r = id
      · subst e; exact (notr hb).elim
      · rw [if_neg e] at ho; exact ⟨id, o, ho, (ownr (Ne.symm e)).1 hb⟩
    have hI : ∀ b, b < W1.heap.size → Dat (Im E ψ (H 0)) W1 b → II E ψr (Hr (H 0)) A B W1 b := fun b hb hd =>
      ⟨.inl ⟨hDatA b hb hd, hd.2⟩, fun hh => hd.1.2 (heldr hh)⟩
    have hkeep : Keeps ψ ψr (H 0) (Hr (H 0)) := by
      intro id o ho
      have hne : id ≠ r := by rintro rfl; rw [hr0] at ho; cases ho
      exact ⟨⟨o, by rw [lkr, if_neg (Ne.symm hne)]; exact ho, o.le_refl⟩, by simp [ψr, upd, hne]⟩
    have hAI : ∀ b, A b → E.A b ∨ E.fresh b := fun b hb => hb.2.1.1
    have hBA : ∀ b, B b → ¬ A b := fun b hb => hb.2
    have hz : ZA E a.defers (Hr (H 0)) (w.heap.size + 1) w.heap.size (recOf fn a.tmps ps' cx cy w.heap.size none) A B W1 ψr := {
      obs := fun id o ho => by
        rw [lkr] at ho
        by_cases e : r = id
        · subst e
          rw [if_pos rfl] at ho; cases ho
          refine ⟨by simp [ψr, upd], fun _ _ _ _ _ _ _ => trivial, by simp [frVs, frCs], fun i x hx => ?_⟩
          simp only [frCs, List.getElem?_map] at hx
          obtain ⟨⟨t, x'⟩, hi, rfl⟩ := Option.map_eq_some_iff.1 hx
          have hf := (h'.frame t).dat.mono hI (fun _ _ _ => rfl) hkeep
          simp only [St.get, nodup_look hnd hi, Option.getD_some] at hf
          simpa [frVs, List.getD, hi] using hf
        · rw [if_neg e] at ho
          exact (h'.obs id o ho).dat.mono hI (fun _ _ _ => rfl) hkeep ⟨by simp [ψr, upd, Ne.symm e], fun b hb => ⟨Ne.symm e, hb⟩⟩ (fun _ _ => rfl)
      inj := fun id id' o o' b q1 q2 q3 q4 => by
        rw [lkr] at q1 q2
        by_cases e : r = id
        · subst e; exact (notr q3).elim
        · by_cases e' : r = id'
          · subst e'; exact (notr q4).elim
          · rw [if_neg e] at q1; rw [if_neg e'] at q2
            exact h.inj id id' o o' b q1 q2 ((ownr (Ne.symm e)).1 q3) ((ownr (Ne.symm e')).1 q4)
      own := fun id o b ho hb => by
        rw [lkr] at ho
        by_cases e : r = id
        · subst e; exact (notr hb).elim
        · rw [if_neg e] at ho; exact h.own id o b ho ((ownr (Ne.symm e)).1 hb)
      subs := fun id o b ho hb => by
        rw [lkr] at ho
        by_cases e : r = id
        · exact absurd e.symm hb.1
        · rw [if_neg e] at ho
          obtain ⟨q1, q2, q3⟩ := h.subs id o b ho hb.2
          exact ⟨q1, by omega, fun k => by simp only [ψr, upd, if_neg (Ne.symm e)]; exact q3 k⟩
      par := fun id hi => by
        have : id ≠ r := fun e => hnr (e ▸ hi)
        simp only [ψr, upd, if_neg this]; exact h.par id hi
      held := fun b hb => ⟨by have := hlt (heldr hb); omega, fun ha => ha.2.1.2 (heldr hb)⟩
      ids := fun id b hi ho => ⟨by have := E.there id b hi ho; have := h.grow; omega, fun ha => by
        rcases hAI b ha with q | q | q
        · exact E.disj b id hi ho q
        · exact E.poolI b id hi ho q
        · have := E.there id b hi ho; omega⟩
      nl := fun hh => by have := hlt (heldr hh); omega
      nD := fun hh => by have := hlt (heldr hh); omega
      bl := ⟨by omega, fun ha => by have := ha.1; omega⟩
      bD := ⟨by omega, fun ha => by have := ha.1; omega⟩
      hl := hL1
      hD := hD1
      old := fun b hb hm => by
        have hbw : b < w.heap.size := Nat.lt_of_lt_of_le hb h.grow
        refine ⟨(hx1.block b hbw).trans (h.old b hb hm), ?_⟩
        by_cases ha : A b
        · exact .inl ⟨ha, fun hd => ha.2.2 ((nd1 b hbw).1 hd)⟩
        · exact .inr ⟨by omega, ha⟩
      defs := ⟨h.defers.1, fun d hd => by
        obtain ⟨D', g1, g2, g3, g4⟩ := h.defers.2 d hd
        have hk := heap_lt g4
        exact ⟨D', g1, g2, ⟨⟨by omega, fun ha => ha.2.2 ⟨_, g4, rfl⟩⟩, fun hh => g3.2 (heldr hh)⟩, (hx1.block D' hk).trans g4⟩⟩ }
    let Zs : List (List IV) → GZ := fun p A B w' => I p ∧ ZJ E a.defers (w.heap.size + 1) w.heap.size fn a.tmps ps' cx cy (· = none) (Hr (H0 p)) A B w'
    have hgrow : E.w.heap.size ≤ w.heap.size := h.grow
    have hps2 : ∀ p ∈ ps'.toList, p < n := fun p hp => by simpa using List.all_eq_true.1 hps p hp
    -- where it ends
    let Fin : Option Code → Hp → Prop := fun c K => match c with
      | none => ∃ s', Le ⟨fr, K⟩ s' ∧ O.n s'
      | some .ret => ∃ s', Le ⟨fr, K⟩ s' ∧ O.r s'
      | some (.exit id) => ∃ s', Le ⟨fr, K⟩ s' ∧ O.x id s'
      | _ => False
    let Zx : List (List IV) → List IV → GZ := fun p x => ZJ E a.defers (w.heap.size + 1) w.heap.size fn a.tmps ps' cx cy (fun c => c.isNone = false ∧ Fin c (Hr (Hx p x))) (Hr (Hx p x))
    have hone : ∀ pre x, Pre pre x → YSpec P (w.heap.size + 1) x (Zs pre) (cont pre x) (if cont pre x then Zs (pre ++ [x]) else Zx pre x) := by
      intro pre x hp
      by_cases hIp : I pre
      · by_cases hcn : cont pre x = true
        · rw [hcn, if_pos rfl]
          obtain ⟨hI1, hr1⟩ := hround (frVs a.tmps fr) pre x hIp hp hcn
          refine (round_ok (r := r) (fr := fr) (H := Hr (H0 pre)) (H' := Hr (H0 (pre ++ [x]))) hX hY rx ry hps2 (by rw [hlen pre x hp]; simp) h.size (by omega) (by omega) (by omega) (by rw [lkr, if_pos rfl]) (· = none) true (fun c hc => by subst hc; rfl) ?_).conv
            (fun A B w' hz => hz.2) (fun A B w' hz => ⟨hI1, hz⟩)
          exact hr1.mono (fun s' hs' => hs'.mono (fun s2 h => ⟨rfl, h⟩) (fun _ _ h => h.elim) (fun _ h => h.elim) (fun _ _ h => h)) (fun _ _ h => h) (fun _ h => h) (fun _ _ h => h)
        · have hcn : cont pre x = false := by simpa using hcn
          rw [hcn, if_neg (by simp)]
          refine (round_ok (r := r) (fr := fr) (H := Hr (H0 pre)) (H' := Hr (Hx pre x)) hX hY rx ry hps2 (by rw [hlen pre x hp]; simp) h.size (by omega) (by omega) (by omega) (by rw [lkr, if_pos rfl]) (fun c => c.isNone = false ∧ Fin c (Hr (Hx pre x))) false (fun c hc => hc.1) ?_).conv
            (fun A B w' hz => hz.2) (fun A B w' hz => hz)
          exact (hstop (frVs a.tmps fr) pre x hIp hp hcn).mono (fun s' hs' => hs'.mono (fun s2 h => h.elim) (fun id s2 ⟨q1, q2⟩ => ⟨⟨rfl, q2⟩, q1⟩) (fun s2 ⟨q1, q2⟩ => ⟨⟨rfl, q2⟩, q1⟩) (fun _ _ h => h)) (fun _ _ h => h) (fun _ h => h) (fun _ _ h => h)
      · exact fun A B w' vs _ _ _ hg _ _ => absurd hg.now.1 hIp
    have hend : ∀ A B w', ZE S Zs Zx A B w' → ∃ c K, ZC E a.defers (Hr K) (w.heap.size + 1) w.heap.size (recOf fn a.tmps ps' cx cy w.heap.size c) A B w' ∧ Fin c (Hr K) := by
      rintro A B w' (⟨xs, hS, hIx, c, hc, hz⟩ | ⟨pre, x, c, hc, hz⟩)
      · exact ⟨c, H0 xs, hz, by subst hc; exact hfin _ xs hIx hS⟩
      · exact ⟨c, Hx pre x, hz, hc.2⟩
    have hgs := hspec (w.heap.size + 1) Zs Zx cont hone
    -- the function that is ranged over
    have hgv := h'.ev g
    rw [hg] at hgv
    generalize hgvv : a.eval g = gv at hgv
    cases hgv with
    | fn _ _ _ vf vc hvf hvc q1 q2 =>
    obtain rfl : vf = #[] := Array.eq_empty_of_size_eq_zero (by simpa using hvf)
    let ψg : Pl := ⟨fun _ => none, fun id b => id = 1000 ∧ B b⟩
    have lk1 : ∀ {o : Ob} {id : Nat} {q : Ob}, look [(1000, o)] id = some q → id = 1000 ∧ q = o := by
      intro o id q h
      simp only [look] at h
      split at h
      · exact ⟨by omega, by cases h; rfl⟩
      · cases h
    have hheld1 : ∀ {b}, Held ψg [(1000, Ob.gh (Zs []) [] [])] b → B b := by
      rintro b ⟨id, o, ho, hb⟩
      rcases hb with ⟨k, hb⟩ | hb
      · cases hb
      · exact hb.2
    have hz0 : GOk (ZJ E a.defers (w.heap.size + 1) w.heap.size fn a.tmps ps' cx cy (· = none) (Hr (H0 []))) A B W1 := ZJ.gok ⟨none, rfl, ψr, hH ▸ hz⟩
    have hcall := hgs.2 A ψg W1 (.func (.yield (w.heap.size + 1)) #[] #[] :: vc.toList) (fun b hb => by have := hb.1; omega)
      (fun id o ho => by
        obtain ⟨rfl, rfl⟩ := lk1 ho
        exact ⟨rfl, GOk.mono (Z := Zs []) (A := A) (B := B) (w := W1) (fun A' B' w' k1 k2 k3 k4 => ⟨hI0, hz0 A' B' w' k1 k2 k3 k4⟩) (fun _ _ h => h) (fun b hb => ⟨rfl, hb⟩) (fun _ _ _ => rfl) (fun _ _ => rfl), rfl, by simp⟩)
      (fun id id' o o' b q1 q2 _ _ => by obtain ⟨rfl, _⟩ := lk1 q1; obtain ⟨rfl, _⟩ := lk1 q2; rfl)
      (fun id o b ho hb => by obtain ⟨rfl, rfl⟩ := lk1 ho; exact ⟨rfl, hb.2.1, fun _ h => by cases h⟩)
      (fun b hb => (hheld1 hb).2) (by simp [hvc])
      (fun i x hx => by
        cases i with
        | zero => simp only [List.getElem?_cons_zero, Option.some.injEq] at hx; subst hx; exact .iv _ _ (.v _ rfl)
        | succ i =>
          simp only [List.getElem?_cons_succ, List.getElem?_map] at hx
          obtain ⟨y, hy, rfl⟩ := Option.map_eq_some_iff.1 hx
          have := q2 i (.val y) (by simp [hy])
          rw [List.getD_cons_succ, toList_getD]
          cases this with
          | val _ _ hv => exact .iv _ _ (hv.dat.mono hDatA (fun _ _ _ => rfl)))
    refine ⟨w.heap.size + 1, [{ target := .collected w.heap.size, args := #[] }], W1, { target := .fn (.func f) vc, args := #[.func (.yield (w.heap.size + 1)) #[] #[]] }, W1, f,
      (.func (.yield (w.heap.size + 1)) #[] #[] :: vc.toList).toArray, W1, ?_, ?_, fun _ _ => trivial, ?_, (fun h => by cases h), ?_⟩
    · rw [← hW1]; exact run_enterLoop_outer _ _ _ _ _
    · simp only [resolve, hgvv]
      simp [go_sem]
    · have e1 : (Value.func (.yield (w.heap.size + 1)) #[] #[] :: vc.toList).toArray = #[.func (.yield (w.heap.size + 1)) #[] #[]] ++ vc := by apply Array.ext'; simp
      rw [e1]
      simp only [invoke]
      exact okFn_run hok _ _
    · refine callsIn_wideR (ro := none) (Calls.mono hcall ?_)
      rintro e w' ⟨v, ψ', rfl, k1, k2, k3, k4, k5, k6, kS, k7, k8⟩
      obtain ⟨_, hgok, _, _⟩ := k7 1000 (.gh (ZE S Zs Zx) [] []) rfl
      obtain ⟨c, K, ⟨ψf, hf⟩, hfc⟩ := hend _ _ _ hgok.now
      have hnb : (recOf fn a.tmps ps' cx cy w.heap.size c).state ≠ .busy := by cases c <;> simp [recOf]
      refine ⟨c, _, run_endLoop hf.hl hnb, ?_⟩
      have hIm : ∀ b, b < w'.heap.size → II E ψf (Hr K) (fun b => ((false = false ∧ A b) ∨ W1.heap.size ≤ b) ∧ ¬ Held ψ' [(1000, .gh (ZE S Zs Zx) [] [])] b) (ψ'.sub 1000) w' b → Im E ψf (Hr K) b := by
        rintro b _ ⟨q, hnh⟩
        refine ⟨?_, hnh⟩
        rcases q with ⟨⟨⟨_, q⟩ | q, _⟩, _⟩ | ⟨_, q⟩
        · exact hAI b q
        · exact .inr (.inr (by omega))
        · exact q
      have hdefs : DefOk E.w.heap.size (Im E ψf (Hr K)) w' ({ target := .collected w.heap.size, args := #[] } :: a.defers) := by
        refine ⟨List.nodup_cons.2 ⟨fun hm => ?_, h.defers.1⟩, fun d hd => ?_⟩
        · obtain ⟨D', g1, g2, g3, g4⟩ := h.defers.2 _ hm
          simp only [Deferred.mk.injEq, Target.collected.injEq] at g1
          have := heap_lt g4
          omega
        · rcases List.mem_cons.1 hd with rfl | hd
          · exact ⟨w.heap.size, rfl, hgrow, ⟨.inr (.inr hgrow), hf.nD⟩, hf.hD⟩
          · obtain ⟨D', g1, g2, g3, g4⟩ := hf.defs.2 d hd
            exact ⟨D', g1, g2, ⟨.inr (.inr g2), g3.2⟩, g4⟩
      have hg2 : E.w.heap.size ≤ w'.heap.size := by omega
      have hsim : SimAt E n ψf ⟨fr, Hr K⟩ { tmps := a.tmps, defers := { target := .collected w.heap.size, args := #[] } :: a.defers } w' := {
        size := h.size
        defers := hdefs
        frame := fun t => (frame_of_gh (hf.obs r _ (by rw [lkr, if_pos rfl])) (Hr K) t).mono hIm (fun _ _ _ => rfl) (Keeps.refl _ _)
        obs := fun id o ho => (hf.obs id o ho).mono hIm (fun _ _ _ => rfl) (Keeps.refl _ _) ⟨rfl, fun _ h => h⟩ (fun _ _ => rfl)
        inj := hf.inj
        own := hf.own
        subs := hf.subs
        par := hf.par
        old := fun b hb hm => (hf.old b hb hm).1
        grow := hg2
        same := ⟨k3.os.trans (hx1.same.1.trans h.same.1), k3.tape.trans (hx1.same.2.1.trans h.same.2.1), k3.output.trans (hx1.same.2.2.trans h.same.2.2)⟩ }
      have hne : ∀ o b, b ≠ w.heap.size + 1 → (w'.putObj (w.heap.size + 1) o).heap[b]? = w'.heap[b]? := fun o b hb => World.putObj_heap_other hb
      have hsim2 : ∀ o, SimAt E n ψf ⟨fr, Hr K⟩ { tmps := a.tmps, defers := { target := .collected w.heap.size, args := #[] } :: a.defers } (w'.putObj (w.heap.size + 1) o) := fun o => by
        refine hsim.ctl (E2 := E) (o' := o) ⟨_, hf.hl, rfl⟩ hf.nl rfl rfl rfl rfl rfl ⟨rfl, rfl, rfl⟩ (fun b hb hm => ?_) ⟨hdefs.1, fun d hd => ?_⟩
        · rw [hne o b (by omega)]; exact hsim.old b hb hm
        · obtain ⟨D', g1, g2, g3, g4⟩ := hdefs.2 d hd
          refine ⟨D', g1, g2, g3, ?_⟩
          rw [hne o D' (fun e => by subst e; rw [hf.hl] at g4; cases g4)]
          exact g4
      cases c with
      | none => obtain ⟨s', q1, q2⟩ := hfc; exact ⟨s', q1 E n _ _ ⟨ψf, hsim2 _⟩, q2⟩
      | some c =>
        cases c with
        | ret => obtain ⟨s', q1, q2⟩ := hfc; exact wpIn_ret ⟨s', q1 E n _ _ ⟨ψf, hsim2 _⟩, q2⟩
        | exit id => obtain ⟨s', q1, q2⟩ := hfc; exact wpIn_exit ⟨s', q1 E n _ _ ⟨ψf, hsim2 _⟩, q2⟩
        | _ => exact hfc.elim
  all_goals first
    | (rcases compReg_shape hc with ⟨_, hc, _⟩ | ⟨_, hc, _⟩ <;> cases hc)
    | (obtain ⟨_, _, hc⟩ := bind_some hc; first | cases hc | exact (scopeOf_no hc (fun _ h => by cases h) (fun _ _ _ h => by cases h)).elim | (obtain ⟨_, _, hc⟩ := bind_some hc; first | cases hc | (obtain ⟨_, _, hc⟩ := bind_some hc; cases hc)))
end Go.Vm
end

/- What is owed of a function's code, reckoned step by step; states that say less. -/
section
namespace Go.Vm
def loopV (W : St → Outs → Prop) (s : St) (O : Outs) : Prop :=
  ∃ I : Nat → St → Prop, (∃ k s', Le s s' ∧ I k s') ∧ ∀ k s', I k s' → W s' { O with n := fun s2 => ∃ m s3, m < k ∧ Le s2 s3 ∧ I m s3 }
def wpV (P : Program) : VCode → St → Outs → Prop
  | .skip, s, O => O.n s
  | .reg ops, s, O => vops P ops s O.n
  | .any t, s, O => vtree P t s O.n
  | .seq a b, s, O => wpV P a s { O with n := fun s' => wpV P b s' O }
  | .cond x t e, s, O => match s.ev x with
    | .iv (.v (.bool b)) => (b = true → wpV P t s O) ∧ (b = false → wpV P e s O)
    | _ => False
  | .block id c, s, O => wpV P c s { O with x := fun j s' => if j = id then O.n s' else O.x j s' }
  | .loop c, s, O => loopV (wpV P c) s O
  | .exit id, s, O => O.x id s
  | .ret, s, O => O.r s
  | .goto l, s, O => O.g l s
  | .scope c, s, O => wpV P c s { O with g := fun _ _ => False }
  | .scopeL c l r, s, O => wpV P c s { O with g := fun l' s' => l' = l ∧ wpV P r s' { O with g := fun _ _ => False } }
  | .rng g ps x y, s, O => rngV P (wpV P x) (wpV P y) g ps s O
theorem wpV_sound {P : Program} {n : Nat} (hn : n ≤ 999) : ∀ (c : VCode) (s : St) (O : Outs), wpV P c s O → VC P n c s O
  | .skip, s, O, h => vc_skip h
  | .reg ops, s, O, h => vc_reg hn h
  | .any t, s, O, h => vc_any hn h
  | .seq a b, s, O, h => vc_seq ((wpV_sound hn a s _ h).mono (fun s' h => wpV_sound hn b s' O h) (fun _ _ h => h) (fun _ h => h) (fun _ _ h => h))
  | .cond x t e, s, O, h => by
    simp only [wpV] at h
    split at h
    · rename_i b hb
      exact vc_cond hb (fun ht => wpV_sound hn t s O (h.1 ht)) (fun he => wpV_sound hn e s O (h.2 he))
    · exact h.elim
  | .block id c, s, O, h => vc_block (wpV_sound hn c s _ h)
  | .loop c, s, O, h => by
    obtain ⟨I, h0, hr⟩ := h
    exact vc_loop I h0 fun k s' hI => wpV_sound hn c s' _ (hr k s' hI)
  | .exit id, s, O, h => vc_exit h
  | .ret, s, O, h => vc_ret h
  | .goto l, s, O, h => vc_goto h
  | .scope c, s, O, h => vc_scope (wpV_sound hn c s _ h)
  | .scopeL c l r, s, O, h => vc_scopeL (fun s' => wpV P r s' { O with g := fun _ _ => False }) (wpV_sound hn c s _ h) (fun s' h => wpV_sound hn r s' _ h)
  | .rng g ps x y, s, O, h => vc_rng (rngV_mono' (fun s O h => wpV_sound hn x s O h) (fun s O h => wpV_sound hn y s O h) (fun h1 h2 h3 h4 h => VC.mono h h1 h2 h3 h4) h)
theorem vop1_mono {P : Program} {o : VOp} {s : St} {K K' : St → Prop} (hK : ∀ s, K s → K' s) (hst : ∀ d (s : St) (K K' : St → AV → Prop), (∀ s x, K s x → K' s x) → ∀ r, stp P d s K r → stp P d s K' r) (h : vop1 P o s K) : vop1 P o s K' := by
  unfold vop1 at *
  split at h
  · exact hst _ _ _ _ (fun s x h => hK _ h) _ h
  · split at h
    · exact ⟨fun hc => hst _ _ _ _ (fun s x h => hK _ h) _ (h.1 hc), fun hc => hK _ (h.2 hc)⟩
    · exact hK _ h
    · exact h.elim
section
variable {P : Program} {s s' : St} {O : Outs}
@[congr] theorem wpV_congr {c : VCode} (h : s = s') : wpV P c s O = wpV P c s' O := by rw [h]
@[congr] theorem vops_congr {l : List VOp} {K : St → Prop} (h : s = s') : vops P l s K = vops P l s' K := by rw [h]
@[congr] theorem vop1_congr {o : VOp} {K : St → Prop} (h : s = s') : vop1 P o s K = vop1 P o s' K := by rw [h]
@[congr] theorem vtree_congr {t : VT} {K : St → Prop} (h : s = s') : vtree P t s K = vtree P t s' K := by rw [h]
@[congr] theorem stp_congr {d : Nat} {r : Rhs} {K : St → AV → Prop} (h : s = s') : stp P d s K r = stp P d s' K r := by rw [h]
@[congr] theorem loopV_congr {W : St → Outs → Prop} (h : s = s') : loopV W s O = loopV W s' O := by rw [h]
@[congr] theorem callK_congr {d : Nat} {f : FuncId} {pre post : List CapV} {ops : List Operand} {y : Option Operand} {K : St → AV → Prop} (h : s = s') :
    callK P d f pre ops post y s K = callK P d f pre ops post y s' K := by rw [h]
@[congr] theorem Ends_congr {fr : Bool} {rs : List VRes} {res : AV} {H' : Hp} (h : s = s') : Ends fr rs res H' s = Ends fr rs res H' s' := by rw [h]
end
/-! ### States that say less -/
def St.drops (s : St) (D : List Nat) : St := D.foldl (fun s i => s.drop i) s
theorem le_drops (D : List Nat) (hD : D.all (· < 1000) = true) (s : St) : Le s (s.drops D) := by
  induction D generalizing s with
  | nil => exact Le.refl s
  | cons i D ih =>
    simp only [List.all_cons, Bool.and_eq_true, decide_eq_true_eq] at hD
    refine Le.trans (fun E n a w h => ?_) (ih hD.2 (s.drop i))
    obtain ⟨ψ, h⟩ := h
    exact ⟨ψ, h.drop hD.1⟩
theorem le_same {s s' : St} (hf : ∀ t, s'.get t = .junk ∨ s'.get t = s.get t) (hh : ∀ id, look s'.hp id = look s.hp id) : Le s s' := by
  rintro E n a w ⟨ψ, h⟩
  have hI : ∀ b, Im E ψ s.hp b → Im E ψ s'.hp b := fun b hb => ⟨hb.1, fun hx => hb.2 ((held_hp hh b).1 hx)⟩
  have hk : Keeps ψ ψ s.hp s'.hp := fun id o ho => ⟨⟨o, by rw [hh]; exact ho, o.le_refl⟩, rfl⟩
  refine ⟨ψ, { h with defers := h.defers.mono (fun b _ hb => hI b hb) (fun _ _ _ => rfl), frame := fun t => ?_, obs := fun id o ho => ?_, inj := fun id id' o o' b g1 g2 => ?_, own := fun id o b ho => ?_, subs := fun id o b ho => ?_ }⟩
  · rcases hf t with e | e
    · rw [e]; exact .junk _
    · rw [e]; exact (h.frame t).mono (fun b _ hb => hI b hb) (fun _ _ _ => rfl) hk
  · rw [hh] at ho
    exact (h.obs id o ho).mono (fun b _ hb => hI b hb) (fun _ _ _ => rfl) hk ⟨rfl, fun _ h => h⟩ (fun _ _ => rfl)
  · rw [hh] at g1 g2
    exact h.inj id id' o o' b g1 g2
  · rw [hh] at ho
    exact h.own id o b ho
  · rw [hh] at ho
    exact h.subs id o b ho
theorem look_none_of {α : Type} : ∀ {l : List (Nat × α)} {k : Nat}, (∀ p ∈ l, p.1 ≠ k) → look l k = none
  | [], _, _ => rfl
  | (j, y) :: r, k, h => by
    simp only [look]
    rw [if_neg (h (j, y) List.mem_cons_self)]
    exact look_none_of fun p hp => h p (List.mem_cons_of_mem _ hp)
def frLe (s : St) : List (Nat × AV) → Prop
  | [] => True
  | (t, x) :: r => s.get t = x ∧ frLe s r
def hpLe (H : Hp) : Hp → Prop
  | [] => True
  | (id, o) :: r => look H id = some o ∧ hpLe H r
theorem frLe_mem {s : St} : ∀ {l : List (Nat × AV)}, frLe s l → ∀ p ∈ l, s.get p.1 = p.2
  | [], _, p, hp => by cases hp
  | (t, x) :: r, h, p, hp => by
    rcases List.mem_cons.1 hp with rfl | hp
    · exact h.1
    · exact frLe_mem h.2 p hp
theorem hpLe_mem {H : Hp} : ∀ {l : Hp}, hpLe H l → ∀ p ∈ l, look H p.1 = some p.2
  | [], _, p, hp => by cases hp
  | (t, x) :: r, h, p, hp => by
    rcases List.mem_cons.1 hp with rfl | hp
    · exact h.1
    · exact hpLe_mem h.2 p hp
def keysIn (H : Hp) (l : Hp) : Bool := H.all fun p => l.any fun q => q.1 == p.1
theorem hp_eq {H l : Hp} (h1 : hpLe H l) (h2 : keysIn H l = true) (id : Nat) : look l id = look H id := by
  cases hl : look l id with
  | some o => exact (hpLe_mem h1 _ (look_some_mem hl)).symm
  | none =>
    refine (look_none_of fun p hp e => ?_).symm
    subst e
    have := List.all_eq_true.1 h2 p hp
    obtain ⟨q, hq, e⟩ := List.any_eq_true.1 this
    simp only [beq_iff_eq] at e
    have : ∀ {l : Hp}, q ∈ l → look l p.1 ≠ none := by
      intro l
      induction l with
      | nil => intro h; cases h
      | cons x l ih =>
        obtain ⟨j, y⟩ := x
        intro h
        simp only [look]
        split
        · simp
        · rcases List.mem_cons.1 h with rfl | h
          · rename_i hne; exact absurd e hne
          · exact ih h
    exact this hq hl
theorem le_to (D : List Nat) {s s' : St} (hD : D.all (· < 1000) = true) (hf : frLe (s.drops D) s'.fr) (hh : hpLe (s.drops D).hp s'.hp) (hk : keysIn (s.drops D).hp s'.hp = true) : Le s s' := by
  refine Le.trans (le_drops D hD s) (le_same (fun t => ?_) (hp_eq hh hk))
  cases hl : look s'.fr t with
  | none => left; simp [St.get, hl]
  | some x =>
    right
    have := frLe_mem hf _ (look_some_mem hl)
    simp only at this
    rw [this]
    simp [St.get, hl]
end Go.Vm
end

/- What is stronger stays so. -/
section
namespace Go.Vm
theorem callK_mono {P : Program} {d : Nat} {f : FuncId} {pre post : List CapV} {ops : List Operand} {y : Option Operand} {s : St} {K K' : St → AV → Prop} (hK : ∀ s x, K s x → K' s x)
    (h : callK P d f pre ops post y s K) : callK P d f pre ops post y s K' := by
  unfold callK at *
  obtain ⟨s0, h0, fr, H, R, s1, a, b, as, d, c, k⟩ := h
  exact ⟨s0, h0, fr, H, R, s1, a, b, as, d, c, fun r K e => hK _ _ (k r K e)⟩
theorem yieldK_mono {P : Program} {l : Nat} {ops : List Operand} {s : St} {K K' : St → AV → Prop} (hK : ∀ s x, K s x → K' s x) (h : yieldK P l ops s K) : yieldK P l ops s K' := by
  obtain ⟨s1, g, Z, b, Z', xs, h1, h2, h3, h4, h5⟩ := h
  exact ⟨s1, g, Z, b, Z', xs, h1, h2, h3, h4, hK _ _ h5⟩
theorem stp_mono {P : Program} {d : Nat} {s : St} {K K' : St → AV → Prop} (hK : ∀ s x, K s x → K' s x) (r : Rhs) : stp P d s K r → stp P d s K' r := by
  unfold stp
  repeat' split
  all_goals intro h
  all_goals first
    | exact hK _ _ h
    | exact h.elim
    | exact ⟨h.1, hK _ _ h.2⟩
    | exact ⟨h.1, h.2.1, hK _ _ h.2.2⟩
    | exact ⟨h.1, h.2.1, h.2.2.1, hK _ _ h.2.2.2⟩
    | exact ⟨h.1, h.2.1, h.2.2.1, h.2.2.2.1, hK _ _ h.2.2.2.2⟩
    | exact ⟨h.1, h.2.1, h.2.2.1, h.2.2.2.1, h.2.2.2.2.1, hK _ _ h.2.2.2.2.2⟩
    | exact ⟨h.1, h.2.1, h.2.2.1, h.2.2.2.1, h.2.2.2.2.1, h.2.2.2.2.2.1, hK _ _ h.2.2.2.2.2.2⟩
    | exact ⟨h.1, h.2.1, h.2.2.1, h.2.2.2.1, h.2.2.2.2.1, h.2.2.2.2.2.1, h.2.2.2.2.2.2.1, hK _ _ h.2.2.2.2.2.2.2⟩
    | exact ⟨h.1, h.2.1, h.2.2.1, h.2.2.2.1, h.2.2.2.2.1, h.2.2.2.2.2.1, h.2.2.2.2.2.2.1, h.2.2.2.2.2.2.2.1, hK _ _ h.2.2.2.2.2.2.2.2⟩
    | exact fun b hb => hK _ _ (h b hb)
    | exact fun c hc => hK _ _ (h c hc)
    | exact ⟨h.1, h.2.1, fun n => hK _ _ (h.2.2 n)⟩
    | exact ⟨h.1, fun L a b c => hK _ _ (h.2 L a b c)⟩
    | exact ⟨fun e => hK _ _ (h.1 e), fun k c a b e => hK _ _ (h.2 k c a b e)⟩
    | exact callK_mono hK h
    | exact ⟨h.1, callK_mono hK h.2⟩
    | exact ⟨h.1, h.2.1, yieldK_mono hK h.2.2⟩
    | exact h
theorem vops_mono {P : Program} : ∀ {l : List VOp} {s : St} {K K' : St → Prop}, (∀ s, K s → K' s) → vops P l s K → vops P l s K'
  | [], s, K, K', hK, h => hK _ h
  | o :: r, s, K, K', hK, h => vop1_mono (fun _ h => vops_mono hK h) (fun _ _ _ _ hK _ => stp_mono hK _) h
theorem vtree_mono {P : Program} : ∀ {t : VT} {s : St} {K K' : St → Prop}, (∀ s, K s → K' s) → vtree P t s K → vtree P t s K'
  | .done, s, K, K', hK, h => hK _ h
  | .op o t, s, K, K', hK, h => vop1_mono (fun _ h => vtree_mono hK h) (fun _ _ _ _ hK _ => stp_mono hK _) h
  | .alt a b, s, K, K', hK, h => ⟨vtree_mono hK h.1, vtree_mono hK h.2⟩
theorem wpV_mono {P : Program} (c : VCode) : ∀ {s : St} {O O' : Outs}, (∀ s, O.n s → O'.n s) → (∀ i s, O.x i s → O'.x i s) → (∀ s, O.r s → O'.r s) → (∀ i s, O.g i s → O'.g i s) → wpV P c s O → wpV P c s O' := by
  induction c with
  | skip => exact fun hn hx hr hg h => hn _ h
  | reg ops => exact fun hn hx hr hg h => vops_mono hn h
  | any t => exact fun hn hx hr hg h => vtree_mono hn h
  | seq a b iha ihb =>
    intro s O O' hn hx hr hg h
    exact iha (O := { O with n := fun s' => wpV P b s' O }) (O' := { O' with n := fun s' => wpV P b s' O' }) (fun _ h => ihb hn hx hr hg h) hx hr hg h
  | cond x t e iht ihe =>
    intro s O O' hn hx hr hg h
    simp only [wpV] at h ⊢
    split at h
    · exact ⟨fun hb => iht hn hx hr hg (h.1 hb), fun hb => ihe hn hx hr hg (h.2 hb)⟩
    · exact h.elim
  | block id c ih =>
    intro s O O' hn hx hr hg h
    refine ih (O := { O with x := fun j s' => if j = id then O.n s' else O.x j s' }) (O' := { O' with x := fun j s' => if j = id then O'.n s' else O'.x j s' }) hn (fun i s h => ?_) hr hg h
    simp only at h ⊢
    split
    · rw [if_pos (by assumption)] at h; exact hn _ h
    · rw [if_neg (by assumption)] at h; exact hx _ _ h
  | loop c ih =>
    intro s O O' hn hx hr hg h
    obtain ⟨I, hi, h⟩ := h
    exact ⟨I, hi, fun k s' hs => ih (O := { O with n := fun s2 => ∃ m s3, m < k ∧ Le s2 s3 ∧ I m s3 }) (O' := { O' with n := fun s2 => ∃ m s3, m < k ∧ Le s2 s3 ∧ I m s3 }) (fun _ h => h) hx hr hg (h k s' hs)⟩
  | exit id => exact fun hn hx hr hg h => hx _ _ h
  | ret => exact fun hn hx hr hg h => hr _ h
  | goto l => exact fun hn hx hr hg h => hg _ _ h
  | scope c ih =>
    intro s O O' hn hx hr hg h
    exact ih (O := { O with g := fun _ _ => False }) (O' := { O' with g := fun _ _ => False }) hn hx hr (fun _ _ h => h) h
  | scopeL c l r ihc ihr =>
    intro s O O' hn hx hr hg h
    exact ihc (O := { O with g := fun l' s' => l' = l ∧ wpV P r s' { O with g := fun _ _ => False } }) (O' := { O' with g := fun l' s' => l' = l ∧ wpV P r s' { O' with g := fun _ _ => False } }) hn hx hr
      (fun _ _ h => ⟨h.1, ihr (O := { O with g := fun _ _ => False }) (O' := { O' with g := fun _ _ => False }) hn hx hr (fun _ _ h => h) h.2⟩) h
  | rng g ps x y ihx ihy => exact fun hn hx hr hg h => rngV_mono ihx ihy hn hx hr h
end Go.Vm
end
