/- An abstract machine beside the model (third part): operations, code, functions. Conditions: those of each theorem. -/
import Derived.Test.YtahalmofaboejaaGreatMB
import Derived.Laws.MakeOwn
import Derived.Maps.RangeRun
import Derived.Scope
import Derived.ScopeJumps
import Derived.Orders
import Derived.Stop.Looks

set_option linter.unusedVariables false
set_option linter.unusedSimpArgs false

/- Stores into maps; deletions; how many entries there are. -/
section
namespace Go.Vm
theorem sameBits_prim {v : Value} {k : Kd} (h : kdOf v = some k) (n : Nat) : Instr.sameBits n v v = true := by
  cases v <;> simp [kdOf] at h <;> cases n <;> simp [Instr.sameBits, bytes_beq]
theorem sameBits_key {v : Value} {ag : Bool} {ks : List Kd} (h : skOf v = some (ag, ks)) : Instr.sameBits 10000 v v = true := by
  rcases skOf_cases h with ⟨cs, rfl, h1, h2, h3⟩ | ⟨k, h1, h2, h3, h4⟩
  · rw [show (10000 : Nat) = 9999 + 1 from rfl]
    simp only [Instr.sameBits, beq_self_eq_true, Bool.true_and, List.all_eq_true]
    have aux : ∀ (l : List Value) (ks : List Kd), l.mapM kdOf = some ks → ∀ p ∈ l.zip l, Instr.sameBits 9999 p.1 p.2 = true := by
      intro l
      induction l with
      | nil => intro ks _ p hp; simp at hp
      | cons x r ih =>
        intro ks hm p hp
        rw [List.mapM_cons] at hm
        cases hx : kdOf x with
        | none => simp [hx] at hm
        | some kx =>
          cases hq : r.mapM kdOf with
          | none => simp [hx, hq] at hm
          | some q =>
            rw [List.zip_cons_cons] at hp
            rcases List.mem_cons.1 hp with rfl | hp
            · exact sameBits_prim hx _
            · exact ih q hq p hp
    exact fun p hp => aux _ _ h2 p hp
  · exact sameBits_prim h3 _
theorem gset_same (g : List Value → Option (List IV)) (k : List Value) (c : Option (List IV)) : gset g k c k = c := by simp [gset]
theorem gset_ne (g : List Value → Option (List IV)) {k q : List Value} (c : Option (List IV)) (h : q ≠ k) : gset g k c q = g q := by simp [gset, h]
theorem Born.push {es : Array MapEntry} {clock : Nat} (h : Born es clock) (e : MapEntry) (he : e.born = clock) : Born (es.push e) (clock + 1) := by
  obtain ⟨h1, h2⟩ := h
  constructor
  · intro x hx
    rw [Array.toList_push, List.mem_append, List.mem_singleton] at hx
    rcases hx with hx | rfl
    · exact Nat.lt_succ_of_lt (h1 x hx)
    · omega
  · rw [Array.toList_push, List.map_append, List.nodup_append]
    refine ⟨h2, by simp, ?_⟩
    intro x hx y hy hxy
    rw [List.map_singleton, List.mem_singleton] at hy
    obtain ⟨z, hz, hzx⟩ := List.mem_map.1 hx
    have := h1 z hz
    omega
theorem born_modify (es : Array MapEntry) (i : Nat) (f : MapEntry → MapEntry) (hf : ∀ e, (f e).born = e.born) : (es.modify i f).toList.map (·.born) = es.toList.map (·.born) := by
  apply List.ext_getElem?
  intro j
  rw [List.getElem?_map, List.getElem?_map, Array.getElem?_toList, Array.getElem?_modify, Array.getElem?_toList]
  split
  · cases es[j]? <;> simp [hf]
  · rfl
theorem Born.of_map {es es' : Array MapEntry} {clock : Nat} (h : Born es clock) (he : es'.toList.map (·.born) = es.toList.map (·.born)) : Born es' clock := by
  obtain ⟨h1, h2⟩ := h
  refine ⟨fun x hx => ?_, by rw [he]; exact h2⟩
  have : x.born ∈ es'.toList.map (·.born) := List.mem_map.2 ⟨x, hx, rfl⟩
  rw [he] at this
  obtain ⟨y, hy, e⟩ := List.mem_map.1 this
  rw [← e]; exact h1 y hy
theorem Born.modify {es : Array MapEntry} {clock : Nat} (h : Born es clock) (i : Nat) (f : MapEntry → MapEntry) (hf : ∀ e, (f e).born = e.born) : Born (es.modify i f) clock :=
  h.of_map (born_modify es i f hf)
theorem Born.erase {es : Array MapEntry} {clock : Nat} (h : Born es clock) (i : Nat) : Born (es.eraseIdxIfInBounds i) clock := by
  by_cases hi : i < es.size
  · have htl : (es.eraseIdxIfInBounds i).toList = es.toList.eraseIdx i := by
      simp [Array.eraseIdxIfInBounds, hi, Array.toList_eraseIdx]
    refine ⟨fun x hx => ?_, ?_⟩
    · rw [htl] at hx; exact h.1 x (List.mem_of_mem_eraseIdx hx)
    · rw [htl]; exact h.2.sublist (List.Sublist.map _ (List.eraseIdx_sublist _ _))
  · have : es.eraseIdxIfInBounds i = es := by simp [Array.eraseIdxIfInBounds, hi]
    rw [this]; exact h
section
variable {A : Nat → Prop} {w : World}
theorem RMap.modify {A' : Nat → Prop} {w' : World} {sk : Sk} {g : List Value → Option (List IV)} {es : Array MapEntry} (h : RMap A w sk g es) (tr : ∀ x v, RIV A w x v → RIV A' w' x v) {j : Nat} {e : MapEntry} (he : es[j]? = some e) {val : Value} {c : List IV}
    (hv : isAggV val = sk.2.2) (hl : val.cells.size = c.length) (hc : ∀ i x, c[i]? = some x → RIV A' w' x (val.cells.getD i undef)) :
    RMap A' w' sk (gset g (keyOf e.key) (some c)) (es.modify j fun e => { e with val := val }) := by
  obtain ⟨h1, h2, h3, h4⟩ := h
  have hget : ∀ i, (es.modify j fun e => { e with val := val })[i]? = if j = i then (es[i]?).map (fun e => { e with val := val }) else es[i]? := by
    intro i
    rw [Array.getElem?_modify]
  have hmem : ∀ e' ∈ (es.modify j fun e => { e with val := val }).toList, (e' = { e with val := val }) ∨ (e' ∈ es.toList ∧ ∃ i, i ≠ j ∧ es[i]? = some e') := by
    intro e' he'
    obtain ⟨i, hi⟩ := List.getElem?_of_mem he'
    rw [Array.getElem?_toList, hget] at hi
    split at hi
    · rename_i hji
      subst hji
      rw [he] at hi
      simp only [Option.map_some, Option.some.injEq] at hi
      exact .inl hi.symm
    · rename_i hji
      exact .inr ⟨by rw [← Array.getElem?_toList] at hi; exact List.mem_of_getElem? hi, i, fun e => hji e.symm, hi⟩
  have hee : e ∈ es.toList := by rw [← Array.getElem?_toList] at he; exact List.mem_of_getElem? he
  have hnew : ({ e with val := val } : MapEntry) ∈ (es.modify j fun e => { e with val := val }).toList := by
    refine List.mem_of_getElem? (i := j) ?_
    rw [Array.getElem?_toList, hget, if_pos rfl, he]; rfl
  have hkeys : (es.modify j fun e => { e with val := val }).toList.map (fun e => keyOf e.key) = es.toList.map (fun e => keyOf e.key) := by
    apply List.ext_getElem?
    intro i
    rw [List.getElem?_map, List.getElem?_map, Array.getElem?_toList, hget, Array.getElem?_toList]
    split
    · cases es[i]? <;> rfl
    · rfl
  refine ⟨fun e' he' => ?_, fun e' he' => ?_, by rw [hkeys]; exact h3, fun k q hq => ?_⟩
  · rcases hmem e' he' with rfl | ⟨hm, _⟩
    · exact ⟨(h1 e hee).1, hv⟩
    · exact h1 e' hm
  · by_cases hk : keyOf e'.key = keyOf e.key
    · exact ⟨c, by rw [hk, gset_same]⟩
    · rw [gset_ne _ _ hk]
      rcases hmem e' he' with rfl | ⟨hm, _⟩
      · exact absurd rfl hk
      · exact h2 e' hm
  · by_cases hk : k = keyOf e.key
    · subst hk
      rw [gset_same] at hq
      cases hq
      exact ⟨_, hnew, rfl, hl, hc⟩
    · rw [gset_ne _ _ hk] at hq
      obtain ⟨e', he', g1, g2, g3⟩ := h4 k q hq
      refine ⟨e', ?_, g1, g2, fun i x hx => tr _ _ (g3 i x hx)⟩
      obtain ⟨i, hi⟩ := List.getElem?_of_mem he'
      refine List.mem_of_getElem? (i := i) ?_
      rw [Array.getElem?_toList, hget]
      rw [Array.getElem?_toList] at hi
      rw [if_neg ?_]
      · exact hi
      · rintro rfl
        rw [he] at hi; cases hi
        exact hk g1.symm
theorem RMap.push {A' : Nat → Prop} {w' : World} {sk : Sk} {g : List Value → Option (List IV)} {es : Array MapEntry} (h : RMap A w sk g es) (tr : ∀ x v, RIV A w x v → RIV A' w' x v) {e : MapEntry} (hno : ∀ e' ∈ es.toList, keyOf e'.key ≠ keyOf e.key) {c : List IV}
    (hf : Fits sk e) (hl : e.val.cells.size = c.length) (hc : ∀ i x, c[i]? = some x → RIV A' w' x (e.val.cells.getD i undef)) :
    RMap A' w' sk (gset g (keyOf e.key) (some c)) (es.push e) := by
  obtain ⟨h1, h2, h3, h4⟩ := h
  have hmem : ∀ e' ∈ (es.push e).toList, e' = e ∨ e' ∈ es.toList := by
    intro e' he'
    rw [Array.toList_push, List.mem_append, List.mem_singleton] at he'
    exact he'.symm
  refine ⟨fun e' he' => ?_, fun e' he' => ?_, ?_, fun k q hq => ?_⟩
  · rcases hmem e' he' with rfl | hm
    · exact hf
    · exact h1 e' hm
  · by_cases hk : keyOf e'.key = keyOf e.key
    · exact ⟨c, by rw [hk, gset_same]⟩
    · rw [gset_ne _ _ hk]
      rcases hmem e' he' with rfl | hm
      · exact absurd rfl hk
      · exact h2 e' hm
  · rw [Array.toList_push, List.map_append, List.nodup_append]
    refine ⟨h3, by simp, ?_⟩
    intro x hx y hy hxy
    rw [List.map_singleton, List.mem_singleton] at hy
    subst hy; subst hxy
    obtain ⟨e', he', e2⟩ := List.mem_map.1 hx
    exact hno e' he' e2
  · by_cases hk : k = keyOf e.key
    · subst hk
      rw [gset_same] at hq
      cases hq
      exact ⟨e, by simp, rfl, hl, hc⟩
    · rw [gset_ne _ _ hk] at hq
      obtain ⟨e', he', g1, g2, g3⟩ := h4 k q hq
      exact ⟨e', by rw [Array.toList_push]; exact List.mem_append_left _ he', g1, g2, fun i x hx => tr _ _ (g3 i x hx)⟩
theorem RMap.erase {A' : Nat → Prop} {w' : World} {sk : Sk} {g : List Value → Option (List IV)} {es : Array MapEntry} (h : RMap A w sk g es) (tr : ∀ x v, RIV A w x v → RIV A' w' x v) {j : Nat} {e : MapEntry} (he : es[j]? = some e) :
    RMap A' w' sk (gset g (keyOf e.key) none) (es.eraseIdxIfInBounds j) := by
  obtain ⟨h1, h2, h3, h4⟩ := h
  have hj : j < es.size := (Array.getElem?_eq_some_iff.1 he).1
  have htl : (es.eraseIdxIfInBounds j).toList = es.toList.eraseIdx j := by
    simp [Array.eraseIdxIfInBounds, hj, Array.toList_eraseIdx]
  have hsub : ∀ e' ∈ es.toList.eraseIdx j, e' ∈ es.toList := fun e' h => List.mem_of_mem_eraseIdx h
  have heg : es.toList[j]? = some e := by rw [Array.getElem?_toList]; exact he
  have hnk : ∀ e' ∈ es.toList.eraseIdx j, keyOf e'.key ≠ keyOf e.key := by
    intro e' he' hk
    obtain ⟨i, hij, hi⟩ := List.mem_eraseIdx_iff_getElem?.1 he'
    have hh := List.pairwise_iff_getElem.1 h3
    have a1 : (es.toList.map fun e => keyOf e.key)[i]? = some (keyOf e.key) := by rw [List.getElem?_map, hi]; simp [hk]
    have a2 : (es.toList.map fun e => keyOf e.key)[j]? = some (keyOf e.key) := by rw [List.getElem?_map, heg]; rfl
    obtain ⟨hil, e1⟩ := List.getElem?_eq_some_iff.1 a1
    obtain ⟨hjl, e2⟩ := List.getElem?_eq_some_iff.1 a2
    rcases Nat.lt_or_gt_of_ne hij with h | h
    · exact hh i j hil hjl h (e1.trans e2.symm)
    · exact hh j i hjl hil h (e2.trans e1.symm)
  refine ⟨fun e' he' => h1 e' (hsub e' (by rw [← htl]; exact he')), fun e' he' => ?_, ?_, fun k q hq => ?_⟩
  · rw [htl] at he'
    rw [gset_ne _ _ (hnk e' he')]
    exact h2 e' (hsub e' he')
  · rw [htl]
    exact h3.sublist (List.Sublist.map _ (List.eraseIdx_sublist _ _))
  · by_cases hk : k = keyOf e.key
    · subst hk
      rw [gset_same] at hq
      cases hq
    · rw [gset_ne _ _ hk] at hq
      obtain ⟨e', he', g1, g2, g3⟩ := h4 k q hq
      refine ⟨e', ?_, g1, g2, fun i x hx => tr _ _ (g3 i x hx)⟩
      rw [htl]
      obtain ⟨i, hi⟩ := List.getElem?_of_mem he'
      refine List.mem_eraseIdx_iff_getElem?.2 ⟨i, ?_, hi⟩
      rintro rfl
      rw [heg] at hi; cases hi
      exact hk g1.symm
theorem RMap.conv {A' : Nat → Prop} {w' : World} {sk : Sk} {g g' : List Value → Option (List IV)} {es : Array MapEntry} (h : RMap A w sk g es) (tr : ∀ x v, RIV A w x v → RIV A' w' x v) (hg : ∀ k, g' k = g k) : RMap A' w' sk g' es := by
  obtain ⟨h1, h2, h3, h4⟩ := h
  refine ⟨h1, fun e he => by rw [hg]; exact h2 e he, h3, fun k q hq => ?_⟩
  rw [hg] at hq
  obtain ⟨e', he', g1, g2, g3⟩ := h4 k q hq
  exact ⟨e', he', g1, g2, fun i x hx => tr _ _ (g3 i x hx)⟩
end
end Go.Vm
end

/- Each operation that changes a map does what the abstract machine's does. -/
section
namespace Go.Vm
section
variable {P : Program} {E : En} {n : Nat} {ψ : Pl} {s : St} {a : Act} {w : World}
variable {dst : Option Nat} {ty : TypeId} {pos : String} {af : Array Edge} {g : Option (Nat × Bool)} {r : Rhs} {d : Nat} {K : St → AV → Prop}
theorem map_chg (h : SimAt E n ψ s a w) {id : Nat} {sk : Sk} {gm gm' : List Value → Option (List IV)} (ho : look s.hp id = some (.map sk gm)) {b clock clock' : Nat} {es es' : Array MapEntry}
    (hb : ψ id = some (b, (0, 0))) (hh : w.heap[b]? = some (.map es clock)) (hbn : Born es' clock')
    (hm : ∀ {A' : Nat → Prop} {w' : World}, (∀ x v, RIV (Im E ψ s.hp) w x v → RIV A' w' x v) → RMap A' w' sk gm' es') :
    SimAt E n ψ (s.add id (.map sk gm')) a { w with heap := w.heap.setIfInBounds b (.map es' clock') } := by
  have hlt : b < w.heap.size := (Array.getElem?_eq_some_iff.1 hh).1
  refine h.chg (o' := .map sk gm') (k := (0, 0)) ho (Ob.le_none rfl) rfl (by simp [Ob.multi]) hb (fun i hi => ?_) (by simp) ⟨rfl, rfl, rfl⟩ (fun _ tr => ⟨b, es', clock', hb, ?_, hbn, hm tr⟩)
  · show (w.heap.setIfInBounds b _)[i]? = _
    rw [Array.getElem?_setIfInBounds_ne (Ne.symm hi)]
  · show (w.heap.setIfInBounds b _)[b]? = _
    simp [hlt]
theorem isAgg_rav {A : Nat → Prop} {H : Hp} {x : AV} {v : Value} (h : RAV A ψ H w x v) {cs : List AV} (hc : x.cellsOf = some cs) : isAggV v = isAggAV x := by
  cases h with
  | agg => rfl
  | iv x v h => cases h with
    | v x h1 => cases v <;> simp_all [Value.oneCell', isAggV, isAggAV]
    | _ => rfl
  | tup => cases hc
  | un => cases hc
  | junk => cases hc
  | _ => rfl
theorem sound_mset0 {t k' e' : TypeId} {m k x : Operand} {sk : Sk} (hu : P.underlying t = some (.map k' e')) (hsk : skT P k' e' = some sk) (h : SimAt E n ψ s a w) (hk : match (s.frz [s.ev x]).ev m, keyAV ((s.frz [s.ev x]).ev k), ((s.frz [s.ev x]).ev x).cellsOf.bind fun cs => cs.mapM AV.iv? with
    | .mpr id, some (sk2, kk), some c => match look (s.frz [s.ev x]).hp id with
      | some (.map sk1 g) => sk1 = sk ∧ sk2 = (sk.1, sk.2.1) ∧ isAggAV ((s.frz [s.ev x]).ev x) = sk.2.2 ∧ K ((s.frz [s.ev x]).add id (.map sk (gset g kk (some c)))) .un
      | _ => False
    | _, _, _ => False)
    {o : Op} (hop : o = .mapUpdate t m k x ∨ o = .insert t m k x) : Does P E n ⟨dst, o, ty, pos, af, g⟩ a w K := by
  obtain ⟨p1, p2, p3, p4⟩ := skT_inv hsk
  have hf := h.frz [s.ev x]
  generalize s.frz [s.ev x] = s1 at hk hf
  have hm := hf.ev m
  have hkv := hf.ev k
  have hx := hf.ev x
  split at hk
  · rename_i id sk2 kk c hme hkey hcs
    split at hk
    · rename_i sk1 gm ho
      obtain ⟨rfl, rfl, hag, hk⟩ := hk
      obtain ⟨hk1, hk2⟩ := keyAV_inv hkv hkey
      rw [p3] at hk1
      rw [hme] at hm
      obtain ⟨b, es, clock, hb, hh, hbn, hr⟩ := hf.obs id _ ho
      have hmv : a.eval m = .map (some b) := by
        generalize a.eval m = vm at hm
        cases hm with
        | mpr _ b' q o' ho' hb' => rw [hb] at hb'; cases hb'; rfl
      cases hc1 : (s1.ev x).cellsOf with
      | none => rw [hc1] at hcs; cases hcs
      | some cs =>
        rw [hc1] at hcs
        simp only [Option.bind_some] at hcs
        obtain ⟨g1, g2⟩ := cellsOf_rav hx hc1
        obtain ⟨v1, v2⟩ := ivs_of hf (vs := (a.eval x).cells.toList) (by simpa using g1) (fun i y hy => by rw [toList_getD]; exact g2 i y hy) hcs
        have hl : (a.eval x).cells.size = c.length := by rw [v1]; exact g1
        have hv : isAggV (a.eval x) = sk1.2.2 := by rw [isAgg_rav hx hc1]; exact hag
        have v2' : ∀ i y, c[i]? = some y → RIV (Im E ψ s1.hp) w y ((a.eval x).cells.getD i undef) := fun i y hy => by rw [← toList_getD]; exact v2 i y hy
        have hall : ∀ e ∈ es.toList, skOf e.key = some (isAggT P k', sk1.2.1) := fun e he => by rw [← p3]; exact (hr.1 e he).1
        have run : ∀ w', (Instr.mapUpdate t (.map (some b)) (a.eval k) (a.eval x)).run P w = .ok () w' → (execOp a.eval ⟨dst, o, ty, pos, af, g⟩).run P w = .ok .skip w' := by
          intro w' hrun
          rcases hop with rfl | rfl <;> simp only [execOp, hmv, Sem.run_bind, hrun, Result.andThen_ok, Sem.run_pure]
        rcases run_findKey (w := w) p1 p2 hk1 es.toList hall with ⟨h1, h2⟩ | ⟨j, e, h1, h2, h3⟩
        · have hno : ∀ e ∈ es.toList, keyOf e.key ≠ keyOf (a.eval k) := fun e he hkk => h2 e he (key_inj (hall e he) hk1 hkk)
          have hsim := map_chg (clock' := clock + 1) hf ho hb hh (hbn.push _ rfl) (gm' := gset gm kk (some c)) (es' := es.push { key := a.eval k, val := a.eval x, born := clock }) (fun tr => by
            rw [← hk2]
            exact hr.push tr (e := { key := a.eval k, val := a.eval x, born := clock }) hno ⟨by rw [p3]; exact hk1, hv⟩ hl (fun i y hy => tr _ _ (v2' i y hy)))
          refine does_skip (run _ ?_) hk hsim
          unfold Instr.mapUpdate
          simp only [Sem.run_bind, Vm.run_underlying w hu, Result.andThen_ok, getObj_map hh, run_check p1 p2 hk1, h1, setObj_map _ hh]
        · have he : e ∈ es.toList := List.mem_of_getElem? h2
          have heg : es[j]? = some e := by rw [← Array.getElem?_toList]; exact h2
          have hsim := map_chg (clock' := clock) hf ho hb hh (hbn.modify _ _ fun _ => rfl) (gm' := gset gm kk (some c)) (es' := es.modify j fun e => { e with val := a.eval x }) (fun tr => by
            rw [← hk2, ← h3]
            exact hr.modify tr heg hv hl (fun i y hy => tr _ _ (v2' i y hy)))
          have hmod : (es.modify j fun e => { e with key := a.eval k, val := a.eval x }) = es.modify j fun e => { e with val := a.eval x } := by
            apply Array.ext'
            apply List.ext_getElem?
            intro i
            rw [Array.getElem?_toList, Array.getElem?_toList, Array.getElem?_modify, Array.getElem?_modify]
            split
            · rename_i hji
              subst hji
              rw [heg]
              simp [h3]
            · rfl
          refine does_skip (run _ ?_) hk hsim
          unfold Instr.mapUpdate
          simp only [Sem.run_bind, Vm.run_underlying w hu, Result.andThen_ok, getObj_map hh, run_check p1 p2 hk1, h1]
          have hst : (Instr.keyThatStays (((es[j]?).map (·.key)).getD (a.eval k)) (a.eval k)).run P w = .ok (a.eval k) w := by
            unfold Instr.keyThatStays
            rw [heg]
            simp only [Option.map_some, Option.getD_some, h3, sameBits_key hk1, if_true, Sem.run_pure]
          rw [hst]
          simp only [Result.andThen_ok, hmod, setObj_map _ hh]
    · exact hk.elim
  · exact hk.elim
theorem sound_mdel {t k' e' : TypeId} {m k : Operand} {ts : Array TypeId} {sk : Sk} (h0 : ts[0]? = some t) (hu : P.underlying t = some (.map k' e')) (hsk : skT P k' e' = some sk) (h : SimAt E n ψ s a w)
    (hk : stp P d s K (.mdel sk m k)) : Does P E n ⟨dst, .call ⟨.builtin .delete, #[m, k], ts⟩, ty, pos, af, g⟩ a w K := by
  simp only [stp] at hk
  obtain ⟨p1, p2, p3, p4⟩ := skT_inv hsk
  have hm := h.ev m
  have hkv := h.ev k
  split at hk
  · rename_i id sk2 kk hme hkey
    split at hk
    · rename_i sk1 gm ho
      obtain ⟨rfl, rfl, hk⟩ := hk
      obtain ⟨hk1, hk2⟩ := keyAV_inv hkv hkey
      rw [p3] at hk1
      rw [hme] at hm
      obtain ⟨b, es, clock, hb, hh, hbn, hr⟩ := h.obs id _ ho
      have hmv : a.eval m = .map (some b) := by
        generalize a.eval m = vm at hm
        cases hm with
        | mpr _ b' q o' ho' hb' => rw [hb] at hb'; cases hb'; rfl
      have hall : ∀ e ∈ es.toList, skOf e.key = some (isAggT P k', sk1.2.1) := fun e he => by rw [← p3]; exact (hr.1 e he).1
      have run : ∀ v w', (Builtin.delete_ ts ty #[.map (some b), a.eval k]).run P w = .ok v w' → (execOp a.eval ⟨dst, .call ⟨.builtin .delete, #[m, k], ts⟩, ty, pos, af, g⟩).run P w = .ok (.value v) w' := by
        intro v w' hrun
        simp only [execOp, resolve, Sem.run_bind, Sem.run_pure, Result.andThen_ok, invoke, builtin]
        simp [hmv, hrun]
      have tup0 : ∀ {A : Nat → Prop} {ψ : Pl} {H : Hp} {w : World}, RAV A ψ H w (.tup []) (.tuple #[]) := .tup _ _ rfl (by simp)
      rcases run_findKey (w := w) p1 p2 hk1 es.toList hall with ⟨h1, h2⟩ | ⟨j, e, h1, h2, h3⟩
      · have hnone : gm kk = none := by
          cases hc : gm kk with
          | none => rfl
          | some c =>
            obtain ⟨e, he, g1, _⟩ := hr.2.2.2 kk c hc
            exact absurd (key_inj (hall e he) hk1 (by rw [g1, hk2])) (h2 e he)
        have hsim := map_chg (clock' := clock) h ho hb hh hbn (gm' := gset gm kk none) (es' := es) (fun tr => hr.conv tr fun q => by
          by_cases hq : q = kk
          · subst hq; rw [gset_same, hnone]
          · rw [gset_ne _ _ hq])
        refine does_run (run (.tuple #[]) _ ?_) hk hsim tup0
        unfold Builtin.delete_
        simp [h0, Vm.run_underlying w hu, getObj_map hh, run_check p1 p2 hk1, h1, setObj_map _ hh]
      · have heg : es[j]? = some e := by rw [← Array.getElem?_toList]; exact h2
        have hsim := map_chg (clock' := clock) h ho hb hh (hbn.erase j) (gm' := gset gm kk none) (es' := es.eraseIdxIfInBounds j) (fun tr => by
          rw [← hk2, ← h3]
          exact hr.erase tr heg)
        refine does_run (run (.tuple #[]) _ ?_) hk hsim tup0
        unfold Builtin.delete_
        simp [h0, Vm.run_underlying w hu, getObj_map hh, run_check p1 p2 hk1, h1, setObj_map _ hh]
    · exact hk.elim
  · exact hk.elim
theorem sound_lenm {t k' e' : TypeId} {x : Operand} {ts : Array TypeId} (h0 : ts[0]? = some t) (hu : P.underlying t = some (.map k' e')) (h : SimAt E n ψ s a w) (hk : stp P d s K (.lenm x)) :
    Does P E n ⟨dst, .call ⟨.builtin .len, #[x], ts⟩, ty, pos, af, g⟩ a w K := by
  simp only [stp] at hk
  have hx := h.ev x
  split at hk
  · rename_i sk gm hmo
    rcases mapOf_inv h hx hmo with ⟨hv, hn⟩ | ⟨b, es, clock, hv, hh, hr⟩
    · refine does_val h (v := .int .i64 0) (run_call_len ?_) (hk 0 (by simp [hn])) (rav_v rfl)
      rw [hv]
      simp [Builtin.len_, h0, Vm.run_underlying w hu, goInt]
    · refine does_val h (v := .int .i64 es.size) (run_call_len ?_) (hk es.size ?_) (rav_v rfl)
      · rw [hv]
        simp [Builtin.len_, h0, Vm.run_underlying w hu, goInt, getObj_map hh]
      · constructor
        · intro h0 k
          cases hc : gm k with
          | none => rfl
          | some c =>
            obtain ⟨e, he, _⟩ := hr.2.2.2 k c hc
            have : es = #[] := Array.eq_empty_of_size_eq_zero h0
            rw [this] at he; cases he
        · intro hn
          rcases Nat.eq_zero_or_pos es.size with h0 | h0
          · exact h0
          · have he : es[0] ∈ es.toList := by simp
            obtain ⟨c, hc⟩ := hr.2.1 _ he
            rw [hn] at hc; cases hc
  · exact hk.elim
end
end Go.Vm
end

/- A new slice of so many zero elements. -/
section
namespace Go.Vm
theorem madeCells_getD (z : Array Value) (m i j : Nat) (hi : i < m) (hj : j < z.size) : (madeCells z (m * z.size)).getD (i * z.size + j) undef = z.getD j undef := by
  have hlt : i * z.size + j < m * z.size := by
    have h1 : (i + 1) * z.size ≤ m * z.size := Nat.mul_le_mul_right _ (by omega)
    rw [Nat.add_mul] at h1
    omega
  have hmod : (i * z.size + j) % z.size = j := by rw [Nat.add_comm, Nat.add_mul_mod_self_right, Nat.mod_eq_of_lt hj]
  unfold madeCells
  simp [Array.getD_eq_getD_getElem?, hlt, hmod, hj]
section
variable {P : Program} {E : En} {n : Nat} {ψ : Pl} {s : St} {a : Act} {w : World}
variable {dst : Option Nat} {ty : TypeId} {pos : String} {af : Array Edge} {g : Option (Nat × Bool)} {r : Rhs} {d : Nat} {K : St → AV → Prop}
theorem ivz : ∀ {z : List AV} {zi : List IV} {vs : List Value} {A : Nat → Prop} {H : Hp} {w : World}, z.mapM AV.iv? = some zi → vs.length = z.length → (∀ i x, z[i]? = some x → RAV A ψ H w x (vs.getD i undef)) →
    zi.length = z.length ∧ ∀ i x, zi[i]? = some x → RIV A w x (vs.getD i undef) := by
  intro z
  induction z with
  | nil => intro zi vs A H w h hl _; simp at h; subst h; exact ⟨rfl, by simp⟩
  | cons x z ih =>
    intro zi vs A H w h hl hc
    cases vs with
    | nil => simp at hl
    | cons v vs =>
      rw [List.mapM_cons] at h
      cases hx : x.iv? with
      | none => simp [hx] at h
      | some y =>
        cases hq : z.mapM AV.iv? with
        | none => simp [hx, hq] at h
        | some q =>
          simp [hx, hq] at h
          subst h
          obtain ⟨g1, g2⟩ := ih (vs := vs) hq (by simpa using hl) (fun i c hi => by simpa using hc (i + 1) c (by simpa using hi))
          refine ⟨by simp [g1], fun i c hi => ?_⟩
          cases i with
          | succ i => simp only [List.getElem?_cons_succ] at hi; simpa using g2 i c hi
          | zero =>
            simp at hi; subst hi
            have h0 := hc 0 x rfl
            simp only [List.getD_cons_zero] at h0 ⊢
            unfold AV.iv? at hx
            split at hx
            · cases hx; cases h0 with | iv _ _ h => exact h
            · cases hx; rw [inv_nil h0]; exact .lnil _
            · cases hx
theorem sound_mks0 {t e : TypeId} {l c : Operand} {i : TypeInfo} {z : List AV} (hu : P.underlying t = some (.slice e)) (hi : P.info? e = some i) (hz : zeroAV P e = some z) (hzl : z.length = i.size) (hp : 0 < i.size)
    (hd : d < 1000) (h : SimAt E n ψ s a w) (hk : stp P d s K (.mks i.size i.bytes z l c)) (hnil : nilOf z = none) : Does P E n ⟨dst, .makeSlice t l c, ty, pos, af, g⟩ a w K := by
  simp only [stp, hnil] at hk
  have hl := h.ev l
  have hc := h.ev c
  split at hk
  · rename_i kl m kc q zi h1 h2 hzi
    obtain ⟨h0, rfl, h62, hb, hk⟩ := hk
    rw [h1] at hl
    rw [h2] at hc
    have el := inv_v hl
    have ec := inv_v hc
    obtain ⟨i', zv, z1, z2, rfl⟩ := zeroAV_some hz
    rw [hi] at z1; cases z1
    have hsz : zv.cells.size = i.size := by rw [zcells_length] at hzl; simpa using hzl
    have hd' := h.drop (id := d) hd
    obtain ⟨g1, g2⟩ := ivz (A := Im E ψ (s.drop d).hp) (ψ := ψ) (H := (s.drop d).hp) (w := w) (vs := zv.cells.toList) hzi (by rw [zcells_length]) (fun i x hx => by
      obtain ⟨sz, e⟩ := zcells_get _ _ _ _ hx
      rw [e]; exact rav_zav _ _)
    have hzil : zi.length = i.size := by rw [g1, hzl]
    have hrun := run_make (P := P) w t e i zv hu hi z2 kl kc q q h0 (Int.le_refl _) (by omega) (by omega)
    have hms : (madeCells zv.cells (q.toNat * i.size)).size = q.toNat * i.size := by rw [size_madeCells]
    refine does_newlist (sz := i.size) (xs := List.replicate q.toNat zi) (c := madeCells zv.cells (q.toNat * i.size)) (t := e) (cap := q.toNat) (w1 := w) hd hd' (look_drop s d) (fun x hx => ?_) (by rw [hms, List.length_replicate]; exact Nat.le_refl _) (by simp) (by rw [hms]; exact Nat.le_refl _) (by omega) (fun j k x hx => ?_) (Ext.refl w) ?_ (by simpa using hk)
    · rw [List.eq_of_mem_replicate hx]; exact hzil
    · obtain ⟨row, hr1, hr2⟩ := at2_lt hx
      have hj : j < q.toNat := by have := (List.getElem?_eq_some_iff.1 hr1).1; simpa using this
      have hrow : row = zi := List.eq_of_mem_replicate (List.mem_of_getElem? hr1)
      subst hrow
      have hkl : k < i.size := by rw [← hzil]; exact (List.getElem?_eq_some_iff.1 hr2).1
      rw [← hsz, madeCells_getD _ _ _ _ hj (by omega), ← toList_getD]
      exact g2 k x hr2
    · simp only [execOp, el, ec, Sem.run_bind, hrun, Result.andThen_ok, Sem.run_pure, List.length_replicate]
  · exact hk.elim
theorem zav_nil0 {sz sz' : Nat} {v : Value} (h : zav sz' v = .nil sz) : v = .slice none 0 0 := by
  unfold zav at h
  split at h
  · rfl
  · cases h
  · cases h
  · cases h
theorem does_newlisto {o : Oper} {sz m : Nat} {c : Array Value} {t : TypeId} (hd : d < 1000) (h : SimAt E n ψ s a w) (hno : look s.hp d = none)
    (hlen : c.size = m) (hcm : m < 2 ^ 63) (hc : ∀ i, i < m → c.getD i undef = .slice none 0 0)
    (hr : (execOp a.eval o).run P w = .ok (.value (.slice (some ⟨w.heap.size, 0, none⟩) m m)) (w.alloc (.cells c t)))
    (hk : K (s.add d (.listo sz (List.replicate m []) none)) (.sl d 1 0 m)) : Does P E n o a w K := by
  have hx2 : Ext w (w.alloc (.cells c t)) := Ext.alloc _ _
  have h2 := h.new (o := .listo sz (List.replicate m []) none) (p := some (w.heap.size, (0, c.size))) hd hno hx2 (fun b k e => by cases e; exact Nat.le_refl _)
    ⟨by simp, w.heap.size, (0, c.size), c, t, fun _ => none, by simp [upd], heap_alloc_new _ _, by simp, by simp [hlen], fun i x hx' _ => (by
      rw [List.getElem?_replicate] at hx'
      split at hx'
      · rename_i him
        cases hx'
        exact ⟨by simp, .inl ⟨rfl, rfl, by rw [Nat.zero_add]; exact hc i him⟩⟩
      · cases hx'), by simp, by simp⟩
  refine does_run hr hk h2 (.sl d 1 0 m w.heap.size (0, c.size) m _ (.listo sz (List.replicate m []) none) m (by simp [look_add]) (by simp [Ob.dim]) (by omega) (by simp [upd]) (fun _ => by simp) (Nat.le_refl _) (by simp [hlen]) hcm)
theorem sound_mks {t e : TypeId} {l c : Operand} {i : TypeInfo} {z : List AV} (hu : P.underlying t = some (.slice e)) (hi : P.info? e = some i) (hz : zeroAV P e = some z) (hzl : z.length = i.size) (hp : 0 < i.size)
    (hd : d < 1000) (h : SimAt E n ψ s a w) (hk : stp P d s K (.mks i.size i.bytes z l c)) : Does P E n ⟨dst, .makeSlice t l c, ty, pos, af, g⟩ a w K := by
  cases hnil : nilOf z with
  | some sz' =>
    simp only [stp, hnil] at hk
    have hz0 := nilOf_inv hnil
    have hl := h.ev l
    have hc := h.ev c
    split at hk
    · rename_i kl m kc q h1 h2
      obtain ⟨h0, rfl, h62, hb, hs1, hk⟩ := hk
      rw [h1] at hl
      rw [h2] at hc
      have el := inv_v hl
      have ec := inv_v hc
      obtain ⟨i', zv, z1, z2, hzz⟩ := zeroAV_some hz
      rw [hi] at z1; cases z1
      rw [hz0] at hzz
      have hsz : zv.cells.size = 1 := by
        have := congrArg List.length hzz
        rw [zcells_length] at this
        simpa using this.symm
      have hd' := h.drop (id := d) hd
      have hzv : zv.cells.toList = [.slice none 0 0] := by
        have hl1 : zv.cells.toList.length = 1 := by simpa using hsz
        match hv : zv.cells.toList, hl1 with
        | [v], _ =>
          rw [hv] at hzz
          cases hcs : cellSz P 20 e with
          | nil => rw [hcs] at hzz; simp only [zcells, List.cons.injEq, and_true] at hzz; rw [zav_nil0 hzz.symm]
          | cons x y => rw [hcs] at hzz; simp only [zcells, List.cons.injEq, and_true] at hzz; rw [zav_nil0 hzz.symm]
      have hrun := run_make (P := P) w t e i zv hu hi z2 kl kc q q h0 (Int.le_refl _) (by omega) (by omega)
      rw [hs1] at hrun
      have hms : (madeCells zv.cells (q.toNat * 1)).size = q.toNat := by rw [size_madeCells]; omega
      refine does_newlisto (sz := sz') (m := q.toNat) (c := madeCells zv.cells (q.toNat * 1)) (t := e) hd hd' (look_drop s d) hms (by omega) (fun j hj => ?_) ?_ hk
      · have := madeCells_getD zv.cells q.toNat j 0 hj (by omega)
        rw [hsz, Nat.mul_one, Nat.mul_one, Nat.add_zero] at this
        rw [Nat.mul_one, this, ← toList_getD, hzv]; rfl
      · simp only [execOp, el, ec, Sem.run_bind, hrun, Result.andThen_ok, Sem.run_pure]
    · exact hk.elim
  | none => exact sound_mks0 hu hi hz hzl hp hd h hk hnil
end
end Go.Vm
end

/- Each operation on a map's entry, and of a walk over a map, does what the abstract machine's does. -/
section
namespace Go.Vm
section
variable {P : Program} {E : En} {n : Nat} {ψ : Pl} {s : St} {a : Act} {w : World}
variable {dst : Option Nat} {ty : TypeId} {pos : String} {af : Array Edge} {g : Option (Nat × Bool)} {r : Rhs} {d : Nat} {K : St → AV → Prop}
theorem allO_mapM : ∀ (z : List AV) (l : List IV), allO AV.iv? z = some l → z.mapM AV.iv? = some l
  | [], l, h => by simpa [allO] using h
  | x :: r, l, h => by
    simp only [allO] at h
    split at h
    · rename_i y hy
      cases hr : allO AV.iv? r with
      | none => rw [hr] at h; cases h
      | some l' =>
        rw [hr] at h
        simp only [Option.map_some, Option.some.injEq] at h
        subst h
        rw [List.mapM_cons, hy, allO_mapM r l' hr]; rfl
    · cases h
theorem agg_pack {A : Nat → Prop} {H : Hp} {c : List IV} {v : Value} {ag : Bool} (hg : isAggV v = ag) (hl : v.cells.size = c.length) (hc : ∀ i x, c[i]? = some x → RIV A w x (v.cells.getD i undef)) :
    RAV A ψ H w (packAV ag (c.map .iv)) v :=
  packAV_rav hg (by simpa using hl) fun i x hx => by
    rw [List.getElem?_map] at hx
    cases hi : c[i]? with
    | none => rw [hi] at hx; cases hx
    | some y => rw [hi] at hx; cases hx; exact .iv _ _ (hc i y hi)
theorem sound_ment {t k' e' : TypeId} {m k : Operand} {sk : Sk} {z : List AV} (hu : P.underlying t = some (.map k' e')) (hsk : skT P k' e' = some sk) (hz : zeroAV P e' = some z)
    (hza : ((P.info? e').bind (·.zero)).map isAggV = some (isAggT P e')) (h : SimAt E n ψ s a w) (hk : stp P d s K (.ment sk z m k)) :
    Does P E n ⟨dst, .mapEntry t m k, ty, pos, af, g⟩ a w K := by
  simp only [stp] at hk
  obtain ⟨p1, p2, p3, p4⟩ := skT_inv hsk
  have hm := h.ev m
  have hkv := h.ev k
  split at hk
  · rename_i id sk2 kk zi hme hkey hzi
    split at hk
    · rename_i sk1 gm ho
      obtain ⟨rfl, rfl, hk⟩ := hk
      obtain ⟨hk1, hk2⟩ := keyAV_inv hkv hkey
      rw [p3] at hk1
      rw [hme] at hm
      obtain ⟨b, es, clock, hb, hh, hbn, hr⟩ := h.obs id _ ho
      have hmv : a.eval m = .map (some b) := by
        generalize a.eval m = vm at hm
        cases hm with
        | mpr _ b' q o' ho' hb' => rw [hb] at hb'; cases hb'; rfl
      have hall : ∀ e ∈ es.toList, skOf e.key = some (isAggT P k', sk1.2.1) := fun e he => by rw [← p3]; exact (hr.1 e he).1
      have run : ∀ v w', (Instr.mapEntry t (.map (some b)) (a.eval k)).run P w = .ok v w' → (execOp a.eval ⟨dst, .mapEntry t m k, ty, pos, af, g⟩).run P w = .ok (.value v) w' := by
        intro v w' hrun
        simp only [execOp, hmv, Sem.run_bind, hrun, Result.andThen_ok, Sem.run_pure]
      have tupw : ∀ {A : Nat → Prop} {ψ : Pl} {H : Hp} {w : World} {x : AV} {v : Value} {q : Nat}, RAV A ψ H w x v → RAV A ψ H w (.tup [x, .iv (.v (.int .i64 q))]) (.tuple #[v, goInt q]) := by
        intro A ψ H w x v q hx
        refine .tup _ _ rfl fun i c hc => ?_
        match i, hc with
        | 0, hc => cases hc; exact hx
        | 1, hc => cases hc; exact rav_v rfl
      have hlt : b < w.heap.size := heap_lt hh
      have chg : ∀ (gm' : List Value → Option (List IV)) (es' : Array MapEntry) (clock' : Nat) (q : Int), Born es' clock' →
          (∀ {A' : Nat → Prop} {w' : World}, (∀ x v, RIV (Im E ψ s.hp) w x v → RIV A' w' x v) → RMap A' w' sk1 gm' es') → (∃ e ∈ es'.toList, (e.born : Int) = q ∧ keyOf e.key = kk) →
          SimAt E n ψ (s.add id (.mapS sk1 gm' q kk)) a { w with heap := w.heap.setIfInBounds b (.map es' clock') } := by
        intro gm' es' clock' q h1 h2 h3
        refine h.chg (o' := .mapS sk1 gm' q kk) (k := (0, 0)) ho (Ob.le_none rfl) rfl (by simp [Ob.multi]) hb (fun i hi => ?_) (by simp) ⟨rfl, rfl, rfl⟩ (fun _ tr => ⟨b, es', clock', hb, ?_, h1, h2 tr, h3⟩)
        · show (w.heap.setIfInBounds b _)[i]? = _
          rw [Array.getElem?_setIfInBounds_ne (Ne.symm hi)]
        · show (w.heap.setIfInBounds b _)[b]? = _
          simp [hlt]
      rcases run_findKey (w := w) p1 p2 hk1 es.toList hall with ⟨h1, h2⟩ | ⟨j, e, h1, h2, h3⟩
      · have hno : ∀ e ∈ es.toList, keyOf e.key ≠ keyOf (a.eval k) := fun e he hkk => h2 e he (key_inj (hall e he) hk1 hkk)
        have hgn : gm kk = none := by
          cases hc : gm kk with
          | none => rfl
          | some c =>
            obtain ⟨e, he, g1, _⟩ := hr.2.2.2 kk c hc
            exact absurd (g1.trans hk2.symm) (hno e he)
        obtain ⟨i, zv, z1, z2, rfl⟩ := zeroAV_some hz
        rw [z1] at hza
        simp only [Option.bind_some, z2, Option.map_some, Option.some.injEq] at hza
        have hzc : ∀ {A : Nat → Prop} {w : World}, zi.length = zv.cells.toList.length ∧ ∀ i x, zi[i]? = some x → RIV A w x (zv.cells.toList.getD i undef) := by
          intro A w
          have := ivz (A := A) (H := []) (w := w) (vs := zv.cells.toList) (allO_mapM _ _ hzi) (by rw [zcells_length]) (fun i x hx => by
            obtain ⟨sz, e⟩ := zcells_get _ _ _ _ hx
            rw [e]
            exact rav_zav (ψ := ψ) _ _)
          rw [zcells_length] at this
          exact this
        have hl : zv.cells.size = zi.length := by rw [(hzc (A := fun _ => True) (w := w)).1]; simp
        have hzc' : ∀ {A : Nat → Prop} {w : World}, ∀ i x, zi[i]? = some x → RIV A w x (zv.cells.getD i undef) := fun {A w} i x hx => by rw [← toList_getD]; exact (hzc (A := A) (w := w)).2 i x hx
        rw [hgn, Option.getD_none] at hk
        have hsim := chg (gset gm kk (some zi)) (es.push { key := a.eval k, val := zv, born := clock }) (clock + 1) clock (hbn.push _ rfl)
          (fun tr => by
            rw [← hk2]
            exact hr.push tr (e := { key := a.eval k, val := zv, born := clock }) hno ⟨by rw [p3]; exact hk1, by rw [p4]; exact hza⟩ hl (fun i y hy => hzc' i y hy))
          ⟨{ key := a.eval k, val := zv, born := clock }, by simp, rfl, hk2⟩
        refine does_run (run (.tuple #[zv, goInt clock]) _ ?_) (hk clock) hsim (tupw (agg_pack (by rw [p4]; exact hza) hl (fun i y hy => hzc' i y hy)))
        unfold Instr.mapEntry
        simp only [Sem.run_bind, Vm.run_underlying w hu, Result.andThen_ok, getObj_map hh, run_check p1 p2 hk1, h1, run_zero z1 z2, setObj_map _ hh, Sem.run_pure]
      · have he : e ∈ es.toList := List.mem_of_getElem? h2
        have heg : es[j]? = some e := by rw [← Array.getElem?_toList]; exact h2
        obtain ⟨c, hgc⟩ := hr.2.1 e he
        rw [h3, hk2] at hgc
        obtain ⟨e2, he2, g1, g2, g3⟩ := hr.2.2.2 kk c hgc
        have hee : e2 = e := nodup_inj hr.2.2.1 e2 he2 e he (by rw [g1, h3, hk2])
        subst hee
        rw [hgc, Option.getD_some] at hk
        have hmod : (es.modify j fun e => { e with key := a.eval k }) = es := by
          apply Array.ext'
          apply List.ext_getElem?
          intro i
          rw [Array.getElem?_toList, Array.getElem?_toList, Array.getElem?_modify]
          split
          · rename_i hji
            subst hji
            rw [heg]
            simp [← h3]
          · rfl
        have hgs : gset gm kk (some c) = gm := by
          funext q
          by_cases hq : q = kk
          · subst hq; rw [gset_same, hgc]
          · rw [gset_ne _ _ hq]
        rw [hgs] at hk
        have hsim := chg gm es clock e2.born hbn (fun tr => hr.conv tr fun _ => rfl) ⟨e2, he2, rfl, g1⟩
        refine does_run (run (.tuple #[e2.val, goInt e2.born]) _ ?_) (hk e2.born) hsim (tupw ?_)
        · unfold Instr.mapEntry
          have hst : (Instr.keyThatStays e2.key (a.eval k)).run P w = .ok (a.eval k) w := by
            unfold Instr.keyThatStays
            simp only [h3, sameBits_key hk1, if_true, Sem.run_pure]
          simp only [Sem.run_bind, Vm.run_underlying w hu, Result.andThen_ok, getObj_map hh, run_check p1 p2 hk1, h1, heg, Option.map_some, Option.getD_some, hst, hmod, setObj_map _ hh, Sem.run_pure]
        · have := hsim.obs id _ (by rw [look_add, if_pos rfl])
          obtain ⟨b', es', clock', q1, q2, _, q3, _⟩ := this
          rw [hb] at q1; cases q1
          have : (w.heap.setIfInBounds b (.map es clock))[b]? = some (.map es clock) := by simp [hlt]
          rw [this] at q2; cases q2
          obtain ⟨e3, r1, r2, r3, r4⟩ := q3.2.2.2 kk c hgc
          have : e3 = e2 := nodup_inj hr.2.2.1 e3 r1 e2 he2 (by rw [r2, g1])
          subst this
          exact agg_pack (by exact (hr.1 e3 he2).2) r3 r4
    · exact hk.elim
  · exact hk.elim
theorem sound_est {t : TypeId} {m st x : Operand} (h : SimAt E n ψ s a w) (hk : stp P d s K (.est m st x)) : Does P E n ⟨dst, .entryStore t m st x, ty, pos, af, g⟩ a w K := by
  simp only [stp] at hk
  have hf := h.frz [s.ev x]
  generalize s.frz [s.ev x] = s1 at hk hf
  have hm := hf.ev m
  have hsv := hf.ev st
  have hx := hf.ev x
  split at hk
  · rename_i id ki n' c hme hst hcs
    split at hk
    · rename_i sk gm q kk ho
      obtain ⟨rfl, hag, hk⟩ := hk
      rw [hme] at hm
      rw [hst] at hsv
      have hsv := inv_v hsv
      obtain ⟨b, es, clock, hb, hh, hbn, hr, e, he, hen, hek⟩ := hf.obs id _ ho
      have hmv : a.eval m = .map (some b) := by
        generalize a.eval m = vm at hm
        cases hm with
        | mpr _ b' q o' ho' hb' => rw [hb] at hb'; cases hb'; rfl
      cases hc1 : (s1.ev x).cellsOf with
      | none => rw [hc1] at hcs; cases hcs
      | some cs =>
        rw [hc1] at hcs
        simp only [Option.bind_some] at hcs
        obtain ⟨g1, g2⟩ := cellsOf_rav hx hc1
        obtain ⟨v1, v2⟩ := ivs_of hf (vs := (a.eval x).cells.toList) (by simpa using g1) (fun i y hy => by rw [toList_getD]; exact g2 i y hy) hcs
        have hl : (a.eval x).cells.size = c.length := by rw [v1]; exact g1
        have hv : isAggV (a.eval x) = sk.2.2 := by rw [isAgg_rav hx hc1]; exact hag
        have v2' : ∀ i y, c[i]? = some y → RIV (Im E ψ s1.hp) w y ((a.eval x).cells.getD i undef) := fun i y hy => by rw [← toList_getD]; exact v2 i y hy
        obtain ⟨j, hj⟩ := List.getElem?_of_mem he
        have heg : es[j]? = some e := by rw [← Array.getElem?_toList]; exact hj
        have hfind : es.findIdx? (fun e => (e.born : Int) == n') = some j := by
          rw [Array.findIdx?_eq_some_iff_getElem]
          obtain ⟨hjl, hje⟩ := List.getElem?_eq_some_iff.1 hj
          refine ⟨by simpa using hjl, by simp only [Array.getElem_toList] at hje; rw [hje]; simpa using hen, fun i hi => ?_⟩
          have hil : i < es.toList.length := by omega
          intro heq
          have h1 : (es.toList.map (·.born))[i]? = some e.born := by
            rw [List.getElem?_map, List.getElem?_eq_getElem hil]
            simp only [Option.map_some, Option.some.injEq]
            have : (es.toList[i].born : Int) = n' := by simpa using heq
            omega
          have h2 : (es.toList.map (·.born))[j]? = some e.born := by rw [List.getElem?_map, hj]; rfl
          obtain ⟨a1, a2⟩ := List.getElem?_eq_some_iff.1 h1
          obtain ⟨b1, b2⟩ := List.getElem?_eq_some_iff.1 h2
          exact List.pairwise_iff_getElem.1 hbn.2 i j a1 b1 hi (a2.trans b2.symm)
        have hlt : b < w.heap.size := heap_lt hh
        have hsim : SimAt E n ψ (s1.add id (.map sk (gset gm kk (some c)))) a { w with heap := w.heap.setIfInBounds b (.map (es.modify j fun e => { e with val := a.eval x }) clock) } := by
          refine hf.chg (o' := .map sk (gset gm kk (some c))) (k := (0, 0)) ho (Ob.le_none rfl) rfl (by simp [Ob.multi]) hb (fun i hi => ?_) (by simp) ⟨rfl, rfl, rfl⟩
            (fun _ tr => ⟨b, es.modify j fun e => { e with val := a.eval x }, clock, hb, ?_, hbn.modify j (fun e => { e with val := a.eval x }) (fun _ => rfl), by have hmm := hr.modify tr heg hv hl (fun i y hy => tr _ _ (v2' i y hy)); rw [hek] at hmm; exact hmm⟩)
          · show (w.heap.setIfInBounds b _)[i]? = _
            rw [Array.getElem?_setIfInBounds_ne (Ne.symm hi)]
          · show (w.heap.setIfInBounds b _)[b]? = _
            simp [hlt]
        refine does_skip ?_ hk hsim
        simp only [execOp, hmv, hsv]
        have : (Instr.entryStore t (.map (some b)) (.int ki n') (a.eval x)).run P w = .ok () { w with heap := w.heap.setIfInBounds b (.map (es.modify j fun e => { e with val := a.eval x }) clock) } := by
          unfold Instr.entryStore
          simp only [Sem.run_bind, getObj_map hh, Result.andThen_ok]
          have : (asInt (.int ki n')).run P w = .ok n' w := rfl
          rw [this]
          simp only [Result.andThen_ok, hfind, setObj_map _ hh]
        rw [Sem.run_bind, this]; rfl
    · exact hk.elim
  · exact hk.elim
end
end Go.Vm
end

/- A walk over a map does what the abstract machine's does. -/
section
namespace Go.Vm
open Go.ChangeMaps (setBlock)
section
variable {P : Program} {E : En} {n : Nat} {ψ : Pl} {s : St} {a : Act} {w : World}
variable {dst : Option Nat} {ty : TypeId} {pos : String} {af : Array Edge} {g : Option (Nat × Bool)} {r : Rhs} {d : Nat} {K : St → AV → Prop}
theorem riv_mp_inv {A : Nat → Prop} {sk : Sk} {gm : List Value → Option (List IV)} {v : Value} (h : RIV A w (.mp sk gm) v) :
    (v = .map none ∧ ∀ k, gm k = none) ∨ ∃ b es clock, v = .map (some b) ∧ A b ∧ w.heap[b]? = some (.map es clock) ∧ Born es clock ∧ RMap A w sk gm es := by
  cases h with
  | mp _ _ b clock es vs hA hh hsk hin hno hst hg hrr =>
    refine .inr ⟨b, es, clock, rfl, hA, hh, hst, hsk, hin, hno, fun k c hc => ?_⟩
    obtain ⟨e, he, g1, g2, g3⟩ := hg k c hc
    refine ⟨e, he, g1, g2, fun i y hy => ?_⟩
    have := g3 i y hy
    rw [show e.val.cells.getD i undef = vs k i from by simp [Array.getD_eq_getD_getElem?, this]]
    exact hrr k c hc i y hy
  | mnil _ _ hn => exact .inl ⟨rfl, hn⟩
theorem key_kinds {v : Value} {ag : Bool} {ks : List Kd} (h : skOf v = some (ag, ks)) : (keyOf v).mapM kdOf = some ks := by
  rcases skOf_cases h with ⟨cs, rfl, _, h1, h2⟩ | ⟨k, _, rfl, h1, h2⟩
  · rw [h2]; exact h1
  · rw [h2]; simp [h1]
theorem kd_one {v : Value} {k : Kd} (h : kdOf v = some k) : v.oneCell' = true := (kdOf_inv h).2.1
theorem mapM_kd : ∀ {l : List Value} {ks : List Kd}, l.mapM kdOf = some ks → ∀ x ∈ l, ∃ k, kdOf x = some k
  | [], _, _, x, hx => by cases hx
  | y :: r, ks, h, x, hx => by
    rw [List.mapM_cons] at h
    cases h1 : kdOf y with
    | none => rw [h1] at h; cases h
    | some k1 =>
      rw [h1] at h
      cases h2 : r.mapM kdOf with
      | none => rw [h2] at h; cases h
      | some k2 =>
        rcases List.mem_cons.1 hx with rfl | hx
        · exact ⟨k1, h1⟩
        · exact mapM_kd h2 x hx
theorem key_rav {A : Nat → Prop} {H : Hp} {v : Value} {ag : Bool} {ks : List Kd} (h : skOf v = some (ag, ks)) : RAV A ψ H w (packAV ag ((keyOf v).map fun v => .iv (.v v))) v := by
  have hk := key_kinds h
  refine packAV_rav ?_ (by simp [keyOf]) fun i x hx => ?_
  · rcases skOf_cases h with ⟨cs, rfl, rfl, _, _⟩ | ⟨k, rfl, _, h1, _⟩
    · rfl
    · cases v <;> first | rfl | simp [kdOf] at h1
  · rw [List.getElem?_map] at hx
    cases hi : (keyOf v)[i]? with
    | none => rw [hi] at hx; cases hx
    | some y =>
      rw [hi] at hx; cases hx
      obtain ⟨k, hk'⟩ := mapM_kd hk y (List.mem_of_getElem? hi)
      have e : v.cells.getD i undef = y := by
        rw [← toList_getD]
        have : v.cells.toList[i]? = some y := hi
        simp [List.getD, this]
      rw [e]
      exact rav_v (kd_one hk')
theorem sound_rng {t k' e' : TypeId} {x : Operand} {sk : Sk} (hu : P.underlying t = some (.map k' e')) (hd : d < 1000) (h : SimAt E n ψ s a w) (hk : stp P d s K (.rng sk x)) :
    Does P E n ⟨dst, .range t x, ty, pos, af, g⟩ a w K := by
  simp only [stp] at hk
  have hf := (h.frz [s.ev x]).drop (id := d) hd
  have hno := look_drop (s.frz [s.ev x]) d
  generalize (s.frz [s.ev x]).drop d = s1 at hk hf hno
  have hx := hf.ev x
  split at hk
  · rename_i sk' gm hxe
    obtain ⟨rfl, hk⟩ := hk
    rw [hxe] at hx
    have hr : RIV (Im E ψ s1.hp) w (.mp sk' gm) (a.eval x) := by cases hx with | iv _ _ h => exact h
    rcases riv_mp_inv hr with ⟨hv, hn⟩ | ⟨b, es, clock, hv, hA, hh, hbn, hm⟩
    · have h2 := hf.new (o := .iter sk' gm [] none) (p := some (w.heap.size, (0, 0))) hd hno (Ext.alloc w (.mapIter none 0 #[] 0)) (fun b k e => by cases e; exact Nat.le_refl _)
        ⟨w.heap.size, none, 0, #[], 0, by simp [upd], heap_alloc_new _ _, .inl ⟨rfl, rfl, rfl, hn⟩⟩
      refine does_run (v := .pointer (some ⟨w.heap.size, 0, none⟩)) (w' := w.alloc (.mapIter none 0 #[] 0)) ?_ (hk [] (by simp) (by simp [hn]) (by simp)) h2 (.ptr d 0 w.heap.size (0, 0) _ (by simp [look_add]; rfl) (by simp [upd]))
      simp only [execOp, hv, Sem.run_bind, run_range_nilMap w t k' e' hu, Result.andThen_ok, Sem.run_pure]
    · have hmk : ∀ q, q ∈ es.toList.map (fun e => keyOf e.key) ↔ gm q ≠ none := by
        intro q
        constructor
        · intro hq
          obtain ⟨e, he, rfl⟩ := List.mem_map.1 hq
          obtain ⟨c, hc⟩ := hm.2.1 e he
          rw [hc]; simp
        · intro hq
          cases hc : gm q with
          | none => exact absurd hc hq
          | some c =>
            obtain ⟨e, he, g1, _⟩ := hm.2.2.2 q c hc
            exact List.mem_map.2 ⟨e, he, g1⟩
      have hbl : b < w.heap.size := heap_lt hh
      have h2 := hf.new (o := .iter sk' gm (es.toList.map fun e => keyOf e.key) none) (p := some (w.heap.size, (0, 0))) hd hno (Ext.alloc w (.mapIter (some b) clock #[] clock)) (fun b k e => by cases e; exact Nat.le_refl _)
        ⟨w.heap.size, some b, clock, #[], clock, by simp [upd], heap_alloc_new _ _, .inr ⟨b, es, rfl, ⟨hbl, hA⟩, by rw [(Ext.alloc w _).block b hbl]; exact hh, rfl, hbn,
          hm.mono (fun b hb hi => ⟨hb, hi⟩) (fun b hb _ => (Ext.alloc w _).block b hb), hm.2.2.1, fun e he => ⟨fun _ => by simp, fun _ => List.mem_map.2 ⟨e, he, rfl⟩⟩, fun q hq => by
            obtain ⟨e, he, rfl⟩ := List.mem_map.1 hq
            exact ⟨e, he, rfl⟩, .inl rfl⟩⟩
      refine does_run (v := .pointer (some ⟨w.heap.size, 0, none⟩)) (w' := w.alloc (.mapIter (some b) clock #[] clock)) ?_
        (hk (es.toList.map fun e => keyOf e.key) hm.2.2.1 hmk (fun q hq => by
          obtain ⟨e, he, rfl⟩ := List.mem_map.1 hq
          exact key_kinds (hm.1 e he).1)) h2 (.ptr d 0 w.heap.size (0, 0) _ (by simp [look_add]; rfl) (by simp [upd]))
      simp only [execOp, hv, Sem.run_bind, run_range_map w t k' e' b es clock hu hh, Result.andThen_ok, Sem.run_pure]
  · exact hk.elim
theorem mem_rmk {k q : List Value} {l : List (List Value)} : q ∈ rmk k l ↔ q ∈ l ∧ q ≠ k := by
  classical
  simp [rmk]
theorem rmk_nodup {k : List Value} {l : List (List Value)} (h : l.Nodup) : (rmk k l).Nodup := h.sublist (List.filter_sublist)
theorem rmk_lt {k : List Value} {l : List (List Value)} (h : k ∈ l) : (rmk k l).length < l.length := by
  classical
  unfold rmk
  rw [← List.countP_eq_length_filter]
  refine Nat.lt_of_le_of_ne List.countP_le_length fun e => ?_
  have := List.countP_eq_length.1 e k h
  simp at this
theorem pair_rav {A : Nat → Prop} {H : Hp} {x y : AV} {u v : Value} (hx : RAV A ψ H w x u) (hy : RAV A ψ H w y v) : RAV A ψ H w (.tup [x, y]) (.tuple #[u, v]) := by
  refine .tup _ _ rfl fun i c hc => ?_
  match i, hc with
  | 0, hc => cases hc; exact hx
  | 1, hc => cases hc; exact hy
theorem trip_rav {A : Nat → Prop} {H : Hp} {x y z : AV} {u v t : Value} (hx : RAV A ψ H w x u) (hy : RAV A ψ H w y v) (hz : RAV A ψ H w z t) : RAV A ψ H w (.tup [x, y, z]) (.tuple #[u, v, t]) := by
  refine .tup _ _ rfl fun i c hc => ?_
  match i, hc with
  | 0, hc => cases hc; exact hx
  | 1, hc => cases hc; exact hy
  | 2, hc => cases hc; exact hz
theorem sound_nxt {x : Operand} (h : SimAt E n ψ s a w) (hk : stp P d s K (.nxt x)) : Does P E n ⟨dst, .next x false, ty, pos, af, g⟩ a w K := by
  simp only [stp] at hk
  have hx := h.ev x
  split at hk
  · rename_i id hxe
    rw [hxe] at hx
    obtain ⟨b0, k0, o0, hlo, hb0, hv⟩ := inv_ptr hx
    split at hk
    · rename_i sk gm left last ho
      obtain ⟨hk0, hk1⟩ := hk
      obtain ⟨b, m, since, stamps, lastc, hb, hh, hcase⟩ := h.obs id _ ho
      have e0 : b0 = b := by rw [hb] at hb0; cases hb0; rfl
      rw [e0] at hv
      have run : ∀ v w', (Instr.next (.pointer (some ⟨b, 0, none⟩)) false ty).run P w = .ok v w' → (execOp a.eval ⟨dst, .next x false, ty, pos, af, g⟩).run P w = .ok (.value v) w' := by
        intro v w' hrun
        simp only [execOp, hv, Sem.run_bind, hrun, Result.andThen_ok, Sem.run_pure]
      have one : ∀ {A : Nat → Prop} {ψ : Pl} {H : Hp} {w : World}, RAV A ψ H w (.tup [.iv (.v (.bool false))]) (.tuple #[.bool false]) := by
        intro A ψ H w
        refine .tup _ _ rfl fun i c hc => ?_
        match i, hc with
        | 0, hc => cases hc; exact rav_v rfl
      rcases hcase with ⟨rfl, rfl, rfl, hn⟩ | ⟨bm, es, rfl, hA, hm, rfl, hbn, hr, hnd, hl1, hl2, hl3⟩
      · refine does_run (run _ w ?_) (hk0 rfl) h one
        simp only [Instr.next, getObj, Sem.run_bind, Sem.run, hh, Result.andThen]
        rfl
      · rcases run_next_at (P := P) w ty b bm lastc lastc stamps es lastc hh hm hbn.1 (Nat.le_refl _) with ⟨h0, hrun⟩ | ⟨e, he, w1, hw1, hrun⟩
        · have hleft : left = [] := by
            cases hlc : left with
            | nil => rfl
            | cons q r =>
              exfalso
              obtain ⟨e, he, hq⟩ := hl2 q (by rw [hlc]; simp)
              have := (hl1 e he).1 (by rw [hq, hlc]; simp)
              have hmem : e ∈ leftOf es stamps := by
                unfold leftOf
                simp only [Array.mem_filter, Bool.not_eq_true', Array.contains_eq_mem, decide_eq_false_iff_not]
                exact ⟨by simpa using he, by simpa using this⟩
              have := Array.size_pos_of_mem hmem
              omega
          subst hleft
          exact does_run (run _ w hrun) (hk0 rfl) h one
        · have he' : e ∈ es.toList ∧ e.born ∉ stamps.toList := by
            have : e ∈ leftOf es stamps := by simpa using he
            unfold leftOf at this
            simp only [Array.mem_filter, Bool.not_eq_true', Array.contains_eq_mem, decide_eq_false_iff_not] at this
            exact ⟨by simpa using this.1, by simpa using this.2⟩
          obtain ⟨he1, he2⟩ := he'
          have hin : keyOf e.key ∈ left := (hl1 e he1).2 he2
          obtain ⟨c, hc⟩ := hr.2.1 e he1
          obtain ⟨e2, q1, q2, q3, q4⟩ := hr.2.2.2 _ c hc
          have : e2 = e := nodup_inj hr.2.2.1 e2 q1 e he1 q2
          subst this
          have hkk := hk1 (keyOf e2.key) c hin hc (key_kinds (hr.1 e2 he1).1)
          have hblt : b < w.heap.size := heap_lt hh
          have hw1s : w1.heap = w.heap ∧ w1.os = w.os ∧ w1.tape = w.tape ∧ w1.output = w.output := by rcases hw1 with rfl | rfl <;> exact ⟨rfl, rfl, rfl, rfl⟩
          have hne : bm ≠ b := by rintro rfl; rw [hh] at hm; cases hm
          have hsim : SimAt E n ψ (s.add id (.iter sk gm (rmk (keyOf e2.key) left) (some (keyOf e2.key)))) a (setBlock w1 b (.mapIter (some bm) lastc (stamps.push e2.born) lastc)) := by
            refine h.chg (o' := .iter sk gm (rmk (keyOf e2.key) left) (some (keyOf e2.key))) (k := (0, 0)) ho (Ob.le_none rfl) rfl (by simp [Ob.multi]) hb (fun i hi => ?_) (by simp [setBlock, hw1s.1]) ⟨hw1s.2.1, hw1s.2.2.1, hw1s.2.2.2⟩
              (fun _ tr => ⟨b, some bm, lastc, stamps.push e2.born, lastc, hb, ?_, .inr ⟨bm, es, rfl, ?_, ?_, rfl, hbn, hr.conv tr fun _ => rfl, rmk_nodup hnd, fun e he => ?_, fun q hq => hl2 q (mem_rmk.1 hq).1, .inr ⟨e2, he1, stamps, rfl, rfl⟩⟩⟩)
            · show (w1.heap.setIfInBounds b _)[i]? = _
              rw [Array.getElem?_setIfInBounds_ne (Ne.symm hi), hw1s.1]
            · show (w1.heap.setIfInBounds b _)[b]? = _
              rw [hw1s.1]; simp [hblt]
            · refine ⟨hA.1, ?_⟩
              rintro ⟨j, ob, hj, hq⟩
              rw [look_add] at hj
              by_cases e : id = j
              · subst e; exact hA.2 ⟨id, _, ho, hq⟩
              · rw [if_neg e] at hj; exact hA.2 ⟨j, ob, hj, hq⟩
            · show (w1.heap.setIfInBounds b _)[bm]? = _
              rw [Array.getElem?_setIfInBounds_ne (Ne.symm hne), hw1s.1]; exact hm
            · rw [mem_rmk, hl1 e he, Array.toList_push, List.mem_append, List.mem_singleton]
              constructor
              · rintro ⟨h1, h2⟩ (h3 | h3)
                · exact h1 h3
                · have : (es.toList.map (·.born)).Nodup := hbn.2
                  exact h2 (congrArg (fun e => keyOf e.key) (nodup_inj this e he e2 he1 h3))
              · intro h1
                refine ⟨fun h2 => h1 (.inl h2), fun h2 => h1 (.inr ?_)⟩
                rw [nodup_inj hr.2.2.1 e he e2 he1 h2]
          have hvals : ∀ i y, c[i]? = some y → RIV (Im E ψ (s.add id (.iter sk gm (rmk (keyOf e2.key) left) (some (keyOf e2.key)))).hp) (setBlock w1 b (.mapIter (some bm) lastc (stamps.push e2.born) lastc)) y (e2.val.cells.getD i undef) := by
            obtain ⟨b', m', si', st', lc', r1, r2, r3⟩ := hsim.obs id _ (by rw [look_add, if_pos rfl])
            rcases r3 with ⟨_, _, r3, _⟩ | ⟨bm', es', r4, _, r5, _, _, r6, _⟩
            · cases r3
            · rw [hb] at r1; cases r1
              have e1 : (setBlock w1 b (.mapIter (some bm) lastc (stamps.push e2.born) lastc)).heap[b]? = some (.mapIter (some bm) lastc (stamps.push e2.born) lastc) := by
                show (w1.heap.setIfInBounds b _)[b]? = _
                rw [hw1s.1]; simp [hblt]
              rw [e1] at r2; cases r2
              cases r4
              have e3 : (setBlock w1 b (.mapIter (some bm) lastc (stamps.push e2.born) lastc)).heap[bm]? = some (.map es lastc) := by
                show (w1.heap.setIfInBounds b _)[bm]? = _
                rw [Array.getElem?_setIfInBounds_ne (Ne.symm hne), hw1s.1]; exact hm
              rw [e3] at r5; cases r5
              obtain ⟨e4, t1, t2, t3, t4⟩ := r6.2.2.2 _ c hc
              have : e4 = e2 := nodup_inj hr.2.2.1 e4 t1 e2 he1 t2
              subst this
              exact t4
          exact does_run (run _ _ hrun) hkk hsim (trip_rav (rav_v rfl) (key_rav (hr.1 e2 he1).1) (agg_pack (hr.1 e2 he1).2 q3 hvals))
    · exact hk.elim
  · exact hk.elim
theorem sound_ent {x : Operand} (h : SimAt E n ψ s a w) (hk : stp P d s K (.ent x)) : Does P E n ⟨dst, .entry x, ty, pos, af, g⟩ a w K := by
  simp only [stp] at hk
  have hx := h.ev x
  split at hk
  · rename_i id hxe
    rw [hxe] at hx
    obtain ⟨b0, k0, o0, hlo, hb0, hv⟩ := inv_ptr hx
    split at hk
    · rename_i sk gm left k ho
      obtain ⟨b, m, since, stamps, lastc, hb, hh, hcase⟩ := h.obs id _ ho
      have e0 : b0 = b := by rw [hb] at hb0; cases hb0; rfl
      rw [e0] at hv
      rcases hcase with ⟨_, _, hl, _⟩ | ⟨bm, es, rfl, hA, hm, rfl, hbn, hr, hnd, hl1, hl2, hl3⟩
      · cases hl
      · rcases hl3 with hl3 | ⟨e, he, seen, rfl, hke⟩
        · cases hl3
        · simp only [Option.some.injEq] at hke
          subst hke
          obtain ⟨c, hc⟩ := hr.2.1 e he
          obtain ⟨e2, q1, q2, q3, q4⟩ := hr.2.2.2 _ c hc
          have : e2 = e := nodup_inj hr.2.2.1 e2 q1 e he q2
          subst this
          refine does_val h ?_ (hk c hc) (pair_rav (key_rav (hr.1 e2 he).1) (agg_pack (hr.1 e2 he).2 q3 q4))
          simp only [execOp, hv, Sem.run_bind, run_entry_at (P := P) w b bm lastc seen es lastc e2 hh hm he hbn.2, Result.andThen_ok, Sem.run_pure]
    · exact hk.elim
  · exact hk.elim
end
end Go.Vm
end

/- Slices that a map owns: one is taken out; one is put in. -/
section
namespace Go.Vm
open Go.ChangeMaps (setBlock)
section
variable {P : Program} {E : En} {n : Nat} {ψ : Pl} {s : St} {a : Act} {w : World}
variable {dst : Option Nat} {ty : TypeId} {pos : String} {af : Array Edge} {g : Option (Nat × Bool)} {r : Rhs} {d : Nat} {K : St → AV → Prop}
theorem Subs.not_main {H : Hp} (h : Subs ψ H w) {id b : Nat} {o : Ob} (ho : look H id = some o) (hb : ψ.sub id b) (k : Nat × Nat) : ψ id ≠ some (b, k) := (h id o b ho hb).2.2 k
theorem gsetO_same {β : Type} (g : List Value → Option β) (k : List Value) (c : Option β) : gset g k c k = c := by simp [gset]
theorem gsetO_ne {β : Type} (g : List Value → Option β) {k q : List Value} (c : Option β) (h : q ≠ k) : gset g k c q = g q := by simp [gset, h]
theorem SimAt.takeOut (h : SimAt E n ψ s a w) {id d : Nat} (hd : d < 1000) (hno : look s.hp d = none) {sk : Sk} {sz : Nat} {g : List Value → Option (List (List IV))}
    (ho : look s.hp id = some (.mapo sk sz g none)) {kk : List Value} {xs : List (List IV)} (hg : g kk = some xs) {b0 clock0 : Nat} {es0 : Array MapEntry} (hb0 : ψ id = some (b0, (0, 0))) (hh0 : w.heap[b0]? = some (.map es0 clock0))
    {e0 : MapEntry} (he0 : e0 ∈ es0.toList) (hk0 : keyOf e0.key = kk) :
    ∃ ψ2, SimAt E n ψ2 ((s.add id (.mapo sk sz (gset g kk none) (some kk))).add d (.lent id sz xs)) a w ∧
      RAV (Im E ψ2 ((s.add id (.mapo sk sz (gset g kk none) (some kk))).add d (.lent id sz xs)).hp) ψ2 ((s.add id (.mapo sk sz (gset g kk none) (some kk))).add d (.lent id sz xs)).hp w (.sl d sz 0 xs.length) e0.val := by
  obtain ⟨b, es, clock, pl, h1, h2, h3, h4, h5, h6, h7, h8, h9, h10, h11⟩ := h.obs id _ ho
  rw [h1] at hb0; cases hb0
  rw [h2] at hh0; cases hh0
  obtain ⟨e9, he9, hk9, hsub⟩ := h9 kk xs hg
  have : e9 = e0 := nodup_inj h6 e9 he9 e0 he0 (by rw [hk9, hk0])
  subst this
  have hne : id ≠ d := by rintro rfl; rw [ho] at hno; cases hno
  generalize hp : pl kk = p at hsub
  have hps : ∀ b q, p = some (b, q) → ψ.sub id b := fun b q e => h10 kk xs b q hg (hp.trans e)
  let ψ2 : Pl := ⟨fun j => if j = d then p else ψ j, fun j b => if j = id then ψ.sub id b ∧ ∀ q, p ≠ some (b, q) else j ≠ d ∧ ψ.sub j b⟩
  generalize hs2 : (s.add id (.mapo sk sz (gset g kk none) (some kk))).add d (.lent id sz xs) = s2
  have hlk : ∀ j, look s2.hp j = if d = j then some (.lent id sz xs) else if id = j then some (.mapo sk sz (gset g kk none) (some kk)) else look s.hp j := by
    intro j; rw [← hs2, look_add, look_add]
  have o1 : ∀ {b}, Owns ψ2 d b → ∃ q, p = some (b, q) := by
    intro b hb
    rcases hb with ⟨q, hb⟩ | hb
    · exact ⟨q, by simpa [ψ2] using hb⟩
    · simp [ψ2, Ne.symm hne] at hb
  have o2 : ∀ {b}, Owns ψ2 id b ↔ (∃ k, ψ id = some (b, k)) ∨ (ψ.sub id b ∧ ∀ q, p ≠ some (b, q)) := by
    intro b; simp [Owns, ψ2, hne]
  have o3 : ∀ {j b}, j ≠ d → j ≠ id → (Owns ψ2 j b ↔ Owns ψ j b) := by
    intro j b hj1 hj2; simp [Owns, ψ2, hj1, hj2]
  have oid : ∀ {b}, Owns ψ2 id b → Owns ψ id b := by
    intro b hb
    rcases o2.1 hb with h | h
    · exact .inl h
    · exact .inr h.1
  have od : ∀ {b}, Owns ψ2 d b → Owns ψ id b := by
    intro b hb
    obtain ⟨q, hq⟩ := o1 hb
    exact .inr (hps b q hq)
  -- whose it was
  have back : ∀ {j o b}, look s2.hp j = some o → Owns ψ2 j b → ∃ j' o', look s.hp j' = some o' ∧ Owns ψ j' b ∧ (j' = if j = d then id else j) := by
    intro j o b hj hb
    rw [hlk] at hj
    by_cases e1 : d = j
    · subst e1; exact ⟨id, _, ho, od hb, by simp⟩
    · rw [if_neg e1] at hj
      by_cases e2 : id = j
      · subst e2; exact ⟨id, _, ho, oid hb, by simp [hne]⟩
      · rw [if_neg e2] at hj; exact ⟨j, o, hj, (o3 (Ne.symm e1) (Ne.symm e2)).1 hb, by simp [Ne.symm e1]⟩
  have held : ∀ b, Held ψ2 s2.hp b → Held ψ s.hp b := by
    rintro b ⟨j, o, hj, hb⟩
    obtain ⟨j', o', q1, q2, _⟩ := back hj hb
    exact ⟨j', o', q1, q2⟩
  have hI : ∀ b, b < w.heap.size → Im E ψ s.hp b → Im E ψ2 s2.hp b := fun b _ hi => ⟨hi.1, fun hh => hi.2 (held b hh)⟩
  have hkeep : Keeps ψ ψ2 s.hp s2.hp := by
    intro j o hj
    have hjd : j ≠ d := by rintro rfl; rw [hno] at hj; cases hj
    refine ⟨?_, by simp [ψ2, hjd]⟩
    by_cases e2 : id = j
    · subst e2
      rw [ho] at hj; cases hj
      exact ⟨_, by rw [hlk, if_neg (Ne.symm hjd), if_pos rfl], Ob.le_none rfl⟩
    · exact ⟨o, by rw [hlk, if_neg (Ne.symm hjd), if_neg e2]; exact hj, o.le_refl⟩
  have hψd : ψ2 d = p := by simp [ψ2]
  have hlkd : look s2.hp d = some (.lent id sz xs) := by rw [hlk, if_pos rfl]
  refine ⟨ψ2, { size := h.size, defers := h.defers.mono hI (fun _ _ _ => rfl), frame := fun t => ?_, obs := ?_, inj := ?_, own := ?_, subs := ?_, par := ?_, old := h.old, grow := h.grow, same := h.same }, ?_⟩
  · have : s2.get t = s.get t := by rw [← hs2]; rfl
    rw [this]
    exact (h.frame t).mono hI (fun _ _ _ => rfl) hkeep
  · intro j o hj
    rw [hlk] at hj
    by_cases e1 : d = j
    · subst e1
      rw [if_pos rfl] at hj; cases hj
      obtain ⟨hs0, ⟨q1, q2, q3⟩ | ⟨b', k', cap, ad, q1, q2, q3, q4, q5, q6, c, e, r1, r2, r3, r4⟩⟩ := hsub
      · exact ⟨hs0, .inl ⟨by rw [hψd]; exact q1, q2⟩⟩
      · exact ⟨hs0, .inr ⟨b', k', c, e, by rw [hψd]; exact q1, r1, r2, r3, fun i j x hx => (r4 i j x hx).mono hI (fun _ _ _ => rfl)⟩⟩
    · rw [if_neg e1] at hj
      by_cases e2 : id = j
      · subst e2
        rw [if_pos rfl] at hj; cases hj
        refine ⟨b0, es0, clock0, pl, by simp [ψ2, hne]; exact h1, h2, h3, h4, h5, h6, fun e he => ?_, fun k hk => ?_, fun k ys hk => ?_, fun k ys b' q hk hq => ?_, fun k ys k' ys' b' q q' hk hk' hq hq' => ?_⟩
        · by_cases hek : keyOf e.key = kk
          · exact .inl (by rw [hek])
          · rcases h7 e he with h | ⟨ys, h⟩
            · cases h
            · exact .inr ⟨ys, by rw [gsetO_ne _ _ hek]; exact h⟩
        · simp only [Option.some.injEq] at hk
          subst hk
          exact ⟨gsetO_same _ _ _, e9, he9, hk9⟩
        · have hkk : k ≠ kk := by rintro rfl; rw [gsetO_same] at hk; cases hk
          rw [gsetO_ne _ _ hkk] at hk
          obtain ⟨e, q1, q2, q3⟩ := h9 k ys hk
          exact ⟨e, q1, q2, q3.mono hI (fun _ _ _ => rfl) (fun _ _ _ => rfl)⟩
        · have hkk : k ≠ kk := by rintro rfl; rw [gsetO_same] at hk; cases hk
          rw [gsetO_ne _ _ hkk] at hk
          simp only [ψ2, if_true]
          exact ⟨h10 k ys b' q hk hq, fun q' e => hkk (h11 k ys kk xs b' q q' hk hg hq (hp.trans e))⟩
        · have hkk : k ≠ kk := by rintro rfl; rw [gsetO_same] at hk; cases hk
          have hkk' : k' ≠ kk := by rintro rfl; rw [gsetO_same] at hk'; cases hk'
          rw [gsetO_ne _ _ hkk] at hk
          rw [gsetO_ne _ _ hkk'] at hk'
          exact h11 k ys k' ys' b' q q' hk hk' hq hq'
      · rw [if_neg e2] at hj
        exact (h.obs j o hj).mono hI (fun _ _ _ => rfl) hkeep ⟨by simp [ψ2, Ne.symm e1], fun b hb => by simp only [ψ2, if_neg (Ne.symm e2)]; exact ⟨Ne.symm e1, hb⟩⟩ (fun _ _ => rfl)
  · intro i i' oi oi' b hi hi' hb hb'
    obtain ⟨j, oj, q1, q2, q3⟩ := back hi hb
    obtain ⟨j', oj', q1', q2', q3'⟩ := back hi' hb'
    have hjj := h.inj j j' oj oj' b q1 q1' q2 q2'
    have cross : ∀ {b}, Owns ψ2 d b → Owns ψ2 id b → False := by
      intro b h1 h2
      obtain ⟨q, hq⟩ := o1 h1
      rcases o2.1 h2 with ⟨k, h2⟩ | ⟨_, h2⟩
      · exact h.subs.not_main ho (hps b q hq) k h2
      · exact h2 q hq
    by_cases e1 : i = d
    · by_cases e2 : i' = d
      · rw [e1, e2]
      · rw [if_pos e1] at q3
        rw [if_neg e2] at q3'
        have : i' = id := by rw [← q3', ← hjj, q3]
        subst e1; subst this
        exact (cross hb hb').elim
    · by_cases e2 : i' = d
      · rw [if_neg e1] at q3
        rw [if_pos e2] at q3'
        have : i = id := by rw [← q3, hjj, q3']
        subst e2; subst this
        exact (cross hb' hb).elim
      · rw [if_neg e1] at q3
        rw [if_neg e2] at q3'
        rw [← q3, ← q3', hjj]
  · intro i oi b hi hb
    rw [hlk] at hi
    by_cases e1 : d = i
    · subst e1
      rw [if_pos rfl] at hi; cases hi
      have := h.own id _ b ho (od hb)
      exact this
    · rw [if_neg e1] at hi
      by_cases e2 : id = i
      · subst e2
        rw [if_pos rfl] at hi; cases hi
        have := h.own id _ b ho (oid hb)
        exact this
      · rw [if_neg e2] at hi
        exact h.own i oi b hi ((o3 (Ne.symm e1) (Ne.symm e2)).1 hb)
  · intro i oi b hi hb
    rw [hlk] at hi
    by_cases e1 : d = i
    · subst e1; simp [ψ2, Ne.symm hne] at hb
    · rw [if_neg e1] at hi
      by_cases e2 : id = i
      · subst e2
        rw [if_pos rfl] at hi; cases hi
        have hb : ψ.sub id b := by simp only [ψ2, if_true] at hb; exact hb.1
        obtain ⟨_, r2, r3⟩ := h.subs id _ b ho hb
        exact ⟨rfl, r2, fun k => by simp only [ψ2, if_neg hne]; exact r3 k⟩
      · rw [if_neg e2] at hi
        have hb : ψ.sub i b := by simp only [ψ2, if_neg (Ne.symm e2)] at hb; exact hb.2
        obtain ⟨r1, r2, r3⟩ := h.subs i oi b hi hb
        exact ⟨r1, r2, fun k => by simp only [ψ2, if_neg (Ne.symm e1)]; exact r3 k⟩
  · intro i hi
    have : i ≠ d := by have := E.big i hi; omega
    simp only [ψ2, if_neg this]
    exact h.par i hi
  · obtain ⟨hs0, ⟨q1, q2, q3⟩ | ⟨b', k', cap, ad, q1, q2, q3, q4, q5, q6, _⟩⟩ := hsub
    · subst q2; rw [q3]; exact .sl0 d sz _ 0 hlkd rfl (by rw [hψd]; exact q1)
    · rw [q2]
      exact .sl d sz 0 xs.length b' k' cap ad _ xs.length hlkd rfl (by omega) (by rw [hψd]; exact q1) (fun hc => by rw [q3 hc]; simp) q4 (by simpa using q5) q6
theorem rsub_of {A : Nat → Prop} {H : Hp} {id sz : Nat} {xs : List (List IV)} {o : Ob} {v : Value} (he : o.els = some (sz, xs)) (hl : look H id = some o) (ho : ROb A ψ H w id o)
    (hv : RAV A ψ H w (.sl id sz 0 xs.length) v) : RSub A w sz xs (ψ id) v := by
  obtain ⟨h0, hcase⟩ := els_rob he ho
  refine ⟨h0, ?_⟩
  obtain ⟨o', m, q1, q2, q3, hc⟩ := inv_sl hv
  rcases hc with ⟨p1, p2, p3, p4⟩ | ⟨b, k, cap, ad, p1, p2, p3, p4, p5⟩
  · exact .inl ⟨p1, List.eq_nil_of_length_eq_zero p3, p4⟩
  · rcases hcase with ⟨r1, _⟩ | ⟨b', k', c, e, r1, r2, r3, r4, r5⟩
    · rw [r1] at p1; cases p1
    · rw [r1] at p1; cases p1
      refine .inr ⟨b, k, cap, ad, r1, p5, fun hc => by rw [p2 hc]; simp, p3, by simpa using p4, ?_, c, e, r2, r3, r4, r5⟩
      rw [p5] at hv; exact inv_sl_cap hv
theorem look_kill (d k : Nat) : look (s.kill d).hp k = if k = d then none else (look s.hp k).map (Ob.mapc (AV.kc (· == d))) := by
  show look ((s.mapc (AV.kc (· == d))).hp.filter (·.1 != d)) k = _
  rw [look_filter, look_mapc]
theorem SimAt.putIn (h : SimAt E n ψ s a w) {id d : Nat} (hd : d < 1000) (hne : d ≠ id) {sk : Sk} {sz : Nat} {g : List Value → Option (List (List IV))} {hole : Option (List Value)}
    (ho : look s.hp id = some (.mapo sk sz g hole)) {kk : List Value} {xs : List (List IV)} {o : Ob} (hod : look s.hp d = some o) (hels : o.els = some (sz, xs)) (horg : o.org? = none ∨ o.org? = some id)
    (hcase : hole = some kk ∨ (hole = none ∧ g kk = none)) {v : Value} (hv : RAV (Im E ψ s.hp) ψ s.hp w (.sl d sz 0 xs.length) v) {b clock clock' : Nat} {es es' : Array MapEntry} (hb : ψ id = some (b, (0, 0))) (hh : w.heap[b]? = some (.map es clock))
    (hbn : Born es' clock') (hnd : (es'.toList.map fun e => keyOf e.key).Nodup) (hfit : ∀ e ∈ es'.toList, Fits sk e) (hnew : ∃ e ∈ es'.toList, keyOf e.key = kk ∧ e.val = v)
    (hold : ∀ e ∈ es'.toList, keyOf e.key ≠ kk → e ∈ es.toList) (hall : ∀ e ∈ es.toList, keyOf e.key ≠ kk → e ∈ es'.toList) :
    ∃ ψ2, SimAt E n ψ2 ((s.kill d).add id (.mapo sk sz (gset g kk (some xs)) none)) a (setBlock w b (.map es' clock')) := by
  obtain ⟨b1, es1, clock1, pl, h1, h2, h3, h4, h5, h6, h7, h8, h9, h10, h11⟩ := h.obs id _ ho
  rw [h1] at hb; cases hb
  rw [h2] at hh; cases hh
  have hsub := rsub_of hels hod (h.obs d o hod) hv
  have hmul : o.multi = false := els_multi hels
  let ψ2 : Pl := ⟨fun j => ψ j, fun j b => (j = id ∧ ∃ k, ψ d = some (b, k)) ∨ ψ.sub j b⟩
  generalize hs2 : (s.kill d).add id (.mapo sk sz (gset g kk (some xs)) none) = s2
  have hlk : ∀ j, look s2.hp j = if id = j then some (.mapo sk sz (gset g kk (some xs)) none) else if j = d then none else (look s.hp j).map (Ob.mapc (AV.kc (· == d))) := by
    intro j; rw [← hs2, look_add, look_kill]
  have oid : ∀ {b}, Owns ψ2 id b ↔ Owns ψ id b ∨ ∃ k, ψ d = some (b, k) := by
    intro b
    simp only [Owns, ψ2, true_and]
    constructor
    · rintro (h | h | h)
      · exact .inl (.inl h)
      · exact .inr h
      · exact .inl (.inr h)
    · rintro ((h | h) | h)
      · exact .inl h
      · exact .inr (.inr h)
      · exact .inr (.inl h)
  have o3 : ∀ {j b}, j ≠ id → (Owns ψ2 j b ↔ Owns ψ j b) := by
    intro j b hj; simp [Owns, ψ2, hj]
  have back : ∀ {j o2 b}, look s2.hp j = some o2 → Owns ψ2 j b → j ≠ d ∧ ((∃ o', look s.hp j = some o' ∧ Owns ψ j b) ∨ (j = id ∧ Owns ψ d b)) := by
    intro j o2 b hj hb
    rw [hlk] at hj
    by_cases e1 : id = j
    · subst e1
      refine ⟨Ne.symm hne, ?_⟩
      rcases oid.1 hb with hb | ⟨k, hb⟩
      · exact .inl ⟨_, ho, hb⟩
      · exact .inr ⟨rfl, .inl ⟨k, hb⟩⟩
    · rw [if_neg e1] at hj
      split at hj
      · cases hj
      · rename_i hjd
        cases hl : look s.hp j with
        | none => rw [hl] at hj; cases hj
        | some o' => exact ⟨hjd, .inl ⟨o', rfl, (o3 (Ne.symm e1)).1 hb⟩⟩
  have held : ∀ b, Held ψ2 s2.hp b → Held ψ s.hp b := by
    rintro b ⟨j, o2, hj, hb⟩
    obtain ⟨_, ⟨o', q1, q2⟩ | ⟨_, q2⟩⟩ := back hj hb
    · exact ⟨j, o', q1, q2⟩
    · exact ⟨d, o, hod, q2⟩
  have hB : Held ψ s.hp b := ⟨id, _, ho, .inl ⟨_, h1⟩⟩
  have hwb : ∀ i, i ≠ b → (setBlock w b (.map es' clock')).heap[i]? = w.heap[i]? := fun i hi => by
    show (w.heap.setIfInBounds b _)[i]? = _
    rw [Array.getElem?_setIfInBounds_ne (Ne.symm hi)]
  have hwB : (setBlock w b (.map es' clock')).heap[b]? = some (.map es' clock') := by
    show (w.heap.setIfInBounds b _)[b]? = _
    simp [heap_lt h2]
  have hsz : (setBlock w b (.map es' clock')).heap.size = w.heap.size := by simp [setBlock]
  have hI : ∀ i, i < w.heap.size → Im E ψ s.hp i → Im E ψ2 s2.hp i := fun i _ hi => ⟨hi.1, fun hh => hi.2 (held i hh)⟩
  have hw' : ∀ i, i < w.heap.size → Im E ψ s.hp i → (setBlock w b (.map es' clock')).heap[i]? = w.heap[i]? := fun i _ hi => hwb i (fun e => hi.2 (e ▸ hB))
  have hk : KeepsBut (· == d) ψ ψ2 s.hp s2.hp := by
    intro j oj hj hoj
    have hjd : j ≠ d := by simpa using hj
    refine ⟨?_, rfl⟩
    by_cases e1 : id = j
    · subst e1
      rw [ho] at hoj; cases hoj
      exact ⟨_, by rw [hlk, if_pos rfl], Ob.le_none rfl⟩
    · exact ⟨_, by rw [hlk, if_neg e1, if_neg hjd, hoj]; rfl, Ob.le_mapc _ oj⟩
  have hf := turns_kc (p := (· == d)) hI hw' hk
  -- the place of the new one is none of the others'
  have hpd : ∀ k ys b' q q', g k = some ys → pl k = some (b', q) → ψ d = some (b', q') → False := by
    intro k ys b' q q' hk hq hq'
    exact hne (h.inj d id o _ b' hod ho (.inl ⟨q', hq'⟩) (.inr (h10 k ys b' q hk hq)))
  classical
  refine ⟨ψ2, { size := h.size, defers := h.defers.mono hI hw', frame := fun t => ?_, obs := ?_, inj := ?_, own := ?_, subs := ?_, par := h.par, old := ?_, grow := ?_, same := h.same }⟩
  · have e : s2.get t = (s.get t).mapc (AV.kc (· == d)) := by rw [← hs2]; exact St.get_mapc _ rfl t
    rw [e]
    exact (h.frame t).mapc hf (fun _ => rfl) (fun _ => rfl)
  · intro j oj hj
    rw [hlk] at hj
    by_cases e1 : id = j
    · subst e1
      rw [if_pos rfl] at hj; cases hj
      have hgk : ∀ k ys, k ≠ kk → gset g kk (some xs) k = some ys → g k = some ys := fun k ys hk hq => by rw [gsetO_ne _ _ hk] at hq; exact hq
      obtain ⟨pl2, hpl1, hpl2⟩ : ∃ pl2 : List Value → Option (Nat × (Nat × Nat)), pl2 kk = ψ d ∧ ∀ k, k ≠ kk → pl2 k = pl k := ⟨fun k => if k = kk then ψ d else pl k, by simp, fun k hk => by simp [hk]⟩
      refine ⟨b, es', clock', pl2, h1, hwB, hbn, hfit, h5, hnd, fun e he => ?_, (fun k hk => by cases hk), fun k ys hk => ?_, fun k ys b' q hk hq => ?_, fun k ys k' ys' b' q q' hk hk' hq hq' => ?_⟩
      · right
        by_cases hek : keyOf e.key = kk
        · exact ⟨xs, by rw [hek, gsetO_same]⟩
        · rcases h7 e (hold e he hek) with h | ⟨ys, h⟩
          · rcases hcase with hc | ⟨hc, _⟩
            · rw [hc] at h; cases h; exact absurd rfl hek
            · rw [hc] at h; cases h
          · exact ⟨ys, by rw [gsetO_ne _ _ hek]; exact h⟩
      · by_cases hkk : k = kk
        · subst hkk
          rw [gsetO_same] at hk; cases hk
          obtain ⟨e, q1, q2, q3⟩ := hnew
          refine ⟨e, q1, q2, ?_⟩
          rw [hpl1, q3]
          exact hsub.mono hI hw' fun b' q hq => hwb b' (by
            rintro rfl
            exact hne (h.inj d id o _ b' hod ho (.inl ⟨q, hq⟩) (.inl ⟨_, h1⟩)))
        · obtain ⟨e, q1, q2, q3⟩ := h9 k ys (hgk k ys hkk hk)
          refine ⟨e, hall e q1 (by rw [q2]; exact hkk), q2, ?_⟩
          rw [hpl2 _ hkk]
          exact q3.mono hI hw' fun b' q hq => hwb b' (by
            rintro rfl
            exact h.subs.not_main ho (h10 k ys b' q (hgk k ys hkk hk) hq) _ h1)
      · by_cases hkk : k = kk
        · rw [hkk, hpl1] at hq; exact .inl ⟨rfl, q, hq⟩
        · rw [hpl2 _ hkk] at hq; exact .inr (h10 k ys b' q (hgk k ys hkk hk) hq)
      · by_cases hkk : k = kk <;> by_cases hkk' : k' = kk
        · rw [hkk, hkk']
        · rw [hkk, hpl1] at hq; rw [hpl2 _ hkk'] at hq'
          exact (hpd k' ys' b' q' q (hgk k' ys' hkk' hk') hq' hq).elim
        · rw [hpl2 _ hkk] at hq; rw [hkk', hpl1] at hq'
          exact (hpd k ys b' q q' (hgk k ys hkk hk) hq hq').elim
        · rw [hpl2 _ hkk] at hq; rw [hpl2 _ hkk'] at hq'
          exact h11 k ys k' ys' b' q q' (hgk k ys hkk hk) (hgk k' ys' hkk' hk') hq hq'
    · rw [if_neg e1] at hj
      split at hj
      · cases hj
      · rename_i hjd
        cases hl : look s.hp j with
        | none => rw [hl] at hj; cases hj
        | some o1 =>
          rw [hl] at hj
          simp only [Option.map_some, Option.some.injEq] at hj
          subst hj
          have hblk : ∀ i, Owns ψ j i → (setBlock w b (.map es' clock')).heap[i]? = w.heap[i]? := fun i hi => hwb i (by
            rintro rfl
            exact e1 (h.inj id j _ o1 i ho hl (.inl ⟨_, h1⟩) hi))
          cases o1 with
          | box cs =>
            obtain ⟨b2, c, e, g1, g2, g3, g4⟩ := h.obs j _ hl
            refine ⟨b2, c, e, g1, by rw [hblk b2 (.inl ⟨_, g1⟩)]; exact g2, by simpa using g3, fun i x hx => ?_⟩
            rw [List.getElem?_map] at hx
            cases hci : cs[i]? with
            | none => rw [hci] at hx; cases hx
            | some c0 =>
              rw [hci] at hx; cases hx
              have h6 := g4 i c0 hci
              cases c0 with
              | agg l => exact .junk _
              | tup l => exact .junk _
              | _ => exact hf _ _ h6 (by simp) (by simp)
          | gh Z vs cs =>
            obtain ⟨g1, g2, g3, g4⟩ := h.obs j _ hl
            refine ⟨g1, g2.mono hI (fun b hb => .inr hb) hw' (fun b hb => hblk b (.inr hb)), by simpa using g3, fun i x hx => ?_⟩
            rw [List.getElem?_map] at hx
            cases hci : cs[i]? with
            | none => rw [hci] at hx; cases hx
            | some c0 => rw [hci] at hx; cases hx; exact (g4 i c0 hci).mapc hf (fun _ => rfl) (fun _ => rfl)
          | _ => exact (h.obs j _ hl).move (by constructor <;> (intros; intro e; cases e)) hI hw' ⟨rfl, fun b hb => .inr hb⟩ hblk
  · intro i i' oi oi' x hi hi' hx hx'
    obtain ⟨n1, q⟩ := back hi hx
    obtain ⟨n2, q'⟩ := back hi' hx'
    rcases q with ⟨u, q1, q2⟩ | ⟨q1, q2⟩ <;> rcases q' with ⟨u', q1', q2'⟩ | ⟨q1', q2'⟩
    · exact h.inj i i' u u' x q1 q1' q2 q2'
    · exact absurd (h.inj i d u o x q1 hod q2 q2') n1
    · exact absurd (h.inj i' d u' o x q1' hod q2' q2) n2
    · rw [q1, q1']
  · intro i oi x hi hx
    rw [hlk] at hi
    by_cases e1 : id = i
    · subst e1
      rw [if_pos rfl] at hi; cases hi
      rcases oid.1 hx with hx | ⟨k, hx⟩
      · have := h.own id _ x ho hx
        exact this
      · rcases h.own d o x hod (.inl ⟨k, hx⟩) with ⟨q1, q2⟩ | q1
        · left
          have e : o.org d = id := by
            cases o with
            | lent org z ys =>
              rcases horg with h | h
              · cases h
              · simp only [Ob.org?, Option.some.injEq] at h; exact h
            | list z ys =>
              have := E.big d q1
              omega
            | _ => cases hels
          rw [e] at q1 q2
          exact ⟨q1, q2⟩
        · exact .inr q1
    · rw [if_neg e1] at hi
      split at hi
      · cases hi
      · cases hl : look s.hp i with
        | none => rw [hl] at hi; cases hi
        | some o1 =>
          rw [hl] at hi
          simp only [Option.map_some, Option.some.injEq] at hi
          subst hi
          rw [Ob.org_mapc]
          exact h.own i o1 x hl ((o3 (Ne.symm e1)).1 hx)
  · intro i oi x hi hx
    rw [hlk] at hi
    rw [hsz]
    by_cases e1 : id = i
    · subst e1
      rw [if_pos rfl] at hi; cases hi
      rcases hx with ⟨_, k, hx⟩ | hx
      · refine ⟨rfl, (h.obs d o hod).lt hx, fun k' e => ?_⟩
        exact hne (h.inj d id o _ x hod ho (.inl ⟨k, hx⟩) (.inl ⟨k', e⟩))
      · obtain ⟨_, q2, q3⟩ := h.subs id _ x ho hx
        exact ⟨rfl, q2, q3⟩
    · rw [if_neg e1] at hi
      split at hi
      · cases hi
      · cases hl : look s.hp i with
        | none => rw [hl] at hi; cases hi
        | some o1 =>
          rw [hl] at hi
          simp only [Option.map_some, Option.some.injEq] at hi
          subst hi
          rw [Ob.multi_mapc]
          have hx : ψ.sub i x := by
            rcases hx with ⟨h, _⟩ | h
            · exact absurd h.symm e1
            · exact h
          exact h.subs i o1 x hl hx
  · intro i hi hm
    rw [hwb i ?_]
    · exact h.old i hi hm
    · rintro rfl
      rcases h.own id _ i ho (.inl ⟨_, h1⟩) with ⟨q1, q2⟩ | q1
      · exact hm (.inl ⟨_, q1, q2⟩)
      · exact E.no hi hm q1
  · rw [hsz]; exact h.grow
end
end Go.Vm
end

/- A look into a map, and a store into one: whichever map it is. -/
section
namespace Go.Vm
open Go.ChangeMaps (setBlock)
section
variable {P : Program} {E : En} {n : Nat} {ψ : Pl} {s : St} {a : Act} {w : World}
variable {dst : Option Nat} {ty : TypeId} {pos : String} {af : Array Edge} {g : Option (Nat × Bool)} {r : Rhs} {d : Nat} {K : St → AV → Prop}
theorem moOf_inv {x : AV} {id : Nat} {sk : Sk} {sz : Nat} {gm : List Value → Option (List (List IV))} {hole : Option (List Value)} (hx : s.moOf x = some (id, sk, sz, gm, hole)) :
    x = .mpr id ∧ look s.hp id = some (.mapo sk sz gm hole) := by
  unfold St.moOf at hx
  split at hx
  · split at hx
    · rename_i h
      simp only [Option.some.injEq, Prod.mk.injEq] at hx
      obtain ⟨rfl, rfl, rfl, rfl, rfl⟩ := hx
      exact ⟨rfl, h⟩
    · cases hx
  · cases hx
theorem run_lookup {t k' e' : TypeId} {m k : Operand} {sk : Sk} (hu : P.underlying t = some (.map k' e')) (p1 : plainK P 20 k' = some sk.2.1) (p2 : infoSize P k' = some sk.2.1.length)
    (hk1 : skOf (a.eval k) = some (isAggT P k', sk.2.1)) {b clock : Nat} {es : Array MapEntry} (hm : a.eval m = .map (some b)) (hh : w.heap[b]? = some (.map es clock)) {r : Option (Nat × Value)} {v : Value}
    (h1 : (Instr.findKey k' (a.eval k) es.toList).run P w = .ok r w) (h2 : match r with | some (_, v') => v' = v | none => (zeroValue e').run P w = .ok v w) :
    (execOp a.eval ⟨dst, .lookup t m k false, ty, pos, af, g⟩).run P w = .ok (.value v) w := by
  simp only [execOp, Sem.run_bind]
  have : (Instr.lookup t (a.eval m) (a.eval k) false).run P w = .ok v w := by
    unfold Instr.lookup
    rw [Sem.run_bind, Vm.run_underlying w hu, Result.andThen_ok, hm]
    simp only [Sem.run_bind, Sem.run_pure, getObj_map hh, run_check p1 p2 hk1 es.isEmpty, Result.andThen_ok, h1]
    cases r with
    | none => simp only [Sem.run_bind, h2, Result.andThen_ok, Sem.run_pure]; rfl
    | some p => obtain ⟨i, v'⟩ := p; simp only at h2; subst h2; simp only [Sem.run_pure, Result.andThen_ok]; rfl
  rw [this]; rfl
theorem zav_nil {sz sz' : Nat} {v : Value} (h : zav sz' v = .nil sz) : v = .slice none 0 0 := by
  unfold zav at h
  split at h
  · rfl
  · cases h
  · cases h
  · cases h
theorem lkp_val {t k' e' : TypeId} {m k : Operand} {ok : Bool} {sk : Sk} {z : List AV} (hu : P.underlying t = some (.map k' e')) (hsk : skT P k' e' = some sk) (hz : zeroAV P e' = some z)
    (hza : ((P.info? e').bind (·.zero)).map isAggV = some (isAggT P e')) (hd : d < 1000) (h : SimAt E n ψ s a w) (hk : stp P d s K (.lkp sk z m k ok)) :
    ∃ v, (∀ u, Ext w u → (execOp a.eval ⟨dst, .lookup t m k ok, ty, pos, af, g⟩).run P u = .ok (.value v) u) ∧ ∃ ψ' s' av, SimAt E n ψ' s' a w ∧ K s' av ∧ RAV (Im E ψ' s'.hp) ψ' s'.hp w av v := by
  simp only [stp] at hk
  cases hmo : (s.drop d).moOf ((s.drop d).ev m) with
  | none =>
    rw [hmo] at hk
    obtain ⟨v, av, h1, h2, h3⟩ := lkp_val0 (dst := dst) (ty := ty) (pos := pos) (af := af) (g := g) hu hsk hz hza h hk
    exact ⟨v, h1, ψ, s, av, h, h2, h3⟩
  | some q =>
    obtain ⟨id, sk1, sz, gm, hole⟩ := q
    rw [hmo] at hk
    obtain ⟨p1, p2, p3, p4⟩ := skT_inv hsk
    have hf := h.drop (id := d) hd
    have hno := look_drop s d
    generalize s.drop d = s1 at hk hf hno hmo
    obtain ⟨hme, ho⟩ := moOf_inv hmo
    have hm := hf.ev m
    have hkv := hf.ev k
    dsimp only at hk
    split at hk
    · rename_i sk2 kk sz' hkey
      obtain ⟨rfl, rfl, rfl, rfl, rfl, hk⟩ := hk
      obtain ⟨hk1, hk2⟩ := keyAV_inv hkv hkey
      rw [p3] at hk1
      rw [hme] at hm
      obtain ⟨b, es, clock, pl, h1, h2, h3, h4, h5, h6, h7, h8, h9, h10, h11⟩ := hf.obs id _ ho
      have hmv : a.eval m = .map (some b) := by
        generalize a.eval m = vm at hm
        cases hm with
        | mpr _ b' q o' ho' hb' => rw [h1] at hb'; cases hb'; rfl
      have hall : ∀ e ∈ es.toList, skOf e.key = some (isAggT P k', sk1.2.1) := fun e he => by rw [← p3]; exact (h4 e he).1
      by_cases hex : ∃ e ∈ es.toList, e.key = a.eval k
      · obtain ⟨e, he, q3⟩ := hex
        have hrun : ∀ u, Ext w u → (execOp a.eval ⟨dst, .lookup t m k false, ty, pos, af, g⟩).run P u = .ok (.value e.val) u := by
          intro u hx
          rcases run_findKey (w := u) p1 p2 hk1 es.toList hall with ⟨q1, q2⟩ | ⟨j, e', q1, q2, q4⟩
          · exact absurd q3 (q2 e he)
          · have : e' = e := nodup_inj h6 e' (List.mem_of_getElem? q2) e he (by rw [q3, q4])
            subst this
            exact run_lookup hu p1 p2 hk1 hmv (hx.heap h2) q1 rfl
        rcases h7 e he with hc | ⟨xs, hc⟩
        · cases hc
        · rw [q3, hk2] at hc
          rw [hc] at hk
          obtain ⟨ψ2, r1, r2⟩ := hf.takeOut hd hno ho hc h1 h2 he (by rw [q3]; exact hk2)
          exact ⟨_, hrun, ψ2, _, _, r1, hk, r2⟩
      · have hgn : gm kk = none := by
          cases hc : gm kk with
          | none => rfl
          | some c =>
            obtain ⟨e, he, g1, _⟩ := h9 kk c hc
            exact absurd ⟨e, he, key_inj (hall e he) hk1 (by rw [g1, hk2])⟩ hex
        rw [hgn] at hk
        obtain ⟨i, zv, z1, z2, hzz⟩ := zeroAV_some hz
        rw [z1] at hza
        simp only [Option.bind_some, z2, Option.map_some, Option.some.injEq] at hza
        have hzv : zv = .slice none 0 0 := by
          have hone := one_cells (hza.trans (p4.symm.trans h5))
          rw [hone] at hzz
          have hzz : [AV.nil sz'] = zcells [zv] (cellSz P 20 e') := hzz
          cases hcs : cellSz P 20 e' with
          | nil => rw [hcs] at hzz; simp only [zcells, List.cons.injEq, and_true] at hzz; exact zav_nil hzz.symm
          | cons x y => rw [hcs] at hzz; simp only [zcells, List.cons.injEq, and_true] at hzz; exact zav_nil hzz.symm
        subst hzv
        refine ⟨_, fun u hx => ?_, ψ, s1, _, hf, hk, .nil _⟩
        rcases run_findKey (w := u) p1 p2 hk1 es.toList hall with ⟨q1, q2⟩ | ⟨j, e', q1, q2, q4⟩
        · exact run_lookup hu p1 p2 hk1 hmv (hx.heap h2) q1 (run_zero z1 z2 u)
        · exact absurd ⟨e', List.mem_of_getElem? q2, q4⟩ hex
    · exact hk.elim
theorem sound_lkp {t k' e' : TypeId} {m k : Operand} {ok : Bool} {sk : Sk} {z : List AV} (hu : P.underlying t = some (.map k' e')) (hsk : skT P k' e' = some sk) (hz : zeroAV P e' = some z)
    (hza : ((P.info? e').bind (·.zero)).map isAggV = some (isAggT P e')) (hd : d < 1000) (h : SimAt E n ψ s a w) (hk : stp P d s K (.lkp sk z m k ok)) :
    Does P E n ⟨dst, .lookup t m k ok, ty, pos, af, g⟩ a w K := by
  obtain ⟨v, h1, ψ', s', av, h2, h3, h4⟩ := lkp_val (dst := dst) (ty := ty) (pos := pos) (af := af) (g := g) hu hsk hz hza hd h hk
  exact does_run (h1 w (Ext.refl w)) h3 h2 h4
theorem sound_mset {t k' e' : TypeId} {m k x : Operand} {sk : Sk} (hu : P.underlying t = some (.map k' e')) (hsk : skT P k' e' = some sk) (h : SimAt E n ψ s a w) (hk : stp P d s K (.mset sk m k x))
    {o : Op} (hop : o = .mapUpdate t m k x ∨ o = .insert t m k x) : Does P E n ⟨dst, o, ty, pos, af, g⟩ a w K := by
  simp only [stp] at hk
  cases hmo : s.moOf (s.ev m) with
  | none => rw [hmo] at hk; exact sound_mset0 hu hsk h hk hop
  | some q =>
    obtain ⟨id, sk1, sz, gm, hole⟩ := q
    rw [hmo] at hk
    obtain ⟨p1, p2, p3, p4⟩ := skT_inv hsk
    obtain ⟨hme, ho⟩ := moOf_inv hmo
    have hm := h.ev m
    have hkv := h.ev k
    have hx := h.ev x
    dsimp only at hk
    split at hk
    · rename_i sk2 kk d' sz' len hkey hxe
      split at hk
      · rename_i o' hod
        split at hk
        · rename_i z0 xs hels
          obtain ⟨rfl, rfl, rfl, hd', hne, rfl, horg, hcase, hk⟩ := hk
          obtain ⟨hk1, hk2⟩ := keyAV_inv hkv hkey
          rw [p3] at hk1
          rw [hme] at hm
          rw [hxe] at hx
          obtain ⟨b, es, clock, pl, h1, h2, h3, h4, h5, h6, h7, h8, h9, h10, h11⟩ := h.obs id _ ho
          have hels' : o'.els = some (sz', xs) := by
            obtain ⟨o2, m2, q1, q2, _⟩ := inv_sl hx
            rw [hod] at q1; cases q1
            have := els_dim hels
            rw [q2] at this
            simp only [Option.some.injEq, Prod.mk.injEq] at this
            rw [hels, this.1]
          have hmv : a.eval m = .map (some b) := by
            generalize a.eval m = vm at hm
            cases hm with
            | mpr _ b' q o' ho' hb' => rw [h1] at hb'; cases hb'; rfl
          have hall : ∀ e ∈ es.toList, skOf e.key = some (isAggT P k', sk1.2.1) := fun e he => by rw [← p3]; exact (h4 e he).1
          have run : ∀ w', (Instr.mapUpdate t (.map (some b)) (a.eval k) (a.eval x)).run P w = .ok () w' → (execOp a.eval ⟨dst, o, ty, pos, af, g⟩).run P w = .ok .skip w' := by
            intro w' hrun
            rcases hop with rfl | rfl <;> simp only [execOp, hmv, Sem.run_bind, hrun, Result.andThen_ok, Sem.run_pure]
          have hvag : isAggV (a.eval x) = sk1.2.2 := by
            rw [h5]
            have : ∀ L v, RAV (Im E ψ s.hp) ψ s.hp w (.sl d' sz' 0 L) v → isAggV v = false := by intro L v h; cases h <;> rfl
            exact this _ _ hx
          rcases run_findKey (w := w) p1 p2 hk1 es.toList hall with ⟨q1, q2⟩ | ⟨j, e, q1, q2, q3⟩
          · have hno : ∀ e ∈ es.toList, keyOf e.key ≠ kk := fun e he hkk => q2 e he (key_inj (hall e he) hk1 (by rw [hkk, hk2]))
            obtain ⟨ψ2, hsim⟩ := h.putIn (clock' := clock + 1) (es' := es.push { key := a.eval k, val := a.eval x, born := clock }) hd' hne ho hod hels' horg hcase hx h1 h2 (h3.push _ rfl)
              (by
                rw [Array.toList_push, List.map_append, List.nodup_append]
                refine ⟨h6, by simp, ?_⟩
                intro u hu v hv huv
                rw [List.map_singleton, List.mem_singleton] at hv
                obtain ⟨e', he', e2⟩ := List.mem_map.1 hu
                exact hno e' he' (by rw [e2, huv, hv]; exact hk2))
              (fun e he => by
                rw [Array.toList_push, List.mem_append, List.mem_singleton] at he
                rcases he with he | rfl
                · exact h4 e he
                · exact ⟨by rw [p3]; exact hk1, hvag⟩)
              ⟨{ key := a.eval k, val := a.eval x, born := clock }, by simp, hk2, rfl⟩
              (fun e he hek => by
                rw [Array.toList_push, List.mem_append, List.mem_singleton] at he
                rcases he with he | rfl
                · exact he
                · exact absurd hk2 hek)
              (fun e he _ => by rw [Array.toList_push]; exact List.mem_append_left _ he)
            refine does_skip (run _ ?_) hk hsim
            unfold Instr.mapUpdate
            simp only [Sem.run_bind, Vm.run_underlying w hu, Result.andThen_ok, getObj_map h2, run_check p1 p2 hk1, q1, setObj_map _ h2]
            rfl
          · have he : e ∈ es.toList := List.mem_of_getElem? q2
            have heg : es[j]? = some e := by rw [← Array.getElem?_toList]; exact q2
            have hek : keyOf e.key = kk := by rw [q3]; exact hk2
            have hget : ∀ i, (es.modify j fun e => { e with val := a.eval x })[i]? = if j = i then (es[i]?).map (fun e => { e with val := a.eval x }) else es[i]? := by
              intro i
              rw [Array.getElem?_modify]
            have hmem : ∀ e' ∈ (es.modify j fun e => { e with val := a.eval x }).toList, e' = { e with val := a.eval x } ∨ e' ∈ es.toList := by
              intro e' he'
              obtain ⟨i, hi⟩ := List.getElem?_of_mem he'
              rw [Array.getElem?_toList, hget] at hi
              split at hi
              · rename_i hji
                subst hji
                rw [heg] at hi
                simp only [Option.map_some, Option.some.injEq] at hi
                exact .inl hi.symm
              · right
                rw [← Array.getElem?_toList] at hi; exact List.mem_of_getElem? hi
            have hkeys : (es.modify j fun e => { e with val := a.eval x }).toList.map (fun e => keyOf e.key) = es.toList.map (fun e => keyOf e.key) := by
              apply List.ext_getElem?
              intro i
              rw [List.getElem?_map, List.getElem?_map, Array.getElem?_toList, hget, Array.getElem?_toList]
              split
              · cases es[i]? <;> rfl
              · rfl
            obtain ⟨ψ2, hsim⟩ := h.putIn (clock' := clock) (es' := es.modify j fun e => { e with val := a.eval x }) hd' hne ho hod hels' horg hcase hx h1 h2 (h3.modify j (fun e => { e with val := a.eval x }) (fun _ => rfl))
              (by rw [hkeys]; exact h6)
              (fun e' he' => by
                rcases hmem e' he' with rfl | he'
                · exact ⟨(h4 e he).1, hvag⟩
                · exact h4 e' he')
              ⟨{ e with val := a.eval x }, by
                refine List.mem_of_getElem? (i := j) ?_
                rw [Array.getElem?_toList, hget, if_pos rfl, heg]; rfl, hek, rfl⟩
              (fun e' he' hek' => by
                rcases hmem e' he' with rfl | he'
                · exact absurd hek hek'
                · exact he')
              (fun e' he' hek' => by
                obtain ⟨i, hi⟩ := List.getElem?_of_mem he'
                refine List.mem_of_getElem? (i := i) ?_
                rw [Array.getElem?_toList] at hi ⊢
                rw [hget, if_neg ?_]
                · exact hi
                · rintro rfl
                  rw [heg] at hi; cases hi
                  exact hek' hek)
            have hmod : (es.modify j fun e => { e with key := a.eval k, val := a.eval x }) = es.modify j fun e => { e with val := a.eval x } := by
              apply Array.ext'
              apply List.ext_getElem?
              intro i
              rw [Array.getElem?_toList, Array.getElem?_toList, Array.getElem?_modify, Array.getElem?_modify]
              split
              · rename_i hji
                subst hji
                rw [heg]
                simp [q3]
              · rfl
            have hst : (Instr.keyThatStays e.key (a.eval k)).run P w = .ok (a.eval k) w := by
              unfold Instr.keyThatStays
              simp only [q3, sameBits_key hk1, if_true, Sem.run_pure]
            refine does_skip (run _ ?_) hk hsim
            unfold Instr.mapUpdate
            simp only [Sem.run_bind, Vm.run_underlying w hu, Result.andThen_ok, getObj_map h2, run_check p1 p2 hk1, q1, heg, Option.map_some, Option.getD_some, hst, hmod, setObj_map _ h2]
            rfl
        · exact hk.elim
      · exact hk.elim
    · exact hk.elim
theorem le_mapo (s : St) {id : Nat} {sk : Sk} (sz : Nat) (hsk : sk.2.2 = false) (ho : look s.hp id = some (.map sk fun _ => none)) : Le s (s.add id (.mapo sk sz (fun _ => none) none)) := by
  rintro E n a w ⟨ψ, h⟩
  obtain ⟨b, es, clock, h1, h2, h3, m1, m2, m3, m4⟩ := h.obs id _ ho
  have hes : es.toList = [] := by
    cases hc : es.toList with
    | nil => rfl
    | cons e r => obtain ⟨c, hc'⟩ := m2 e (by rw [hc]; simp); cases hc'
  refine ⟨ψ, h.chg (o' := .mapo sk sz (fun _ => none) none) (k := (0, 0)) ho (Ob.le_none rfl) rfl (by simp [Ob.multi]) h1 (fun _ _ => rfl) rfl ⟨rfl, rfl, rfl⟩
    (fun _ _ => ⟨b, es, clock, fun _ => none, h1, h2, h3, m1, hsk, m3, ?_, by simp, by simp, by simp, by simp⟩)⟩
  intro e he
  rw [hes] at he; cases he
end
end Go.Vm
end

/- Lists of lists: one is taken out, one is put in. -/
section
namespace Go.Vm
open Go.ChangeMaps (setBlock)
section
variable {P : Program} {E : En} {n : Nat} {ψ : Pl} {s : St} {a : Act} {w : World}
variable {dst : Option Nat} {ty : TypeId} {pos : String} {af : Array Edge} {g : Option (Nat × Bool)} {r : Rhs} {d : Nat} {K : St → AV → Prop}
theorem SimAt.takeOutL (h : SimAt E n ψ s a w) {id d : Nat} (hd : d < 1000) (hno : look s.hp d = none) {sz : Nat} {xs : List (List (List IV))}
    (ho : look s.hp id = some (.listo sz xs none)) {i0 : Nat} {ys : List (List IV)} (hg : xs[i0]? = some ys) {b : Nat} {k : Nat × Nat} (hb : ψ id = some (b, k)) :
    ∃ c e, w.heap[b]? = some (.cells c e (0, 0)) ∧ k.1 + i0 < c.size ∧ ∃ ψ2, SimAt E n ψ2 ((s.add id (.listo sz xs (some i0))).add d (.lent id sz ys)) a w ∧
      RAV (Im E ψ2 ((s.add id (.listo sz xs (some i0))).add d (.lent id sz ys)).hp) ψ2 ((s.add id (.listo sz xs (some i0))).add d (.lent id sz ys)).hp w (.sl d sz 0 ys.length) (c.getD (k.1 + i0) undef) := by
  obtain ⟨h0, b0, k0, c0, e0, pl, h1, h2, h3, h4, h9, h10, h11⟩ := h.obs id _ ho
  rw [h1] at hb; cases hb
  have hsub := h9 i0 ys hg (by simp)
  have hil := (List.getElem?_eq_some_iff.1 hg).1
  refine ⟨c0, e0, h2, by omega, ?_⟩
  have hne : id ≠ d := by rintro rfl; rw [ho] at hno; cases hno
  generalize hp : pl i0 = p at hsub
  have hps : ∀ b q, p = some (b, q) → ψ.sub id b := fun b q e => h10 i0 ys b q hg (by simp) (hp.trans e)
  let ψ2 : Pl := ⟨fun j => if j = d then p else ψ j, fun j b => if j = id then ψ.sub id b ∧ ∀ q, p ≠ some (b, q) else j ≠ d ∧ ψ.sub j b⟩
  generalize hs2 : (s.add id (.listo sz xs (some i0))).add d (.lent id sz ys) = s2
  have hlk : ∀ j, look s2.hp j = if d = j then some (.lent id sz ys) else if id = j then some (.listo sz xs (some i0)) else look s.hp j := by
    intro j; rw [← hs2, look_add, look_add]
  have o1 : ∀ {b}, Owns ψ2 d b → ∃ q, p = some (b, q) := by
    intro b hb
    rcases hb with ⟨q, hb⟩ | hb
    · exact ⟨q, by simpa [ψ2] using hb⟩
    · simp [ψ2, Ne.symm hne] at hb
  have o2 : ∀ {b}, Owns ψ2 id b ↔ (∃ k, ψ id = some (b, k)) ∨ (ψ.sub id b ∧ ∀ q, p ≠ some (b, q)) := by
    intro b; simp [Owns, ψ2, hne]
  have o3 : ∀ {j b}, j ≠ d → j ≠ id → (Owns ψ2 j b ↔ Owns ψ j b) := by
    intro j b hj1 hj2; simp [Owns, ψ2, hj1, hj2]
  have oid : ∀ {b}, Owns ψ2 id b → Owns ψ id b := by
    intro b hb
    rcases o2.1 hb with h | h
    · exact .inl h
    · exact .inr h.1
  have od : ∀ {b}, Owns ψ2 d b → Owns ψ id b := by
    intro b hb
    obtain ⟨q, hq⟩ := o1 hb
    exact .inr (hps b q hq)
  -- whose it was
  have back : ∀ {j o b}, look s2.hp j = some o → Owns ψ2 j b → ∃ j' o', look s.hp j' = some o' ∧ Owns ψ j' b ∧ (j' = if j = d then id else j) := by
    intro j o b hj hb
    rw [hlk] at hj
    by_cases e1 : d = j
    · subst e1; exact ⟨id, _, ho, od hb, by simp⟩
    · rw [if_neg e1] at hj
      by_cases e2 : id = j
      · subst e2; exact ⟨id, _, ho, oid hb, by simp [hne]⟩
      · rw [if_neg e2] at hj; exact ⟨j, o, hj, (o3 (Ne.symm e1) (Ne.symm e2)).1 hb, by simp [Ne.symm e1]⟩
  have held : ∀ b, Held ψ2 s2.hp b → Held ψ s.hp b := by
    rintro b ⟨j, o, hj, hb⟩
    obtain ⟨j', o', q1, q2, _⟩ := back hj hb
    exact ⟨j', o', q1, q2⟩
  have hI : ∀ b, b < w.heap.size → Im E ψ s.hp b → Im E ψ2 s2.hp b := fun b _ hi => ⟨hi.1, fun hh => hi.2 (held b hh)⟩
  have hkeep : Keeps ψ ψ2 s.hp s2.hp := by
    intro j o hj
    have hjd : j ≠ d := by rintro rfl; rw [hno] at hj; cases hj
    refine ⟨?_, by simp [ψ2, hjd]⟩
    by_cases e2 : id = j
    · subst e2
      rw [ho] at hj; cases hj
      exact ⟨_, by rw [hlk, if_neg (Ne.symm hjd), if_pos rfl], Ob.le_of rfl rfl (Nat.le_refl _)⟩
    · exact ⟨o, by rw [hlk, if_neg (Ne.symm hjd), if_neg e2]; exact hj, o.le_refl⟩
  have hψd : ψ2 d = p := by simp [ψ2]
  have hlkd : look s2.hp d = some (.lent id sz ys) := by rw [hlk, if_pos rfl]
  refine ⟨ψ2, { size := h.size, defers := h.defers.mono hI (fun _ _ _ => rfl), frame := fun t => ?_, obs := ?_, inj := ?_, own := ?_, subs := ?_, par := ?_, old := h.old, grow := h.grow, same := h.same }, ?_⟩
  · have : s2.get t = s.get t := by rw [← hs2]; rfl
    rw [this]
    exact (h.frame t).mono hI (fun _ _ _ => rfl) hkeep
  · intro j o hj
    rw [hlk] at hj
    by_cases e1 : d = j
    · subst e1
      rw [if_pos rfl] at hj; cases hj
      obtain ⟨hs0, ⟨q1, q2, q3⟩ | ⟨b', k', cap, ad, q1, q2, q3, q4, q5, q6, c, e, r1, r2, r3, r4⟩⟩ := hsub
      · exact ⟨hs0, .inl ⟨by rw [hψd]; exact q1, q2⟩⟩
      · exact ⟨hs0, .inr ⟨b', k', c, e, by rw [hψd]; exact q1, r1, r2, r3, fun i j x hx => (r4 i j x hx).mono hI (fun _ _ _ => rfl)⟩⟩
    · rw [if_neg e1] at hj
      by_cases e2 : id = j
      · subst e2
        rw [if_pos rfl] at hj; cases hj
        refine ⟨fun j hj => by cases hj; exact (List.getElem?_eq_some_iff.1 hg).1, b, k, c0, e0, pl, by simp [ψ2, hne]; exact h1, h2, h3, h4, fun i x hx hh => ?_, fun i x b' q hx hh hq => ?_, fun i x i' x' b' q q' hx hh hx' hh' hq hq' => ?_⟩
        · exact (h9 i x hx (by simp)).mono hI (fun _ _ _ => rfl) (fun _ _ _ => rfl)
        · have hne2 : i ≠ i0 := by rintro rfl; exact hh rfl
          simp only [ψ2, if_true]
          exact ⟨h10 i x b' q hx (by simp) hq, fun q' e => hne2 (h11 i x i0 ys b' q q' hx (by simp) hg (by simp) hq (hp.trans e))⟩
        · exact h11 i x i' x' b' q q' hx (by simp) hx' (by simp) hq hq'
      · rw [if_neg e2] at hj
        exact (h.obs j o hj).mono hI (fun _ _ _ => rfl) hkeep ⟨by simp [ψ2, Ne.symm e1], fun b hb => by simp only [ψ2, if_neg (Ne.symm e2)]; exact ⟨Ne.symm e1, hb⟩⟩ (fun _ _ => rfl)
  · intro i i' oi oi' b hi hi' hb hb'
    obtain ⟨j, oj, q1, q2, q3⟩ := back hi hb
    obtain ⟨j', oj', q1', q2', q3'⟩ := back hi' hb'
    have hjj := h.inj j j' oj oj' b q1 q1' q2 q2'
    have cross : ∀ {b}, Owns ψ2 d b → Owns ψ2 id b → False := by
      intro b h1 h2
      obtain ⟨q, hq⟩ := o1 h1
      rcases o2.1 h2 with ⟨k, h2⟩ | ⟨_, h2⟩
      · exact h.subs.not_main ho (hps b q hq) k h2
      · exact h2 q hq
    by_cases e1 : i = d
    · by_cases e2 : i' = d
      · rw [e1, e2]
      · rw [if_pos e1] at q3
        rw [if_neg e2] at q3'
        have : i' = id := by rw [← q3', ← hjj, q3]
        subst e1; subst this
        exact (cross hb hb').elim
    · by_cases e2 : i' = d
      · rw [if_neg e1] at q3
        rw [if_pos e2] at q3'
        have : i = id := by rw [← q3, hjj, q3']
        subst e2; subst this
        exact (cross hb' hb).elim
      · rw [if_neg e1] at q3
        rw [if_neg e2] at q3'
        rw [← q3, ← q3', hjj]
  · intro i oi b hi hb
    rw [hlk] at hi
    by_cases e1 : d = i
    · subst e1
      rw [if_pos rfl] at hi; cases hi
      have := h.own id _ b ho (od hb)
      exact this
    · rw [if_neg e1] at hi
      by_cases e2 : id = i
      · subst e2
        rw [if_pos rfl] at hi; cases hi
        have := h.own id _ b ho (oid hb)
        exact this
      · rw [if_neg e2] at hi
        exact h.own i oi b hi ((o3 (Ne.symm e1) (Ne.symm e2)).1 hb)
  · intro i oi b hi hb
    rw [hlk] at hi
    by_cases e1 : d = i
    · subst e1; simp [ψ2, Ne.symm hne] at hb
    · rw [if_neg e1] at hi
      by_cases e2 : id = i
      · subst e2
        rw [if_pos rfl] at hi; cases hi
        have hb : ψ.sub id b := by simp only [ψ2, if_true] at hb; exact hb.1
        obtain ⟨_, r2, r3⟩ := h.subs id _ b ho hb
        exact ⟨rfl, r2, fun k => by simp only [ψ2, if_neg hne]; exact r3 k⟩
      · rw [if_neg e2] at hi
        have hb : ψ.sub i b := by simp only [ψ2, if_neg (Ne.symm e2)] at hb; exact hb.2
        obtain ⟨r1, r2, r3⟩ := h.subs i oi b hi hb
        exact ⟨r1, r2, fun k => by simp only [ψ2, if_neg (Ne.symm e1)]; exact r3 k⟩
  · intro i hi
    have : i ≠ d := by have := E.big i hi; omega
    simp only [ψ2, if_neg this]
    exact h.par i hi
  · obtain ⟨hs0, ⟨q1, q2, q3⟩ | ⟨b', k', cap, ad, q1, q2, q3, q4, q5, q6, _⟩⟩ := hsub
    · subst q2; rw [q3]; exact .sl0 d sz _ 0 hlkd rfl (by rw [hψd]; exact q1)
    · rw [q2]
      exact .sl d sz 0 ys.length b' k' cap ad _ ys.length hlkd rfl (by omega) (by rw [hψd]; exact q1) (fun hc => by rw [q3 hc]; simp) q4 (by simpa using q5) q6
theorem SimAt.putInL (h : SimAt E n ψ s a w) {id d : Nat} (hd : d < 1000) (hne : d ≠ id) {sz : Nat} {xs : List (List (List IV))} {i0 : Nat}
    (ho : look s.hp id = some (.listo sz xs (some i0))) {ys : List (List IV)} {o : Ob} (hod : look s.hp d = some o) (hels : o.els = some (sz, ys)) (horg : o.org? = none ∨ o.org? = some id)
    {v : Value} (hv : RAV (Im E ψ s.hp) ψ s.hp w (.sl d sz 0 ys.length) v) {b : Nat} {k : Nat × Nat} {c c' : Array Value} {e : TypeId} (hb : ψ id = some (b, k)) (hh : w.heap[b]? = some (.cells c e (0, 0)))
    {w' : World} (hwb : ∀ i, i ≠ b → w'.heap[i]? = w.heap[i]?) (hsz : w'.heap.size = w.heap.size) (hsame : w'.os = w.os ∧ w'.tape = w.tape ∧ w'.output = w.output)
    (hwB : w'.heap[b]? = some (.cells c' e (0, 0))) (hcs : c'.size = c.size) (hc0 : c'.getD (k.1 + i0) undef = v) (hcn : ∀ i, i ≠ i0 → c'.getD (k.1 + i) undef = c.getD (k.1 + i) undef) :
    ∃ ψ2, SimAt E n ψ2 ((s.kill d).add id (.listo sz (xs.set i0 ys) none)) a w' := by
  obtain ⟨h0, b1, k1, c1, e1', pl, h1, h2, h3, h4, h9, h10, h11⟩ := h.obs id _ ho
  rw [h1] at hb; cases hb
  rw [h2] at hh; cases hh
  have hil := h0 i0 rfl
  have hsub := rsub_of hels hod (h.obs d o hod) hv
  have hmul : o.multi = false := els_multi hels
  let ψ2 : Pl := ⟨fun j => ψ j, fun j b => (j = id ∧ ∃ k, ψ d = some (b, k)) ∨ ψ.sub j b⟩
  generalize hs2 : (s.kill d).add id (.listo sz (xs.set i0 ys) none) = s2
  have hlk : ∀ j, look s2.hp j = if id = j then some (.listo sz (xs.set i0 ys) none) else if j = d then none else (look s.hp j).map (Ob.mapc (AV.kc (· == d))) := by
    intro j; rw [← hs2, look_add, look_kill]
  have oid : ∀ {b}, Owns ψ2 id b ↔ Owns ψ id b ∨ ∃ k, ψ d = some (b, k) := by
    intro b
    simp only [Owns, ψ2, true_and]
    constructor
    · rintro (h | h | h)
      · exact .inl (.inl h)
      · exact .inr h
      · exact .inl (.inr h)
    · rintro ((h | h) | h)
      · exact .inl h
      · exact .inr (.inr h)
      · exact .inr (.inl h)
  have o3 : ∀ {j b}, j ≠ id → (Owns ψ2 j b ↔ Owns ψ j b) := by
    intro j b hj; simp [Owns, ψ2, hj]
  have back : ∀ {j o2 b}, look s2.hp j = some o2 → Owns ψ2 j b → j ≠ d ∧ ((∃ o', look s.hp j = some o' ∧ Owns ψ j b) ∨ (j = id ∧ Owns ψ d b)) := by
    intro j o2 b hj hb
    rw [hlk] at hj
    by_cases e1 : id = j
    · subst e1
      refine ⟨Ne.symm hne, ?_⟩
      rcases oid.1 hb with hb | ⟨k, hb⟩
      · exact .inl ⟨_, ho, hb⟩
      · exact .inr ⟨rfl, .inl ⟨k, hb⟩⟩
    · rw [if_neg e1] at hj
      split at hj
      · cases hj
      · rename_i hjd
        cases hl : look s.hp j with
        | none => rw [hl] at hj; cases hj
        | some o' => exact ⟨hjd, .inl ⟨o', rfl, (o3 (Ne.symm e1)).1 hb⟩⟩
  have held : ∀ b, Held ψ2 s2.hp b → Held ψ s.hp b := by
    rintro b ⟨j, o2, hj, hb⟩
    obtain ⟨_, ⟨o', q1, q2⟩ | ⟨_, q2⟩⟩ := back hj hb
    · exact ⟨j, o', q1, q2⟩
    · exact ⟨d, o, hod, q2⟩
  have hB : Held ψ s.hp b := ⟨id, _, ho, .inl ⟨_, h1⟩⟩
  have hI : ∀ i, i < w.heap.size → Im E ψ s.hp i → Im E ψ2 s2.hp i := fun i _ hi => ⟨hi.1, fun hh => hi.2 (held i hh)⟩
  have hw' : ∀ i, i < w.heap.size → Im E ψ s.hp i → w'.heap[i]? = w.heap[i]? := fun i _ hi => hwb i (fun e => hi.2 (e ▸ hB))
  have hk : KeepsBut (· == d) ψ ψ2 s.hp s2.hp := by
    intro j oj hj hoj
    have hjd : j ≠ d := by simpa using hj
    refine ⟨?_, rfl⟩
    by_cases e1 : id = j
    · subst e1
      rw [ho] at hoj; cases hoj
      exact ⟨_, by rw [hlk, if_pos rfl], Ob.le_of rfl rfl (by simp)⟩
    · exact ⟨_, by rw [hlk, if_neg e1, if_neg hjd, hoj]; rfl, Ob.le_mapc _ oj⟩
  have hf := turns_kc (p := (· == d)) hI hw' hk
  -- the place of the new one is none of the others'
  have hpd : ∀ i x b' q q', xs[i]? = some x → i ≠ i0 → pl i = some (b', q) → ψ d = some (b', q') → False := by
    intro i x b' q q' hx hi hq hq'
    exact hne (h.inj d id o _ b' hod ho (.inl ⟨q', hq'⟩) (.inr (h10 i x b' q hx (by simp [Ne.symm hi]) hq)))
  classical
  refine ⟨ψ2, { size := h.size, defers := h.defers.mono hI hw', frame := fun t => ?_, obs := ?_, inj := ?_, own := ?_, subs := ?_, par := h.par, old := ?_, grow := ?_, same := ⟨hsame.1.trans h.same.1, hsame.2.1.trans h.same.2.1, hsame.2.2.trans h.same.2.2⟩ }⟩
  · have e : s2.get t = (s.get t).mapc (AV.kc (· == d)) := by rw [← hs2]; exact St.get_mapc _ rfl t
    rw [e]
    exact (h.frame t).mapc hf (fun _ => rfl) (fun _ => rfl)
  · intro j oj hj
    rw [hlk] at hj
    by_cases e1 : id = j
    · subst e1
      rw [if_pos rfl] at hj; cases hj
      have hgk : ∀ i x, i ≠ i0 → (xs.set i0 ys)[i]? = some x → xs[i]? = some x := fun i x hi hx => by rw [List.getElem?_set] at hx; rw [if_neg (Ne.symm hi)] at hx; exact hx
      have hg0 : ∀ x, (xs.set i0 ys)[i0]? = some x → x = ys := fun x hx => by rw [List.getElem?_set, if_pos rfl, if_pos hil] at hx; exact (Option.some.inj hx).symm
      have hne3 : ∀ i, i ≠ i0 → (some i0 : Option Nat) ≠ some i := fun i hi e => hi (Option.some.inj e).symm
      refine ⟨(fun j hj => by cases hj), b, k, c', e, (fun i => if i = i0 then ψ d else pl i), h1, hwB, by rw [hcs]; exact h3, by rw [List.length_set]; exact h4, fun i x hx _ => ?_, fun i x b' q hx _ hq => ?_, fun i x i' x' b' q q' hx _ hx' _ hq hq' => ?_⟩
      · by_cases hi : i = i0
        · subst hi
          rw [hg0 x hx]
          simp only [if_true]
          rw [hc0]
          exact hsub.mono hI hw' fun b' q hq => hwb b' (by
            rintro rfl
            exact hne (h.inj d id o _ b' hod ho (.inl ⟨q, hq⟩) (.inl ⟨_, h1⟩)))
        · simp only [if_neg hi]
          rw [hcn i hi]
          exact (h9 i x (hgk i x hi hx) (hne3 i hi)).mono hI hw' fun b' q hq => hwb b' (by
            rintro rfl
            exact h.subs.not_main ho (h10 i x b' q (hgk i x hi hx) (hne3 i hi) hq) _ h1)
      · by_cases hi : i = i0
        · simp only [if_pos hi] at hq; exact .inl ⟨rfl, q, hq⟩
        · simp only [if_neg hi] at hq; exact .inr (h10 i x b' q (hgk i x hi hx) (hne3 i hi) hq)
      · by_cases hi : i = i0 <;> by_cases hi' : i' = i0
        · rw [hi, hi']
        · simp only [if_pos hi] at hq; simp only [if_neg hi'] at hq'
          exact (hpd i' x' b' q' q (hgk i' x' hi' hx') hi' hq' hq).elim
        · simp only [if_neg hi] at hq; simp only [if_pos hi'] at hq'
          exact (hpd i x b' q q' (hgk i x hi hx) hi hq hq').elim
        · simp only [if_neg hi] at hq; simp only [if_neg hi'] at hq'
          exact h11 i x i' x' b' q q' (hgk i x hi hx) (hne3 i hi) (hgk i' x' hi' hx') (hne3 i' hi') hq hq'
    · rw [if_neg e1] at hj
      split at hj
      · cases hj
      · rename_i hjd
        cases hl : look s.hp j with
        | none => rw [hl] at hj; cases hj
        | some o1 =>
          rw [hl] at hj
          simp only [Option.map_some, Option.some.injEq] at hj
          subst hj
          have hblk : ∀ i, Owns ψ j i → w'.heap[i]? = w.heap[i]? := fun i hi => hwb i (by
            rintro rfl
            exact e1 (h.inj id j _ o1 i ho hl (.inl ⟨_, h1⟩) hi))
          cases o1 with
          | box cs =>
            obtain ⟨b2, c, e, g1, g2, g3, g4⟩ := h.obs j _ hl
            refine ⟨b2, c, e, g1, by rw [hblk b2 (.inl ⟨_, g1⟩)]; exact g2, by simpa using g3, fun i x hx => ?_⟩
            rw [List.getElem?_map] at hx
            cases hci : cs[i]? with
            | none => rw [hci] at hx; cases hx
            | some c0 =>
              rw [hci] at hx; cases hx
              have h6 := g4 i c0 hci
              cases c0 with
              | agg l => exact .junk _
              | tup l => exact .junk _
              | _ => exact hf _ _ h6 (by simp) (by simp)
          | gh Z vs cs =>
            obtain ⟨g1, g2, g3, g4⟩ := h.obs j _ hl
            refine ⟨g1, g2.mono hI (fun b hb => .inr hb) hw' (fun b hb => hblk b (.inr hb)), by simpa using g3, fun i x hx => ?_⟩
            rw [List.getElem?_map] at hx
            cases hci : cs[i]? with
            | none => rw [hci] at hx; cases hx
            | some c0 => rw [hci] at hx; cases hx; exact (g4 i c0 hci).mapc hf (fun _ => rfl) (fun _ => rfl)
          | _ => exact (h.obs j _ hl).move (by constructor <;> (intros; intro e; cases e)) hI hw' ⟨rfl, fun b hb => .inr hb⟩ hblk
  · intro i i' oi oi' x hi hi' hx hx'
    obtain ⟨n1, q⟩ := back hi hx
    obtain ⟨n2, q'⟩ := back hi' hx'
    rcases q with ⟨u, q1, q2⟩ | ⟨q1, q2⟩ <;> rcases q' with ⟨u', q1', q2'⟩ | ⟨q1', q2'⟩
    · exact h.inj i i' u u' x q1 q1' q2 q2'
    · exact absurd (h.inj i d u o x q1 hod q2 q2') n1
    · exact absurd (h.inj i' d u' o x q1' hod q2' q2) n2
    · rw [q1, q1']
  · intro i oi x hi hx
    rw [hlk] at hi
    by_cases e1 : id = i
    · subst e1
      rw [if_pos rfl] at hi; cases hi
      rcases oid.1 hx with hx | ⟨k, hx⟩
      · have := h.own id _ x ho hx
        exact this
      · rcases h.own d o x hod (.inl ⟨k, hx⟩) with ⟨q1, q2⟩ | q1
        · left
          have e : o.org d = id := by
            cases o with
            | lent org z ys =>
              rcases horg with h | h
              · cases h
              · simp only [Ob.org?, Option.some.injEq] at h; exact h
            | list z ys =>
              have := E.big d q1
              omega
            | _ => cases hels
          rw [e] at q1 q2
          exact ⟨q1, q2⟩
        · exact .inr q1
    · rw [if_neg e1] at hi
      split at hi
      · cases hi
      · cases hl : look s.hp i with
        | none => rw [hl] at hi; cases hi
        | some o1 =>
          rw [hl] at hi
          simp only [Option.map_some, Option.some.injEq] at hi
          subst hi
          rw [Ob.org_mapc]
          exact h.own i o1 x hl ((o3 (Ne.symm e1)).1 hx)
  · intro i oi x hi hx
    rw [hlk] at hi
    rw [hsz]
    by_cases e1 : id = i
    · subst e1
      rw [if_pos rfl] at hi; cases hi
      rcases hx with ⟨_, k, hx⟩ | hx
      · refine ⟨rfl, (h.obs d o hod).lt hx, fun k' e => ?_⟩
        exact hne (h.inj d id o _ x hod ho (.inl ⟨k, hx⟩) (.inl ⟨k', e⟩))
      · obtain ⟨_, q2, q3⟩ := h.subs id _ x ho hx
        exact ⟨rfl, q2, q3⟩
    · rw [if_neg e1] at hi
      split at hi
      · cases hi
      · cases hl : look s.hp i with
        | none => rw [hl] at hi; cases hi
        | some o1 =>
          rw [hl] at hi
          simp only [Option.map_some, Option.some.injEq] at hi
          subst hi
          rw [Ob.multi_mapc]
          have hx : ψ.sub i x := by
            rcases hx with ⟨h, _⟩ | h
            · exact absurd h.symm e1
            · exact h
          exact h.subs i o1 x hl hx
  · intro i hi hm
    rw [hwb i ?_]
    · exact h.old i hi hm
    · rintro rfl
      rcases h.own id _ i ho (.inl ⟨_, h1⟩) with ⟨q1, q2⟩ | q1
      · exact hm (.inl ⟨_, q1, q2⟩)
      · exact E.no hi hm q1
  · rw [hsz]; exact h.grow
theorem ldL {t : TypeId} {x : Operand} (hc : comp P ⟨dst, .load t x, ty, pos, af, g⟩ = some r) (hd : d < 1000) (h : SimAt E n ψ s a w) (hk : stp P d s K r)
    {id sz i off z : Nat} {xs : List (List (List IV))} {hole : Option Nat} (hx : s.ev x = .ep id sz i off) (ho : look s.hp id = some (.listo z xs hole)) :
    ∃ v, (∀ u, Ext w u → (Instr.loadAt t (a.eval x)).run P u = .ok v u) ∧ ∃ ψ' s' av, SimAt E n ψ' s' a w ∧ K s' av ∧ RAV (Im E ψ' s'.hp) ψ' s'.hp w av v := by
  simp only [comp] at hc
  cases hu : P.underlying t with
  | none => rw [hu] at hc; cases hc
  | some dd =>
    simp only [hu, Option.bind_eq_bind, Option.bind_some] at hc
    by_cases hg : isAggT P t = true
    · rw [if_pos hg] at hc
      cases hi : infoSize P t with
      | none => rw [hi] at hc; cases hc
      | some k =>
        rw [hi] at hc
        simp only [Option.map_some, Option.some.injEq] at hc
        subst hc
        simp only [stp, hx, ho] at hk
    · have hg : isAggT P t = false := by simpa using hg
      simp only [hg, Bool.false_eq_true, if_false] at hc
      have hc : Rhs.ld x none = r := by simpa using hc
      subst hc
      simp only [stp, hx, ho] at hk
      obtain ⟨rfl, rfl, hid, he, hl, hk⟩ := hk
      split at hk
      · rename_i ys hys
        have hf := h.drop (id := d) hd
        have hno := look_drop s d
        generalize s.drop d = s1 at hk hf hno he hl
        have hx1 := hf.ev x
        rw [he] at hx1
        obtain ⟨b, k, o, m, q1, q2, q3, q4, q5⟩ := inv_ep hx1
        obtain ⟨c, e, p1, p2, ψ2, p3, p4⟩ := hf.takeOutL hd hno hl hys q4
        refine ⟨_, fun u hu2 => ?_, ψ2, _, _, p3, hk, p4⟩
        rw [q5]
        have e3 : k.1 + (i * 1 + 0) = k.1 + i := by omega
        rw [e3]
        exact run_load1 u hu hg (hu2.cell (cell_getD p1 p2))
      · exact hk.elim
theorem ld_any {t : TypeId} {x : Operand} (hc : comp P ⟨dst, .load t x, ty, pos, af, g⟩ = some r) (hd : d < 1000) (h : SimAt E n ψ s a w) (hk : stp P d s K r) :
    ∃ v, (∀ u, Ext w u → (Instr.loadAt t (a.eval x)).run P u = .ok v u) ∧ ∃ ψ' s' av, SimAt E n ψ' s' a w ∧ K s' av ∧ RAV (Im E ψ' s'.hp) ψ' s'.hp w av v := by
  by_cases hex : ∃ id sz i off z xs hole, s.ev x = .ep id sz i off ∧ look s.hp id = some (.listo z xs hole)
  · obtain ⟨id, sz, i, off, z, xs, hole, hx, ho⟩ := hex
    exact ldL hc hd h hk hx ho
  · obtain ⟨v, av, h1, h2, h3⟩ := ld_val hc h hk fun id sz i off z xs hole hx ho => hex ⟨id, sz, i, off, z, xs, hole, hx, ho⟩
    exact ⟨v, h1, ψ, s, av, h, h2, h3⟩
theorem sound_ld {t : TypeId} {x : Operand} (hc : comp P ⟨dst, .load t x, ty, pos, af, g⟩ = some r) (hd : d < 1000) (h : SimAt E n ψ s a w) (hk : stp P d s K r) : Does P E n ⟨dst, .load t x, ty, pos, af, g⟩ a w K := by
  obtain ⟨v, h1, ψ', s', av, h2, h3, h4⟩ := ld_any hc hd h hk
  refine does_run (v := v) ?_ h3 h2 h4
  simp only [execOp, Sem.run_bind, h1 w (Ext.refl w), Result.andThen_ok, Sem.run_pure]
theorem ld_all {t : TypeId} {x : Operand} (hc : comp P ⟨dst, .load t x, ty, pos, af, g⟩ = some r) (hd : d < 1000) (h : SimAt E n ψ s a w) (hk : stp P d s K r) :
    ∃ v, ∀ u, Ext w u → (execOp a.eval ⟨dst, .load t x, ty, pos, af, g⟩).run P u = .ok (.value v) u := by
  obtain ⟨v, h1, _⟩ := ld_any hc hd h hk
  refine ⟨v, fun u hu => ?_⟩
  simp only [execOp, Sem.run_bind, h1 u hu, Result.andThen_ok, Sem.run_pure]
theorem sound_st {t : TypeId} {x y : Operand} {q : Nat} (hq : infoSize P t = some q) (h : SimAt E n ψ s a w) (hk : stp P d s K (.st x y q)) :
    Does P E n ⟨dst, .store t x y, ty, pos, af, g⟩ a w K := by
  by_cases hex : ∃ id sz i off z xs hole, s.ev x = .ep id sz i off ∧ look (s.frz [s.ev y]).hp id = some (.listo z xs hole)
  · obtain ⟨id, sz, i, off, z, xs, hole, hx, ho⟩ := hex
    simp only [stp, hx, ho] at hk
    split at hk
    · rename_i d' sz' len hye
      split at hk
      · rename_i o hod
        split at hk
        · rename_i z0 ys hels
          obtain ⟨hl, ⟨rfl, rfl⟩, rfl, hd', hne, rfl, horg, rfl, hk⟩ := hk
          have hx1 := h.ev x
          rw [hx] at hx1
          obtain ⟨b, k, o1, m, q1, q2, q3, q4, q5⟩ := inv_ep hx1
          rw [hl] at q1; cases q1
          simp only [Ob.dim, Option.some.injEq, Prod.mk.injEq] at q2
          obtain ⟨rfl, rfl⟩ := q2
          have hy1 := h.ev y
          rw [hye] at hy1
          have hels' : o.els = some (sz', ys) := by
            obtain ⟨o2, m2, r1, r2, _⟩ := inv_sl hy1
            rw [hod] at r1; cases r1
            have := els_dim hels
            rw [r2] at this
            simp only [Option.some.injEq, Prod.mk.injEq] at this
            rw [hels, this.1]
          obtain ⟨h0, b1, k1, c, e, pl, h1, h2, h3, h4, h9, h10, h11⟩ := h.obs id _ hl
          rw [h1] at q4; cases q4
          have hcells : (a.eval y).cells.toList = [a.eval y] ∧ (a.eval y).oneCell' = true := by
            have : ∀ L v, RAV (Im E ψ s.hp) ψ s.hp w (.sl d' sz' 0 L) v → v.cells.toList = [v] ∧ v.oneCell' = true := by
              intro L v hv; cases hv <;> exact ⟨rfl, rfl⟩
            exact this _ _ hy1
          have e3 : k.1 + (i * 1 + 0) = k.1 + i := by omega
          rw [e3] at q5
          obtain ⟨w', r1, r2, r3, r4, r5⟩ := run_storeCells (P := P) b (k.1 + i) (a.eval y).cells.toList 0 w c e h2 (by rw [hcells.1]; intro v hv; simp only [List.mem_singleton] at hv; subst hv; exact hcells.2) (by rw [hcells.1]; simp; omega)
          have hrun := run_store_op (dst := dst) (ty := ty) (pos := pos) (af := af) (g := g) hq q5 (by rw [← Array.length_toList, hcells.1]; rfl) r1
          obtain ⟨ψ2, hsim⟩ := h.putInL (c' := putA c (k.1 + i) (a.eval y).cells.toList) hd' hne hl hod hels' horg hy1 h1 h2 r2 r3 r4 r5 (putA_size _ _ _) (by rw [putA_getD _ _ _ _ (by omega), if_pos ⟨Nat.le_refl _, by rw [hcells.1]; simp⟩, hcells.1]; simp)
            (fun j hj => by
              by_cases hjs : k.1 + j < c.size
              · rw [putA_getD _ _ _ _ hjs, if_neg (by rw [hcells.1]; simp; omega)]
              · rw [Array.getD_eq_getD_getElem?, Array.getD_eq_getD_getElem?, Array.getElem?_eq_none (by rw [putA_size]; omega), Array.getElem?_eq_none (by omega)])
          exact does_skip hrun hk hsim
        · exact hk.elim
      · exact hk.elim
    · exact hk.elim
  · exact sound_st0 hq h hk fun id sz i off z xs hole hx ho => hex ⟨id, sz, i, off, z, xs, hole, hx, ho⟩
end
end Go.Vm
end

/- One list copied into another one. -/
section
namespace Go.Vm
section
variable {P : Program} {E : En} {n : Nat} {ψ : Pl} {s : St} {a : Act} {w : World}
variable {dst : Option Nat} {ty : TypeId} {pos : String} {af : Array Edge} {g : Option (Nat × Bool)}
variable {d : Nat} {K : St → AV → Prop}
theorem run_call_copy {x y : Operand} {ts : Array TypeId} {v : Value} {w' : World} (hv : (Builtin.copy_ ts ty #[a.eval x, a.eval y]).run P w = .ok v w') :
    (execOp a.eval ⟨dst, .call ⟨.builtin .copy, #[x, y], ts⟩, ty, pos, af, g⟩).run P w = .ok (.value v) w' := by
  simp only [execOp, resolve, Sem.run_bind, Sem.run_pure, Result.andThen_ok, invoke, builtin]
  simp [hv]
theorem copy_in {ts : Array TypeId} {t e : TypeId} {sz m cap ny capy : Nat} {ad : Addr} {ady : Option Addr} {vs : List Value} {w' : World} (h0 : ts[0]? = some t) (hu : P.underlying t = some (.slice e)) (hsz : infoSize P e = some sz) (hm : ny = m)
    (h1 : (Builtin.firstCells sz ny (.slice ady ny capy)).run P w = .ok vs.toArray w) (h2 : (storeCells ad vs).run P w = .ok () w') :
    (Builtin.copy_ ts ty #[.slice (some ad) m cap, .slice ady ny capy]).run P w = .ok (.int .i64 m) w' := by
  subst hm
  simp only [Builtin.copy_, h0, List.getElem?_toArray, List.getElem?_cons_zero, List.getElem?_cons_succ, Sem.run_bind, run_underlying w hu, run_sizeOf w hsz, Result.andThen_ok, Builtin.lenOf, Sem.run_pure, Nat.min_self, h1, h2]
  rfl
theorem sound_cpy {x y : Operand} {t e : TypeId} {ts : Array TypeId} {sz : Nat} (h0 : ts[0]? = some t) (hu : P.underlying t = some (.slice e)) (hsz : infoSize P e = some sz) (h : SimAt E n ψ s a w) (hk : stp P d s K (.cpy sz x y)) :
    Does P E n ⟨dst, .call ⟨.builtin .copy, #[x, y], ts⟩, ty, pos, af, g⟩ a w K := by
  have hx := h.ev x
  have hy := h.ev y
  simp only [stp] at hk
  generalize hax : s.ev x = ax at hx hk
  split at hk
  · rename_i id sq lo m sz2 ys he
    split at hk
    · rename_i sz3 xs ho
      obtain ⟨⟨hxs, rfl⟩, ⟨hz1, hz2, hz3⟩, rfl, hyl, hk⟩ := hk
      subst hz1 hz2 hz3
      obtain ⟨o', xm, q1, q1', q2, hcase⟩ := inv_sl hx
      rw [ho] at q1; cases q1
      have hpos := List.length_pos_iff.2 hxs
      rcases hcase with ⟨p1, _, p3, _⟩ | ⟨b, k, cap, ad, p1, p2, p3, p4, hvx⟩
      · omega
      · obtain ⟨hs0, hob⟩ := h.obs id _ ho
        rcases hob with ⟨h1', _⟩ | ⟨b', k', c, e', g1, g2, g3, g3', g4⟩
        · rw [h1'] at p1; cases p1
        rw [g1] at p1; cases p1
        obtain ⟨vs, y1, y2, y3, y4, y5, ady, cy, hvy⟩ := elems_read h hy he (.inl rfl)
        obtain ⟨w', r1, r2, r3, r4, r5⟩ := run_storeCells (P := P) b k.1 vs 0 w c e' g2 y5 (by rw [y1, hyl]; omega)
        have p2 := p2 (by omega)
        rw [Nat.zero_mul, Nat.add_zero] at p2
        subst p2
        have hr := copy_in (P := P) (ty := ty) (w := w) (cap := cap) (capy := cy) (ady := ady) h0 hu hsz hyl (by rw [← hvy]; exact y2 w rfl) r1
        have h2 := h.chg (o' := .list sz2 ys) ho (Ob.le_of rfl rfl (by omega)) rfl (fun h => h) g1 r2 r3 r4 fun _ hm => by
          refine ⟨y3, .inr ⟨b, k, _, e', g1, r5, ?_, by rw [hyl]; exact g3', fun i j x hx => ?_⟩⟩
          · rw [show (vs.zipIdx 0).foldl (fun cs (x, j) => cs.setIfInBounds (k.1 + j) x) c = putA c k.1 vs from rfl, putA_size]; exact g3
          · have hb := at2_bound y3 hx
            rw [show (vs.zipIdx 0).foldl (fun cs (x, j) => cs.setIfInBounds (k.1 + j) x) c = putA c k.1 vs from rfl, putA_getD _ _ _ _ (by rw [hyl] at hb; omega), if_pos (by omega)]
            have := hm _ _ (y4 i j x hx)
            rw [show k.1 + (i * sz2 + j) - k.1 = i * sz2 + j from by omega]
            exact this
        exact does_run (run_call_copy (by rw [hvx, hvy]; exact hr)) hk h2 (rav_v rfl)
    · exact hk.elim
  · exact hk.elim
end
end Go.Vm
end

/- Each operation of the model that the abstract machine knows does what it does there. -/
section
namespace Go.Vm
section
variable {P : Program} {E : En} {n : Nat} {ψ : Pl} {s : St} {a : Act} {w : World}
variable {d : Nat} {K : St → AV → Prop} {r : Rhs}
theorem bind_some {α β : Type} {x : Option α} {f : α → Option β} {y : β} (h : (x >>= f) = some y) : ∃ z, x = some z ∧ f z = some y := by
  cases x with
  | none => cases h
  | some z => exact ⟨z, rfl, h⟩
theorem map_some' {α β : Type} {x : Option α} {f : α → β} {y : β} (h : x.map f = some y) : ∃ z, x = some z ∧ f z = y := by
  cases x with
  | none => cases h
  | some z => exact ⟨z, rfl, by simpa using h⟩
theorem arr1 {α : Type} {xs : Array α} {x : α} (h : xs.toList = [x]) : xs = #[x] := by apply Array.ext'; simpa using h
theorem arr2 {α : Type} {xs : Array α} {x y : α} (h : xs.toList = [x, y]) : xs = #[x, y] := by apply Array.ext'; simpa using h
theorem stp_sound {o : Oper} (hc : comp P o = some r) (hd : d < 1000) (h : SimAt E n ψ s a w) (hk : stp P d s K r) : Does P E n o a w K := by
  obtain ⟨dst, op, ty, pos, af, g⟩ := o
  have hc0 := hc
  unfold comp at hc
  split at hc
  · rename_i x heq; cases heq
    split at hc
    · simp only [Option.some.injEq] at hc; subst hc; exact sound_nils (.inl rfl) hd h hk
    · simp only [Option.some.injEq] at hc; subst hc; exact (sound_mov (.inl rfl) h hk).does
  · rename_i x heq; cases heq
    split at hc
    · simp only [Option.some.injEq] at hc; subst hc; exact sound_nils (.inr rfl) hd h hk
    · simp only [Option.some.injEq] at hc; subst hc; exact (sound_mov (.inr rfl) h hk).does
  · rename_i heq; cases heq; exact (sound_pick hc0 h hk).does
  · rename_i heq; cases heq
    obtain ⟨z, hz, rfl⟩ := map_some' hc
    exact sound_alloc hz hd h hk
  · rename_i heq; cases heq
    simp only [Option.some.injEq] at hc; subst hc; exact sound_box hd h hk
  · rename_i t parts heq; cases heq
    split at hc
    · rename_i fs hu
      split at hc
      · rename_i hall
        obtain ⟨z, hz, hc⟩ := bind_some hc
        obtain ⟨l, hl, hc⟩ := bind_some hc
        simp only [Option.pure_def, Option.some.injEq] at hc
        subst hc
        exact (sound_build hu hz (fun f hf => by simpa using (Array.all_eq_true'.1 hall) f hf) hl h hk).does
      · cases hc
    · cases hc
  · rename_i t len parts heq; cases heq
    split at hc
    · rename_i e hu
      obtain ⟨sz, hsz, hc⟩ := bind_some hc
      split at hc
      · rename_i hp
        obtain ⟨z, hz, hc⟩ := bind_some hc
        simp only [Option.pure_def, Option.some.injEq] at hc
        subst hc
        exact sound_lit hu hsz hp.1 hp.2.1 hp.2.2.1 hp.2.2.2 hz hd h hk
      · cases hc
    · cases hc
  · rename_i heq; cases heq; exact sound_ld hc0 hd h hk
  · rename_i heq; cases heq
    obtain ⟨q, hq, rfl⟩ := map_some' hc
    exact sound_st hq h hk
  · rename_i heq; cases heq; exact (sound_chk hc0 h hk).does
  · rename_i op xt x y yt heq; cases heq
    split at hc
    · simp only [Option.some.injEq] at hc; subst hc; exact (sound_bin h hk).does
    · simp only [Option.some.injEq] at hc; subst hc; exact (sound_bin h hk).does
    · rename_i hu
      split at hc
      · simp only [Option.some.injEq] at hc; subst hc; exact (sound_beq hu rfl h hk).does
      · simp only [Option.some.injEq] at hc; subst hc; exact (sound_beq hu rfl h hk).does
      · cases hc
    · rename_i hu
      split at hc
      · simp only [Option.some.injEq] at hc; subst hc; exact (sound_peq hu rfl h hk).does
      · simp only [Option.some.injEq] at hc; subst hc; exact (sound_peq hu rfl h hk).does
      · cases hc
    · rename_i hu
      split at hc
      · simp only [Option.some.injEq] at hc; subst hc; exact (sound_snil hu rfl h hk).does
      · simp only [Option.some.injEq] at hc; subst hc; exact (sound_snil hu rfl h hk).does
      · cases hc
    · rename_i hu
      split at hc
      · rename_i hg
        cases hks : plainK P 20 xt with
        | none => rw [hks] at hc; cases hc
        | some ks =>
          rw [hks] at hc
          simp only [Option.bind_some] at hc
          split at hc
          · cases hc
          · rename_i hi
            have hi : infoSize P xt = some ks.length := by simpa using hi
            split at hc
            · simp only [Option.some.injEq] at hc; subst hc; exact (sound_eqs hu hg hks rfl h hk hi).does
            · simp only [Option.some.injEq] at hc; subst hc; exact (sound_eqs hu hg hks rfl h hk hi).does
            · cases hc
      · cases hc
    · cases hc
  · rename_i heq; cases heq
    simp only [Option.some.injEq] at hc; subst hc; exact (sound_un h hk).does
  · rename_i heq; cases heq
    split at hc
    · rename_i h1 h2
      simp only [Option.some.injEq] at hc; subst hc; exact (sound_cvt h1 h2 h hk).does
    · cases hc
  · rename_i heq; cases heq
    simp only [Option.some.injEq] at hc; subst hc; exact (sound_mkfn h hk).does
  · -- makeMap
    rename_i heq; cases heq
    split at hc
    · rename_i k e hu
      obtain ⟨q, hq, rfl⟩ := map_some' hc
      exact sound_mkmap (k := k) (e := e) hd h hk
    · cases hc
  · -- makeSlice
    rename_i heq; cases heq
    split at hc
    · rename_i hu
      obtain ⟨i, hi, hc⟩ := bind_some hc
      obtain ⟨z, hz, hc⟩ := bind_some hc
      split at hc
      · rename_i hp
        simp only [Option.pure_def, Option.some.injEq] at hc; subst hc
        exact sound_mks hu hi hz hp.1 hp.2 hd h hk
      · cases hc
    · cases hc
  · rename_i heq; cases heq
    split at hc
    · rename_i hu
      obtain ⟨sz, hsz, rfl⟩ := map_some' hc
      exact (sound_cut hu hsz h hk).does
    · cases hc
  · rename_i heq; cases heq
    split at hc
    · rename_i hu
      obtain ⟨f, hf, hc⟩ := bind_some hc
      obtain ⟨q, hq, hc⟩ := bind_some hc
      split at hc
      · cases hc
      · rename_i hq0
        simp only [Option.pure_def, Option.some.injEq] at hc
        subst hc
        exact (sound_fa hu hf hq hq0 h hk).does
    · cases hc
  · rename_i heq; cases heq
    split at hc
    · rename_i hu
      obtain ⟨f, hf, hc⟩ := bind_some hc
      obtain ⟨q, hq, hc⟩ := bind_some hc
      obtain ⟨dd, hdd, hc⟩ := bind_some hc
      simp only [Option.pure_def, Option.some.injEq] at hc
      subst hc
      exact (sound_fld hu hf hq hdd h hk).does
    · cases hc
  · rename_i heq; cases heq
    split at hc
    · rename_i hu
      obtain ⟨sz, hsz, rfl⟩ := map_some' hc
      exact (sound_ia hu hsz h hk).does
    · cases hc
  · rename_i heq; cases heq
    split at hc
    · rename_i hu
      simp only [Option.some.injEq] at hc; subst hc; exact (sound_is hu h hk).does
    · cases hc
  · -- lookup
    rename_i heq; cases heq
    split at hc
    · rename_i hu
      obtain ⟨sk, hsk, hc⟩ := bind_some hc
      obtain ⟨z, hz, hc⟩ := bind_some hc
      split at hc
      · rename_i hza
        simp only [Option.pure_def, Option.some.injEq] at hc; subst hc
        exact sound_lkp hu hsk hz hza hd h hk
      · cases hc
    · cases hc
  · -- mapEntry
    rename_i heq; cases heq
    split at hc
    · rename_i hu
      obtain ⟨sk, hsk, hc⟩ := bind_some hc
      obtain ⟨z, hz, hc⟩ := bind_some hc
      split at hc
      · rename_i hza
        simp only [Option.pure_def, Option.some.injEq] at hc; subst hc
        exact sound_ment hu hsk hz hza h hk
      · cases hc
    · cases hc
  · rename_i heq; cases heq
    simp only [Option.some.injEq] at hc; subst hc; exact sound_est h hk
  · rename_i heq; cases heq
    split at hc
    · rename_i hu
      obtain ⟨q, hq, rfl⟩ := map_some' hc; exact sound_rng hu hd h hk
    · cases hc
  · rename_i heq; cases heq
    simp only [Option.some.injEq] at hc; subst hc; exact sound_nxt h hk
  · rename_i heq; cases heq
    simp only [Option.some.injEq] at hc; subst hc; exact sound_ent h hk
  · rename_i heq; cases heq
    split at hc
    · rename_i hu
      obtain ⟨q, hq, rfl⟩ := map_some' hc; exact sound_mset hu hq h hk (.inl rfl)
    · cases hc
  · rename_i heq; cases heq
    split at hc
    · rename_i hu
      obtain ⟨q, hq, rfl⟩ := map_some' hc; exact sound_mset hu hq h hk (.inr rfl)
    · cases hc
  · rename_i heq; cases heq
    simp only [Option.some.injEq] at hc; subst hc; exact (sound_ext h hk).does
  · rename_i c heq; cases heq
    obtain ⟨cl, args, ts⟩ := c
    simp only at hc
    split at hc
    · split at hc
      · rename_i hf
        simp only [Option.some.injEq] at hc; subst hc; exact sound_call hf hd h hk
      · cases hc
    · simp only [Option.some.injEq] at hc; subst hc; exact sound_callv hd h hk
    · split at hc
      · rename_i x t h1 h2
        have e1 := arr1 h1
        have e2 := arr1 h2
        subst e1; subst e2
        split at hc
        · rename_i hu; simp only [Option.some.injEq] at hc; subst hc; exact (sound_len rfl hu h hk).does
        · rename_i hu; simp only [Option.some.injEq] at hc; subst hc; exact (sound_lens rfl hu h hk).does
        · rename_i hu; simp only [Option.some.injEq] at hc; subst hc; exact sound_lenm rfl hu h hk
        · cases hc
      · cases hc
    · split at hc
      · rename_i x y t u h1 h2
        have e1 := arr2 h1
        subst e1
        exact sound_app hc0 hd h hk
      · cases hc
    · simp only [Option.some.injEq] at hc; subst hc; exact sound_mm (mx := false) h hk
    · simp only [Option.some.injEq] at hc; subst hc; exact sound_mm (mx := true) h hk
    · -- delete
      split at hc
      · rename_i m k t ts' h1 h2
        have e1 := arr2 h1
        subst e1
        split at hc
        · rename_i hu
          obtain ⟨q, hq, rfl⟩ := map_some' hc
          exact sound_mdel (by rw [← Array.getElem?_toList, h2]; rfl) hu hq h hk
        · cases hc
      · cases hc
    · -- copy
      split at hc
      · rename_i x y t ts' h1 h2
        have e1 := arr2 h1
        subst e1
        split at hc
        · rename_i hu
          obtain ⟨q, hq, rfl⟩ := map_some' hc
          exact sound_cpy (by rw [← Array.getElem?_toList, h2]; rfl) hu hq h hk
        · cases hc
      · cases hc
    · cases hc
  · cases hc
end
end Go.Vm
end

/- The abstract machine's code: what is owed of a piece of a function's code, and how it is paid. -/
section
namespace Go.Vm
inductive VT where
  | done
  | op (o : VOp) (t : VT)
  | alt (a b : VT)
  deriving Inhabited
inductive VCode where
  | skip
  | reg (ops : List VOp)
  | any (t : VT)
  | seq (a b : VCode)
  | cond (x : Operand) (t e : VCode)
  | block (id : Nat) (c : VCode)
  | loop (c : VCode)
  | exit (id : Nat)
  | ret
  | goto (l : Nat)
  | scope (c : VCode)
  | scopeL (c : VCode) (l : Nat) (rest : VCode)
  | rng (g : Operand) (ps : List Nat) (x y : VCode)
  deriving Inhabited
def St.lit (s : St) (t : Nat) (b : Bool) : St := ⟨(t, .iv (.v (.bool b))) :: s.fr, s.hp⟩
theorem lit_get {s : St} {t : Nat} {b : Bool} (h : s.get t = .iv (.v (.bool b))) (i : Nat) : (s.lit t b).get i = s.get i := by
  simp only [St.get, St.lit, look]
  split
  · rename_i e
    subst e
    simp only [St.get] at h
    rw [h]; rfl
  · rfl
theorem SimAt.lit {E : En} {n : Nat} {ψ : Pl} {s : St} {a : Act} {w : World} (h : SimAt E n ψ s a w) {t : Nat} {b : Bool} (hb : s.get t = .iv (.v (.bool b))) : SimAt E n ψ (s.lit t b) a w :=
  { h with frame := fun i => by rw [lit_get hb]; exact h.frame i }
def vop1 (P : Program) (o : VOp) (s : St) (K : St → Prop) : Prop :=
  match o.g with
  | none => stp P (o.d.getD 999) s (fun s' x => K (s'.put o.d x)) o.r
  | some (t, b) => match s.get t with
    | .iv (.v (.bool c)) => (c = b → stp P (o.d.getD 999) (s.lit t b) (fun s' x => K (s'.put o.d x)) o.r) ∧ (c = !b → K ((s.lit t !b).put o.d .un))
    | .un => K (s.put o.d .un)
    | _ => False
def vops (P : Program) : List VOp → St → (St → Prop) → Prop
  | [], s, K => K s
  | o :: r, s, K => vop1 P o s fun s' => vops P r s' K
def vtree (P : Program) : VT → St → (St → Prop) → Prop
  | .done, s, K => K s
  | .op o t, s, K => vop1 P o s fun s' => vtree P t s' K
  | .alt a b, s, K => vtree P a s K ∧ vtree P b s K
section
variable {P : Program} {E : En} {n : Nat} {s : St} {a : Act} {w : World}
theorem yielded_get {ψ : Pl} (h : SimAt E n ψ s a w) {ops : Array Oper} {j t : Nat} (ht : (ops[j]?).bind (·.dst) = some t) :
    (∀ c, s.get t = .iv (.v (.bool c)) → yielded ops a.tmps j = some c) ∧ (s.get t = .un → yielded ops a.tmps j = none) := by
  have hf := h.frame t
  unfold yielded
  rw [ht]
  simp only [Option.bind_some]
  constructor
  · intro c hc
    rw [hc] at hf
    have hv := inv_v hf
    by_cases hlt : t < a.tmps.size
    · rw [getD_some hlt (d := undef), hv]
    · rw [Array.getD_eq_getD_getElem?, Array.getElem?_eq_none (by omega)] at hv; cases hv
  · intro hc
    rw [hc] at hf
    have hv : a.tmps.getD t undef = undef := by
      generalize a.tmps.getD t undef = z at hf
      cases hf; rfl
    by_cases hlt : t < a.tmps.size
    · rw [getD_some hlt (d := undef), hv]; rfl
    · rw [Array.getElem?_eq_none (by omega)]
theorem vop1_sound {ops : Array Oper} {o : Oper} {vo : VOp} (hc : compOp P n ops o = some vo) (hn : n ≤ 999) {K : St → Prop} {K' : Act → World → Prop} (hs : Sim E n s a w)
    (hk : vop1 P vo s K) (hK : ∀ s' a' w', Sim E n s' a' w' → K s' → K' a' w') :
    if Region.wanted o (yielded ops a.tmps) then wpR P o a w K' else K' (a.put o.dst undef) w := by
  obtain ⟨ψ, h⟩ := hs
  unfold compOp at hc
  obtain ⟨g, hg, hc⟩ := bind_some hc
  obtain ⟨r, hr, hc⟩ := bind_some hc
  split at hc
  · rename_i hdst
    simp only [Option.pure_def, Option.some.injEq] at hc
    subst hc
    have hd : ∀ i, o.dst = some i → i < n := by
      intro i hi; rw [hi] at hdst; simpa [dstOk] using hdst
    have hd2 : o.dst.getD 999 < 1000 := by
      cases ho : o.dst with
      | none => simp
      | some i => exact Nat.lt_of_lt_of_le (hd i ho) (Nat.le_trans hn (by decide))
    have run : ∀ s1, SimAt E n ψ s1 a w → stp P (o.dst.getD 999) s1 (fun s' x => K (s'.put o.dst x)) r → wpR P o a w K' := by
      intro s1 h1 hst
      refine stp_sound hr hd2 h1 hst K' (fun _ _ _ => False) ?_
      intro s' av ψ' v w' hk hs hv
      refine hK (s'.put o.dst av) _ _ ⟨ψ', hs.put hd hv⟩ hk
    have skip : ∀ s1, SimAt E n ψ s1 a w → K (s1.put o.dst .un) → K' (a.put o.dst undef) w := fun s1 h1 hk => hK _ _ _ ⟨ψ, h1.put hd .un⟩ hk
    unfold okGuard at hg
    cases hgd : o.guard with
    | none =>
      rw [hgd] at hg
      simp only [Option.some.injEq] at hg
      subst hg
      simp only [vop1] at hk
      rw [if_pos (by simp [Region.wanted, hgd])]
      exact run _ h hk
    | some jb =>
      obtain ⟨j, b⟩ := jb
      rw [hgd] at hg
      obtain ⟨t, ht, rfl⟩ := map_some' hg
      simp only [vop1] at hk
      have hy := yielded_get h ht
      split at hk
      · rename_i c hc
        have hyc := hy.1 c hc
        by_cases hcb : c = b
        · rw [if_pos (by simp [Region.wanted, hgd, hyc, hcb])]
          subst hcb
          exact run _ (h.lit (by assumption)) (hk.1 rfl)
        · rw [if_neg (by simp [Region.wanted, hgd, hyc, hcb])]
          have hcb' : c = !b := by cases c <;> cases b <;> simp_all
          subst hcb'
          exact skip _ (h.lit (by assumption)) (hk.2 rfl)
      · rename_i hc
        have hyc := hy.2 hc
        rw [if_neg (by simp [Region.wanted, hgd, hyc])]
        exact skip _ h hk
      · exact hk.elim
  · cases hc
def wpListR (P : Program) (ops : Array Oper) (Q : Exit → Act → World → Prop) : List Oper → Act → World → Prop
  | [], a, w => Q .normal a w
  | o :: rest, a, w => if Region.wanted o (yielded ops a.tmps) then wpR P o a w (wpListR P ops Q rest) else wpListR P ops Q rest (a.put o.dst undef) w
theorem wpListR_in {ops : Array Oper} {Q : Exit → Act → World → Prop} (ro : Option Nat) (m : Nat) : ∀ (l : List Oper), (∀ o ∈ l, ∀ c, o.op ≠ .defer c) → ∀ (a : Act) (w : World), wpListR P ops Q l a w → wpListIn (wideR ro) m P ops Q l a w := by
  intro l
  induction l with
  | nil => intro _ a w h; exact h
  | cons o l ih =>
    intro hnd a w h
    have ih := ih fun o ho => hnd o (List.mem_cons_of_mem _ ho)
    simp only [wpListR] at h
    simp only [wpListIn]
    split
    · rename_i hw
      rw [if_pos hw] at h
      exact Oper.wpIn_mono ih (wpR_in (hnd o List.mem_cons_self) h ro m Q)
    · rename_i hw
      rw [if_neg hw] at h
      exact ⟨fun _ _ => by cases ro <;> trivial, ih _ _ h⟩
theorem vops_sound {ops : Array Oper} (hn : n ≤ 999) {N : St → Prop} {Q : Exit → Act → World → Prop} (hQ : ∀ s a w, Sim E n s a w → N s → Q .normal a w) :
    ∀ (l : List Oper) (vl : List VOp) (s : St) (a : Act) (w : World), l.mapM (compOp P n ops) = some vl → Sim E n s a w → vops P vl s N → wpListR P ops Q l a w := by
  intro l
  induction l with
  | nil => intro vl s a w hc hs hk; simp at hc; subst hc; exact hQ _ _ _ hs hk
  | cons o l ih =>
    intro vl s a w hc hs hk
    rw [List.mapM_cons] at hc
    obtain ⟨vo, ho, hc⟩ := bind_some hc
    obtain ⟨vr, hr, hc⟩ := bind_some hc
    simp only [Option.pure_def, Option.some.injEq] at hc
    subst hc
    simp only [vops] at hk
    have := vop1_sound (K' := wpListR P ops Q l) ho hn hs hk (fun s' a' w' hs' hk' => ih vr s' a' w' hr hs' hk')
    unfold wpListR
    exact this
end
end Go.Vm
end

/- A region whose order is open: an operation that does nothing but reckon, or read, may as well run first. -/
section
namespace Go.Vm
section
variable {P : Program} {ops : Array Oper} {Q : Exit → Act → World → Prop} {md : Region.Mode}
def wpOpR (P : Program) (ops : Array Oper) (i : Nat) (K : Act → World → Prop) (a : Act) (w : World) : Prop := match ops[i]? with
  | none => K a w
  | some o => if Region.wanted o (yielded ops a.tmps) then wpR P o a w K else K (a.put o.dst undef) w
theorem wpOpR_mono {i : Nat} {a : Act} {w : World} {K K' : Act → World → Prop} (h : ∀ a w, K a w → K' a w) (hh : wpOpR P ops i K a w) : wpOpR P ops i K' a w := by
  unfold wpOpR at *
  split
  · rename_i hi; rw [hi] at hh; exact h _ _ hh
  · rename_i o hi
    rw [hi] at hh
    simp only at hh
    split
    · rename_i hw; rw [if_pos hw] at hh; exact upR_mono h hh
    · rename_i hw; rw [if_neg hw] at hh; exact h _ _ hh
theorem wpOpR_in (hnd : ∀ o ∈ ops.toList, ∀ c, o.op ≠ .defer c) (ro : Option Nat) (m : Nat) {i : Nat} {a : Act} {w : World} {K : Act → World → Prop} (hh : wpOpR P ops i K a w) : wpOpIn (wideR ro) m P ops Q i K a w := by
  unfold wpOpR at hh
  unfold wpOpIn
  split
  · rename_i hi; rw [hi] at hh; exact hh
  · rename_i o hi
    rw [hi] at hh
    simp only at hh
    have ho : o ∈ ops.toList := by rw [← Array.getElem?_toList] at hi; exact List.mem_of_getElem? hi
    split
    · rename_i hw; rw [if_pos hw] at hh; exact wpR_in (hnd o ho) hh ro m Q
    · rename_i hw; rw [if_neg hw] at hh; exact ⟨fun _ _ => by cases ro <;> trivial, hh⟩
def YieldsIn (P : Program) (ops : Array Oper) (I : World → Prop) (o : Oper) (v : Value) (a : Act) : Prop :=
  (Region.wanted o (yielded ops a.tmps) = true ∧ ∀ w, I w → (execOp a.eval o).run P w = .ok (.value v) w) ∨
  (Region.wanted o (yielded ops a.tmps) = false ∧ v = undef)
def runOp (still : Oper → Bool) (P : Program) (ops : Array Oper) (i : Nat) (K : Act → World → Prop) (a : Act) (w : World) : Prop :=
  match ops[i]? with
  | none => K a w
  | some o => if still o then ∃ v, YieldsIn P ops (· = w) o v a ∧ K (a.put o.dst v) w else wpOpR P ops i K a w
theorem runOp_mono {still : Oper → Bool} {i : Nat} {a : Act} {w : World} {K K' : Act → World → Prop} (h : ∀ a w, K a w → K' a w)
    (hh : runOp still P ops i K a w) : runOp still P ops i K' a w := by
  unfold runOp at *
  split
  · rename_i hi; rw [hi] at hh; exact h _ _ hh
  · rename_i o hi
    rw [hi] at hh
    simp only at hh ⊢
    by_cases hst : still o = true
    · rw [if_pos hst] at hh ⊢; obtain ⟨v, h1, h2⟩ := hh; exact ⟨v, h1, h _ _ h2⟩
    · rw [if_neg hst] at hh ⊢; exact wpOpR_mono h hh
theorem YieldsIn.wpOp {I : World → Prop} {i : Nat} {o : Oper} {v : Value} {a : Act} (hi : ops[i]? = some o) (hy : YieldsIn P ops I o v a)
    {K : Act → World → Prop} {w : World} (hI : I w) (h : K (a.put o.dst v) w) : wpOpR P ops i K a w := by
  unfold wpOpR
  simp only [hi]
  rcases hy with ⟨hw, hv⟩ | ⟨hw, rfl⟩
  · simp only [hw, if_true, wpR, hv w hI, upR]; exact h
  · simp only [hw, Bool.false_eq_true, if_false]; exact h
theorem runOp_wp {still : Oper → Bool} {i : Nat} {a : Act} {w : World} {K : Act → World → Prop} (hh : runOp still P ops i K a w) : wpOpR P ops i K a w := by
  unfold runOp at hh
  split at hh
  · rename_i hi; unfold wpOpR; rw [hi]; exact hh
  · rename_i o hi
    split at hh
    · obtain ⟨v, h1, h2⟩ := hh; exact h1.wpOp hi rfl h2
    · exact hh
theorem YieldsIn.of_same {I : World → Prop} {o : Oper} {v : Value} {a a' : Act} (hy : YieldsIn P ops I o v a) (he : execOp a'.eval o = execOp a.eval o)
    (hw : Region.wanted o (yielded ops a'.tmps) = Region.wanted o (yielded ops a.tmps)) : YieldsIn P ops I o v a' := by
  unfold YieldsIn at *
  rw [he, hw]
  exact hy
theorem runOp_put {still : Oper → Bool} {I : World → Prop} {j : Nat} {oi oj : Oper} {v : Value} (hj : ops[j]? = some oj) (hap : oi.apart ops oj = true)
    (hsi : ∀ cs b, oi.op ≠ .select cs b) (hsj : ∀ cs b, oj.op ≠ .select cs b) (hkeep : (∀ w, I w) ∨ still oj = true ∨ ∀ (a : Act) w n w', I w → (execOp a.eval oj).run P w = .ok n w' → I w' ∧ ∃ v, n = .value v)
    {K : Act → World → Prop} {a : Act} {w : World} (hI : I w)
    (hy : YieldsIn P ops I oi v a) (h : runOp still P ops j K (a.put oi.dst v) w) :
    runOp still P ops j (fun a' w' => YieldsIn P ops I oi v a' ∧ I w' ∧ K (a'.put oi.dst v) w') a w := by
  obtain ⟨h1, h2, h3⟩ := Oper.apart_spec hap
  have keep : ∀ (a : Act), YieldsIn P ops I oi v a → ∀ u, YieldsIn P ops I oi v (a.put oj.dst u) := fun a hy u =>
    hy.of_same (execOp_put oi hsi a oj.dst u h3) (wanted_put oi a oj.dst u h3)
  unfold runOp at *
  simp only [hj] at h ⊢
  by_cases hst : still oj = true
  · rw [if_pos hst] at h ⊢
    obtain ⟨u, hu, hk⟩ := h
    refine ⟨u, hu.of_same ?_ ?_, keep a hy u, hI, by rw [← Act.put_comm a v u h2]; exact hk⟩
    · exact (execOp_put oj hsj a oi.dst v h1).symm
    · exact (wanted_put oj a oi.dst v h1).symm
  rw [if_neg hst] at h ⊢
  unfold wpOpR at *
  simp only [hj] at *
  rw [wanted_put oj a oi.dst v h1] at h
  split
  · rename_i hw
    simp only [hw, if_true] at h
    unfold wpR at *
    rw [execOp_put oj hsj a oi.dst v h1] at h
    rcases hkeep with hI' | hkeep | hgrow
    · generalize (execOp a.eval oj).run P w = r at *
      cases r with
      | ok n w' =>
        cases n <;> simp only [upR] at h ⊢
        case value u => exact ⟨keep a hy u, hI' _, by rw [← Act.put_comm a v u h2]; exact h⟩
        case skip => exact ⟨keep a hy _, hI' _, by rw [← Act.put_comm a v undef h2]; exact h⟩
        case enter f args =>
          refine Calls.mono h fun e w'' ⟨u, he, hk⟩ => ⟨u, he, keep a hy u, hI' _, by rw [← Act.put_comm a v u h2]; exact hk⟩
        case round l f tmps assign body =>
          exact fun m => RoundIn.mono (h m) fun e w'' ⟨u, he, hk⟩ => ⟨u, he, keep a hy u, hI' _, by rw [← Act.put_comm a v u h2]; exact hk⟩
      | halt x w' => exact h.elim
    · exact absurd hkeep hst
    · have hg := hgrow a w
      generalize (execOp a.eval oj).run P w = r at *
      cases r with
      | ok n w' =>
        obtain ⟨g1, u, rfl⟩ := hg n w' hI rfl
        simp only [upR] at h ⊢
        exact ⟨keep a hy u, g1, by rw [← Act.put_comm a v u h2]; exact h⟩
      | halt x w' => exact h.elim
  · rename_i hw
    simp only [hw] at h
    exact ⟨keep a hy _, hI, by rw [← Act.put_comm a v undef h2]; exact h⟩
def runAny (still : Oper → Bool) (P : Program) (md : Region.Mode) (ops : Array Oper) (Q : Exit → Act → World → Prop) : Nat → Array Bool → Act → World → Prop
  | 0, listed, a, w => Region.ready md ops listed = [] ∧ Q .normal a w
  | fuel + 1, listed, a, w =>
    (Region.ready md ops listed = [] → Q .normal a w) ∧
    ∀ i ∈ Region.ready md ops listed, runOp still P ops i (runAny still P md ops Q fuel (listed.setIfInBounds i true)) a w
theorem runAny_wp {still : Oper → Bool} (hnd : ∀ o ∈ ops.toList, ∀ c, o.op ≠ .defer c) (ro : Option Nat) (m : Nat) : ∀ (fuel : Nat) (listed : Array Bool) (a : Act) (w : World), runAny still P md ops Q fuel listed a w → wpAnyIn (wideR ro) m P md ops Q fuel listed a w := by
  intro fuel
  induction fuel with
  | zero => intro listed a w h; exact h
  | succ fuel ih => intro listed a w h; exact ⟨h.1, fun i hi => wpOpIn_mono (fun a w => ih _ a w) (wpOpR_in hnd ro m (runOp_wp (h.2 i hi)))⟩
theorem YieldsIn.runOp {still : Oper → Bool} {I : World → Prop} {i : Nat} {o : Oper} {v : Value} {a : Act} (hi : ops[i]? = some o) (hy : YieldsIn P ops I o v a)
    {K : Act → World → Prop} {w : World} (hI : I w) (h : K (a.put o.dst v) w) : runOp still P ops i K a w := by
  unfold Vm.runOp
  simp only [hi]
  split
  · refine ⟨v, ?_, h⟩
    rcases hy with ⟨hw, hv⟩ | hy
    · exact .inl ⟨hw, fun w' e => by subst e; exact hv _ hI⟩
    · exact .inr hy
  · exact hy.wpOp hi hI h
theorem runAny_first {still : Oper → Bool} {I : World → Prop} {i : Nat} {oi : Oper} {v : Value} {D : List Nat} (hi : ops[i]? = some oi) (hsel : ∀ (j : Nat) (o : Oper) cs b, ops[j]? = some o → o.op ≠ .select cs b)
    (hD : ∀ j ∈ D, ∀ oj, ops[j]? = some oj → ∃ e ∈ oj.after, Region.binds md e = true ∧ (e.on = i ∨ e.on ∈ D))
    :
    ∀ (fuel : Nat) (listed : Array Bool) (a : Act) (w : World), (∀ j ∈ D, listed.getD j true = false) → I w →
      (∀ j oj, ops[j]? = some oj → j ≠ i → listed.getD j true = false → j ∉ D → oi.apart ops oj = true ∧ ((∀ w, I w) ∨ still oj = true ∨ ∀ (a : Act) w n w', I w → (execOp a.eval oj).run P w = .ok n w' → I w' ∧ ∃ v, n = .value v)) →
      i ∈ Region.ready md ops listed → YieldsIn P ops I oi v a →
      runAny still P md ops Q fuel (listed.setIfInBounds i true) (a.put oi.dst v) w → runAny still P md ops Q (fuel + 1) listed a w := by
  intro fuel
  induction fuel with
  | zero =>
    intro listed a w _ hI _ hr hy H
    refine ⟨fun h => (by rw [h] at hr; cases hr), fun j hj => ?_⟩
    by_cases hji : j = i
    · subst hji; exact hy.runOp hi hI H
    · have := ready_mono hj hji
      rw [H.1] at this
      cases this
  | succ fuel ih =>
    intro listed a w hDl hI hfree hr hy H
    refine ⟨fun h => (by rw [h] at hr; cases hr), fun j hj => ?_⟩
    by_cases hji : j = i
    · subst hji; exact hy.runOp hi hI H
    · have h1 := H.2 j (ready_mono hj hji)
      obtain ⟨hjun, oj, hoj, hall⟩ := mem_ready.1 hj
      have unl : ∀ k, listed.getD k true = false → listed.getD k false = false := by
        intro k hk
        rcases Nat.lt_or_ge k listed.size with h' | h'
        · simp [h'] at hk ⊢; exact hk
        · simp [Array.getElem?_eq_none h'] at hk
      have hjD : j ∉ D := by
        intro hjD
        obtain ⟨e, he, hb, hon⟩ := hD j hjD oj hoj
        have h1 := hall e he hb
        rcases hon with hon | hon
        · rw [hon, unl i (mem_ready.1 hr).1] at h1; cases h1
        · rw [unl _ (hDl _ hon)] at h1; cases h1
      obtain ⟨hap, hkp⟩ := hfree j oj hoj hji hjun hjD
      have h2 := runOp_put hoj hap (fun cs b => hsel i oi cs b hi) (fun cs b => hsel j oj cs b hoj) hkp hI hy h1
      have hun' : ∀ k, k ≠ j → (listed.setIfInBounds j true).getD k true = listed.getD k true := fun k hk => getD_set_ne true (Ne.symm hk)
      refine runOp_mono (fun a' w' h3 => ih (listed.setIfInBounds j true) a' w' ?_ h3.2.1 (fun k ok hk hki hun hno => ?_) (ready_mono hr (Ne.symm hji)) h3.1 ?_) h2
      · intro k hk
        rw [hun' k (fun e => hjD (e ▸ hk))]
        exact hDl k hk
      · refine hfree k ok hk hki ?_ hno
        by_cases hjk : k = j
        · subst hjk; exact hjun
        · rw [hun' k hjk] at hun; exact hun
      · rw [Array.setIfInBounds_comm _ _ hji]
        exact h3.2.2
end
/-! ### Which operations reckon only, which read only -/
def Rhs.pure : Rhs → Bool
  | .mov _ | .pick .. | .chk _ | .bin .. | .beq .. | .peq .. | .snil .. | .un .. | .cvt .. | .ext .. | .len _ | .lens _ | .fa .. | .fld .. | .ia .. | .is .. | .cut .. | .mkfn .. | .build .. | .eqs .. => true
  | _ => false
def Sem.Adds {α : Type} : Sem α → Prop
  | .pure _ => True
  | .halt _ => True
  | .load _ _ k => ∀ v, Adds (k v)
  | .shape _ k => ∀ s, Adds (k s)
  | .frozen _ k => ∀ b, Adds (k b)
  | .getObj _ k => ∀ o, Adds (k o)
  | .program k => ∀ p, Adds (k p)
  | .mark _ k => Adds k
  | .new _ k => ∀ n, Adds (k n)
  | .store _ _ _ _ => False
  | .freeze _ _ _ => False
  | .setObj _ _ _ => False
  | .choose _ _ => False
  | .sys _ _ => False
theorem Sem.Adds.of_looks {α : Type} {x : Sem α} (hx : x.Looks) : Sem.Adds x := by
  induction x with
  | pure a => trivial
  | halt h => trivial
  | load m a k ih => exact fun v => ih v (hx v)
  | shape r k ih => exact fun v => ih v (hx v)
  | frozen a k ih => exact fun v => ih v (hx v)
  | getObj r k ih => exact fun v => ih v (hx v)
  | program k ih => exact fun v => ih v (hx v)
  | mark m k ih => exact ih hx
  | store m a v k _ => exact hx.elim
  | new o k _ => exact hx.elim
  | freeze a n k _ => exact hx.elim
  | setObj r o k _ => exact hx.elim
  | choose q k _ => exact hx.elim
  | sys c k _ => exact hx.elim
theorem Sem.Adds.bind {α β : Type} {x : Sem α} {f : α → Sem β} (hx : Sem.Adds x) (hf : ∀ a, Sem.Adds (f a)) : Sem.Adds (x >>= f) := by
  show Sem.Adds (x.bind f)
  induction x with
  | pure a => exact hf a
  | halt h => exact trivial
  | load m a k ih => exact fun v => ih v (hx v)
  | shape r k ih => exact fun s => ih s (hx s)
  | frozen a k ih => exact fun b => ih b (hx b)
  | getObj r k ih => exact fun o => ih o (hx o)
  | program k ih => exact fun p => ih p (hx p)
  | mark m k ih => exact ih hx
  | store m a v k _ => exact hx.elim
  | new o k ih => exact fun n => ih n (hx n)
  | freeze a n k _ => exact hx.elim
  | setObj r o k _ => exact hx.elim
  | choose q k _ => exact hx.elim
  | sys c k _ => exact hx.elim
theorem Sem.Adds.ext {α : Type} {x : Sem α} (hx : Sem.Adds x) {P : Program} {w w' : World} {a : α} (h : x.run P w = .ok a w') : Ext w w' := by
  induction x generalizing w with
  | pure b => simp only [Sem.run] at h; cases h; exact Ext.refl _
  | halt b => simp only [Sem.run] at h; cases h
  | load m b k ih =>
    simp only [Sem.run] at h
    split at h
    · exact ih _ (hx _) h
    · split at h
      · exact ih _ (hx _) h
      · cases h
  | shape r k ih => exact ih _ (hx _) h
  | frozen b k ih => exact ih _ (hx _) h
  | getObj r k ih =>
    simp only [Sem.run] at h
    split at h
    · cases h
    · exact ih _ (hx _) h
    · cases h
  | program k ih => exact ih _ (hx _) h
  | mark m k ih => exact ih hx h
  | store m b v k _ => exact hx.elim
  | new o k ih =>
    simp only [Sem.run] at h
    exact (Ext.alloc w o).trans (ih _ (hx _) h)
  | freeze b n k _ => exact hx.elim
  | setObj r o k _ => exact hx.elim
  | choose q k _ => exact hx.elim
  | sys c k _ => exact hx.elim
theorem newRow_adds (e : TypeId) (cs : Array Value) : Sem.Adds (newRow e cs) := Sem.Adds.bind (fun n => trivial) (fun _ => trivial)
theorem zeroValue_adds (t : TypeId) : Sem.Adds (zeroValue t) := by
  unfold zeroValue
  refine Sem.Adds.bind (.of_looks (typeInfo_looks t)) fun i => ?_
  split <;> trivial
theorem underlying_adds (t : TypeId) : Sem.Adds (underlying t) := .of_looks (underlying_looks t)
theorem sizeOf_adds (t : TypeId) : Sem.Adds (sizeOf t) := .of_looks (sizeOf_looks t)
def growsOp (o : Oper) : Bool := match o.op with
  | .alloc _ => true
  | .box .. => true
  | .buildSlice .. => true
  | _ => false
theorem value_adds {x : Sem Value} (hx : Sem.Adds x) {P : Program} {w w' : World} {n : Next} (h : (x >>= fun v => pure (Next.value v)).run P w = .ok n w') : Ext w w' ∧ ∃ v, n = .value v := by
  refine ⟨(Sem.Adds.bind (f := fun v => (pure (Next.value v) : Sem Next)) hx fun v => (trivial : Sem.Adds (Sem.pure (Next.value v)))).ext h, ?_⟩
  rw [Sem.run_bind] at h
  cases hx : x.run P w with
  | ok v w1 => rw [hx] at h; simp at h; exact ⟨v, h.1.symm⟩
  | halt b w1 => rw [hx] at h; simp [Result.andThen] at h
theorem grows_run {P : Program} {o : Oper} (h : growsOp o = true) (a : Act) (w : World) (n : Next) (w' : World) (hr : (execOp a.eval o).run P w = .ok n w') : Ext w w' ∧ ∃ v, n = .value v := by
  obtain ⟨dst, op, ty, pos, af, g⟩ := o
  cases op with
  | alloc t =>
    refine value_adds ?_ hr
    unfold Instr.alloc
    refine Sem.Adds.bind (zeroValue_adds t) fun z => ?_
    exact Sem.Adds.bind (newRow_adds _ _) fun _ => trivial
  | box t x =>
    refine value_adds ?_ hr
    unfold Instr.box
    exact Sem.Adds.bind (newRow_adds _ _) fun _ => trivial
  | buildSlice t len parts =>
    refine value_adds ?_ hr
    unfold Instr.buildSlice
    repeat' first
      | exact zeroValue_adds _
      | exact underlying_adds _
      | exact sizeOf_adds _
      | exact newRow_adds _ _
      | trivial
      | (refine Sem.Adds.bind ?_ fun _ => ?_)
      | split
      | dsimp only
  | _ => cases h
section
variable {P : Program} {E : En} {n : Nat} {ψ : Pl} {s : St} {a : Act} {w : World}
variable {d : Nat} {K : St → AV → Prop} {r : Rhs}
theorem pure_sound {o : Oper} (hc : comp P o = some r) (hp : r.pure = true) (h : SimAt E n ψ s a w) (hk : stp P d s K r) : ∃ v, ∀ u, (execOp a.eval o).run P u = .ok (.value v) u := by
  obtain ⟨dst, op, ty, pos, af, g⟩ := o
  have hc0 := hc
  unfold comp at hc
  split at hc
  · rename_i x heq; cases heq
    split at hc
    · simp only [Option.some.injEq] at hc; subst hc; cases hp
    · simp only [Option.some.injEq] at hc; subst hc; exact (sound_mov (.inl rfl) h hk).any
  · rename_i x heq; cases heq
    split at hc
    · simp only [Option.some.injEq] at hc; subst hc; cases hp
    · simp only [Option.some.injEq] at hc; subst hc; exact (sound_mov (.inr rfl) h hk).any
  · rename_i heq; cases heq; exact (sound_pick hc0 h hk).any
  · rename_i heq; cases heq
    obtain ⟨z, hz, rfl⟩ := map_some' hc
    cases hp
  · rename_i heq; cases heq
    simp only [Option.some.injEq] at hc; subst hc; cases hp
  · rename_i t parts heq; cases heq
    split at hc
    · rename_i fs hu
      split at hc
      · rename_i hall
        obtain ⟨z, hz, hc⟩ := bind_some hc
        obtain ⟨l, hl, hc⟩ := bind_some hc
        simp only [Option.pure_def, Option.some.injEq] at hc
        subst hc
        exact (sound_build hu hz (fun f hf => by simpa using (Array.all_eq_true'.1 hall) f hf) hl h hk).any
      · cases hc
    · cases hc
  · rename_i t len parts heq; cases heq
    split at hc
    · obtain ⟨sz, hsz, hc⟩ := bind_some hc
      split at hc
      · obtain ⟨z, hz, hc⟩ := bind_some hc
        simp only [Option.pure_def, Option.some.injEq] at hc
        subst hc
        cases hp
      · cases hc
    · cases hc
  · rename_i heq; cases heq
    obtain ⟨dd, hdd, hc⟩ := bind_some hc
    split at hc
    · obtain ⟨q, hq, rfl⟩ := map_some' hc; cases hp
    · simp only [Option.pure_def, Option.some.injEq] at hc; subst hc; cases hp
  · rename_i heq; cases heq
    obtain ⟨q, hq, rfl⟩ := map_some' hc
    cases hp
  · rename_i heq; cases heq; exact (sound_chk hc0 h hk).any
  · rename_i op xt x y yt heq; cases heq
    split at hc
    · simp only [Option.some.injEq] at hc; subst hc; exact (sound_bin h hk).any
    · simp only [Option.some.injEq] at hc; subst hc; exact (sound_bin h hk).any
    · rename_i hu
      split at hc
      · simp only [Option.some.injEq] at hc; subst hc; exact (sound_beq hu rfl h hk).any
      · simp only [Option.some.injEq] at hc; subst hc; exact (sound_beq hu rfl h hk).any
      · cases hc
    · rename_i hu
      split at hc
      · simp only [Option.some.injEq] at hc; subst hc; exact (sound_peq hu rfl h hk).any
      · simp only [Option.some.injEq] at hc; subst hc; exact (sound_peq hu rfl h hk).any
      · cases hc
    · rename_i hu
      split at hc
      · simp only [Option.some.injEq] at hc; subst hc; exact (sound_snil hu rfl h hk).any
      · simp only [Option.some.injEq] at hc; subst hc; exact (sound_snil hu rfl h hk).any
      · cases hc
    · rename_i hu
      split at hc
      · rename_i hgd
        obtain ⟨ks, hks, hc⟩ := bind_some hc
        split at hc
        · cases hc
        · rename_i hi
          have hi : infoSize P xt = some ks.length := by simpa using hi
          split at hc
          · simp only [Option.some.injEq] at hc; subst hc; exact (sound_eqs hu hgd hks rfl h hk hi).any
          · simp only [Option.some.injEq] at hc; subst hc; exact (sound_eqs hu hgd hks rfl h hk hi).any
          · cases hc
      · cases hc
    · cases hc
  · rename_i heq; cases heq
    simp only [Option.some.injEq] at hc; subst hc; exact (sound_un h hk).any
  · rename_i heq; cases heq
    split at hc
    · rename_i h1 h2
      simp only [Option.some.injEq] at hc; subst hc; exact (sound_cvt h1 h2 h hk).any
    · cases hc
  · rename_i heq; cases heq
    simp only [Option.some.injEq] at hc; subst hc; exact (sound_mkfn h hk).any
  · rename_i heq; cases heq
    split at hc
    · obtain ⟨q, hq, rfl⟩ := map_some' hc; cases hp
    · cases hc
  · rename_i heq; cases heq
    split at hc
    · obtain ⟨i, hi, hc⟩ := bind_some hc
      obtain ⟨z, hz, hc⟩ := bind_some hc
      split at hc
      · simp only [Option.pure_def, Option.some.injEq] at hc; subst hc; cases hp
      · cases hc
    · cases hc
  · rename_i heq; cases heq
    split at hc
    · rename_i hu
      obtain ⟨sz, hsz, rfl⟩ := map_some' hc
      exact (sound_cut hu hsz h hk).any
    · cases hc
  · rename_i heq; cases heq
    split at hc
    · rename_i hu
      obtain ⟨f, hf, hc⟩ := bind_some hc
      obtain ⟨q, hq, hc⟩ := bind_some hc
      split at hc
      · cases hc
      · rename_i hq0
        simp only [Option.pure_def, Option.some.injEq] at hc
        subst hc
        exact (sound_fa hu hf hq hq0 h hk).any
    · cases hc
  · rename_i heq; cases heq
    split at hc
    · rename_i hu
      obtain ⟨f, hf, hc⟩ := bind_some hc
      obtain ⟨q, hq, hc⟩ := bind_some hc
      obtain ⟨dd, hdd, hc⟩ := bind_some hc
      simp only [Option.pure_def, Option.some.injEq] at hc
      subst hc
      exact (sound_fld hu hf hq hdd h hk).any
    · cases hc
  · rename_i heq; cases heq
    split at hc
    · rename_i hu
      obtain ⟨sz, hsz, rfl⟩ := map_some' hc
      exact (sound_ia hu hsz h hk).any
    · cases hc
  · rename_i heq; cases heq
    split at hc
    · rename_i hu
      simp only [Option.some.injEq] at hc; subst hc; exact (sound_is hu h hk).any
    · cases hc
  · rename_i heq; cases heq
    split at hc
    · obtain ⟨q, hq, hc⟩ := bind_some hc
      obtain ⟨z, hz, hc⟩ := bind_some hc
      split at hc
      · simp only [Option.pure_def, Option.some.injEq] at hc; subst hc; cases hp
      · cases hc
    · cases hc
  · rename_i heq; cases heq
    split at hc
    · obtain ⟨q, hq, hc⟩ := bind_some hc
      obtain ⟨z, hz, hc⟩ := bind_some hc
      split at hc
      · simp only [Option.pure_def, Option.some.injEq] at hc; subst hc; cases hp
      · cases hc
    · cases hc
  · rename_i heq; cases heq
    simp only [Option.some.injEq] at hc; subst hc; cases hp
  · rename_i heq; cases heq
    split at hc
    · obtain ⟨q, hq, rfl⟩ := map_some' hc; cases hp
    · cases hc
  · rename_i heq; cases heq
    simp only [Option.some.injEq] at hc; subst hc; cases hp
  · rename_i heq; cases heq
    simp only [Option.some.injEq] at hc; subst hc; cases hp
  · rename_i heq; cases heq
    split at hc
    · obtain ⟨q, hq, rfl⟩ := map_some' hc; cases hp
    · cases hc
  · rename_i heq; cases heq
    split at hc
    · obtain ⟨q, hq, rfl⟩ := map_some' hc; cases hp
    · cases hc
  · rename_i heq; cases heq
    simp only [Option.some.injEq] at hc; subst hc; exact (sound_ext h hk).any
  · rename_i c heq; cases heq
    obtain ⟨cl, args, ts⟩ := c
    simp only at hc
    split at hc
    · split at hc
      · simp only [Option.some.injEq] at hc; subst hc; cases hp
      · cases hc
    · simp only [Option.some.injEq] at hc; subst hc; cases hp
    · split at hc
      · rename_i x t h1 h2
        have e1 := arr1 h1
        have e2 := arr1 h2
        subst e1; subst e2
        split at hc
        · rename_i hu; simp only [Option.some.injEq] at hc; subst hc; exact (sound_len rfl hu h hk).any
        · rename_i hu; simp only [Option.some.injEq] at hc; subst hc; exact (sound_lens rfl hu h hk).any
        · simp only [Option.some.injEq] at hc; subst hc; cases hp
        · cases hc
      · cases hc
    · split at hc
      · split at hc
        · obtain ⟨q, hq, hc⟩ := bind_some hc
          obtain ⟨q2, hq2, hc⟩ := bind_some hc
          split at hc
          · simp only [Option.some.injEq] at hc; subst hc; cases hp
          · cases hc
        · cases hc
      · cases hc
    · simp only [Option.some.injEq] at hc; subst hc; cases hp
    · simp only [Option.some.injEq] at hc; subst hc; cases hp
    · split at hc
      · split at hc
        · obtain ⟨q, hq, rfl⟩ := map_some' hc; cases hp
        · cases hc
      · cases hc
    · split at hc
      · split at hc
        · obtain ⟨q, hq, rfl⟩ := map_some' hc; cases hp
        · cases hc
      · cases hc
    · cases hc
  · cases hc
end
end Go.Vm
end

/- A region whose order is open: the orders that are left to look at. -/
section
namespace Go.Vm
def pureOp (P : Program) (o : Oper) : Bool := match comp P o with
  | some r => r.pure
  | none => false
def readsOp (o : Oper) : Bool := match o.op with
  | .load .. => true
  | .lookup .. => true
  | _ => false
def still (P : Program) (o : Oper) : Bool := pureOp P o || readsOp o
def depsOf (ops : Array Oper) (i : Nat) : List Nat :=
  (List.range ops.size).foldl (fun D j => match ops[j]? with
    | some o => if o.after.any (fun e => Region.binds .any e && (e.on == i || D.contains e.on)) then j :: D else D
    | none => D) []
def takes (P : Program) (ops : Array Oper) (listed : Array Bool) (i : Nat) : Bool := match ops[i]? with
  | none => false
  | some oi => still P oi && (depsOf ops i).all (fun j => !listed.getD j true && match ops[j]? with
      | some o => o.after.any fun e => Region.binds .any e && (e.on == i || (depsOf ops i).contains e.on)
      | none => true) &&
    (List.range ops.size).all fun j => j == i || listed.getD j true || (depsOf ops i).contains j || match ops[j]? with
      | some oj => oi.apart ops oj && (pureOp P oi || still P oj || growsOp oj)
      | none => true
def altAll : List VT → Option VT
  | [] => none
  | [t] => some t
  | t :: r => (altAll r).map (.alt t)
def force {α : Type} (n : Nat) (f : Nat → α) : α := match n with
  | 0 => f 0
  | m + 1 => f (m + 1)
theorem force_eq {α : Type} (n : Nat) (f : Nat → α) : force n f = f n := by cases n <;> rfl
def maskL : List Bool → Nat
  | [] => 0
  | b :: r => 2 * maskL r + (if b then 1 else 0)
def ofMask : Nat → Nat → List Bool
  | 0, _ => []
  | k + 1, m => (m % 2 == 1) :: ofMask k (m / 2)
theorem ofMask_maskL : ∀ l : List Bool, ofMask l.length (maskL l) = l
  | [] => rfl
  | b :: r => by
    have h1 : (2 * maskL r + (if b then 1 else 0)) / 2 = maskL r := by split <;> omega
    have h2 : ((2 * maskL r + (if b then 1 else 0)) % 2 == 1) = b := by
      cases b
      · have : (2 * maskL r + (if false then 1 else 0)) % 2 = 0 := by simp
        rw [this]; rfl
      · have : (2 * maskL r + (if true then 1 else 0)) % 2 = 1 := by simp
        rw [this]; rfl
    show ((2 * maskL r + (if b then 1 else 0)) % 2 == 1) :: ofMask r.length ((2 * maskL r + (if b then 1 else 0)) / 2) = b :: r
    rw [h1, h2, ofMask_maskL r]
def canon {α : Type} (l : Array Bool) (f : Array Bool → α) : α := force l.size fun sz => force (maskL l.toList) fun m => f (ofMask sz m).toArray
theorem canon_eq {α : Type} (l : Array Bool) (f : Array Bool → α) : canon l f = f l := by
  unfold canon
  rw [force_eq, force_eq]
  have : ofMask l.size (maskL l.toList) = l.toList := ofMask_maskL l.toList
  rw [this]
def vtOf (P : Program) (n : Nat) (ops : Array Oper) : Nat → Array Bool → Option VT
  | 0, listed => if (Region.ready .any ops listed).isEmpty then some .done else none
  | fuel + 1, listed =>
    let one := fun i => do
      let o ← ops[i]?
      let vo ← compOp P n ops o
      let t ← canon (listed.setIfInBounds i true) fun l => vtOf P n ops fuel l
      pure (VT.op vo t)
    if (Region.ready .any ops listed).isEmpty then some .done
    else match (Region.ready .any ops listed).find? (takes P ops listed) with
      | some i => one i
      | none => ((Region.ready .any ops listed).mapM one).bind altAll
theorem vtOf_succ (P : Program) (n : Nat) (ops : Array Oper) (fuel : Nat) (listed : Array Bool) : vtOf P n ops (fuel + 1) listed =
    (let one := fun i => do
      let o ← ops[i]?
      let vo ← compOp P n ops o
      let t ← vtOf P n ops fuel (listed.setIfInBounds i true)
      pure (VT.op vo t)
    if (Region.ready .any ops listed).isEmpty then some .done
    else match (Region.ready .any ops listed).find? (takes P ops listed) with
      | some i => one i
      | none => ((Region.ready .any ops listed).mapM one).bind altAll) := by
  rw [vtOf]
  simp only [canon_eq]
section
variable {P : Program} {E : En} {n : Nat} {s : St} {a : Act} {w : World} {ops : Array Oper}
theorem reads_all {o : Oper} {r : Rhs} {d : Nat} {K : St → AV → Prop} {ψ : Pl} (hc : comp P o = some r) (hr : readsOp o = true) (hd : d < 1000) (h : SimAt E n ψ s a w) (hk : stp P d s K r) :
    ∃ v, ∀ u, Ext w u → (execOp a.eval o).run P u = .ok (.value v) u := by
  obtain ⟨dst, op, ty, pos, af, g⟩ := o
  cases op with
  | load t x => exact ld_all hc hd h hk
  | lookup t m k ok =>
    simp only [comp] at hc
    split at hc
    · rename_i hu
      obtain ⟨sk, hsk, hc⟩ := bind_some hc
      obtain ⟨z, hz, hc⟩ := bind_some hc
      split at hc
      · rename_i hza
        simp only [Option.pure_def, Option.some.injEq] at hc; subst hc
        obtain ⟨v, h1, _⟩ := lkp_val (dst := dst) (ty := ty) (pos := pos) (af := af) (g := g) hu hsk hz hza hd h hk
        exact ⟨v, h1⟩
      · cases hc
    · cases hc
  | _ => cases hr
theorem vop1_still {o : Oper} {vo : VOp} (hc : compOp P n ops o = some vo) (hn : n ≤ 999) {K : St → Prop} (hs : Sim E n s a w)
    (hk : vop1 P vo s K) (hst : still P o = true) : ∃ v, YieldsIn P ops (if pureOp P o then fun _ => True else Ext w) o v a ∧ ∃ s', Sim E n s' (a.put o.dst v) w ∧ K s' := by
  obtain ⟨ψ, h⟩ := hs
  unfold compOp at hc
  obtain ⟨g, hg, hc⟩ := bind_some hc
  obtain ⟨r, hr, hc⟩ := bind_some hc
  split at hc
  · rename_i hdst
    simp only [Option.pure_def, Option.some.injEq] at hc
    subst hc
    have hd : ∀ i, o.dst = some i → i < n := by
      intro i hi; rw [hi] at hdst; simpa [dstOk] using hdst
    have hd2 : o.dst.getD 999 < 1000 := by
      cases ho : o.dst with
      | none => simp
      | some i => exact Nat.lt_of_lt_of_le (hd i ho) (Nat.le_trans hn (by decide))
    have skip : ∀ s, SimAt E n ψ s a w → Region.wanted o (yielded ops a.tmps) = false → K (s.put o.dst .un) → ∃ v, YieldsIn P ops (if pureOp P o then fun _ => True else Ext w) o v a ∧ ∃ s', Sim E n s' (a.put o.dst v) w ∧ K s' :=
      fun s h hw hk => ⟨undef, .inr ⟨hw, rfl⟩, _, ⟨ψ, h.put hd .un⟩, hk⟩
    have run : ∀ s, SimAt E n ψ s a w → Region.wanted o (yielded ops a.tmps) = true → stp P (o.dst.getD 999) s (fun s' x => K (s'.put o.dst x)) r →
        ∃ v, YieldsIn P ops (if pureOp P o then fun _ => True else Ext w) o v a ∧ ∃ s', Sim E n s' (a.put o.dst v) w ∧ K s' := by
      intro s h hw hstp
      have hdoes := stp_sound hr hd2 h hstp (fun a' w' => ∃ s', Sim E n s' a' w' ∧ K s') (fun _ _ _ => False)
        (fun s' av ψ' v w' hk hs hv => ⟨_, ⟨ψ', hs.put hd hv⟩, hk⟩)
      by_cases hp : pureOp P o = true
      · have hp' : r.pure = true := by unfold pureOp at hp; rw [hr] at hp; exact hp
        obtain ⟨v, hv⟩ := pure_sound hr hp' h hstp
        refine ⟨v, .inl ⟨hw, fun u _ => hv u⟩, ?_⟩
        unfold wpR at hdoes
        rw [hv w] at hdoes
        exact hdoes
      · have hread : readsOp o = true := by
          unfold still at hst
          simp only [hp, Bool.false_or] at hst
          exact hst
        rw [if_neg hp]
        obtain ⟨v, hv⟩ := reads_all hr hread hd2 h hstp
        refine ⟨v, .inl ⟨hw, fun u hu => hv u hu⟩, ?_⟩
        unfold wpR at hdoes
        rw [hv w (Ext.refl w)] at hdoes
        exact hdoes
    unfold okGuard at hg
    cases hgd : o.guard with
    | none =>
      rw [hgd] at hg
      simp only [Option.some.injEq] at hg
      subst hg
      simp only [vop1] at hk
      exact run s h (by simp [Region.wanted, hgd]) hk
    | some jb =>
      obtain ⟨j, b⟩ := jb
      rw [hgd] at hg
      obtain ⟨t, ht, rfl⟩ := map_some' hg
      simp only [vop1] at hk
      have hy := yielded_get h ht
      split at hk
      · rename_i c hc
        have hyc := hy.1 c hc
        by_cases hcb : c = b
        · subst hcb
          exact run _ (h.lit (by assumption)) (by simp [Region.wanted, hgd, hyc]) (hk.1 rfl)
        · have hcb' : c = !b := by cases c <;> cases b <;> simp_all
          subst hcb'
          exact skip _ (h.lit (by assumption)) (by simp [Region.wanted, hgd, hyc]) (hk.2 rfl)
      · rename_i hc
        have hyc := hy.2 hc
        exact skip s h (by simp [Region.wanted, hgd, hyc]) hk
      · exact hk.elim
  · cases hc
theorem altAll_mem {P : Program} {s : St} {K : St → Prop} : ∀ {ts : List VT} {t : VT}, altAll ts = some t → vtree P t s K → ∀ u ∈ ts, vtree P u s K
  | [], t, h, _, _, _ => by cases h
  | [x], t, h, hk, u, hu => by
    simp only [altAll, Option.some.injEq] at h
    subst h
    rw [List.mem_singleton.1 hu]
    exact hk
  | x :: y :: r, t, h, hk, u, hu => by
    simp only [altAll] at h
    obtain ⟨t', ht', rfl⟩ := map_some' h
    simp only [vtree] at hk
    rcases List.mem_cons.1 hu with rfl | hu
    · exact hk.1
    · exact altAll_mem (ts := y :: r) ht' hk.2 u hu
theorem mapM_mem {α β : Type} {f : α → Option β} : ∀ {l : List α} {r : List β}, l.mapM f = some r → ∀ x ∈ l, ∃ y ∈ r, f x = some y := by
  intro l
  induction l with
  | nil => intro r _ x hx; cases hx
  | cons x l ih =>
    intro r h y hy
    rw [List.mapM_cons] at h
    obtain ⟨z, hz, h⟩ := bind_some h
    obtain ⟨q, hq, h⟩ := bind_some h
    simp only [Option.pure_def, Option.some.injEq] at h
    subst h
    rcases List.mem_cons.1 hy with rfl | hy
    · exact ⟨z, List.mem_cons_self, hz⟩
    · obtain ⟨u, hu, e⟩ := ih hq y hy
      exact ⟨u, List.mem_cons_of_mem _ hu, e⟩
theorem runOp_of {o : Oper} {vo : VOp} {i : Nat} (hi : ops[i]? = some o) (hc : compOp P n ops o = some vo) (hn : n ≤ 999) {K : St → Prop} {K' : Act → World → Prop} (hs : Sim E n s a w)
    (hk : vop1 P vo s K) (hK : ∀ s' a' w', Sim E n s' a' w' → K s' → K' a' w') : runOp (still P) P ops i K' a w := by
  unfold runOp
  rw [hi]
  simp only
  by_cases hst : still P o = true
  · rw [if_pos hst]
    obtain ⟨v, hy, s', hs', hk'⟩ := vop1_still hc hn hs hk hst
    refine ⟨v, ?_, hK s' _ _ hs' hk'⟩
    rcases hy with ⟨hw, hv⟩ | hy
    · refine .inl ⟨hw, fun u e => hv u ?_⟩
      split
      · trivial
      · rw [e]; exact Ext.refl _
    · exact .inr hy
  · rw [if_neg hst]
    unfold wpOpR
    rw [hi]
    exact vop1_sound hc hn hs hk hK
theorem vtree_sound (hn : n ≤ 999) (hsel : Region.noSelect ops = true) {N : St → Prop} {Q : Exit → Act → World → Prop} (hQ : ∀ s a w, Sim E n s a w → N s → Q .normal a w) :
    ∀ (fuel : Nat) (listed : Array Bool) (t : VT) (s : St) (a : Act) (w : World), vtOf P n ops fuel listed = some t → Sim E n s a w → vtree P t s N →
      runAny (still P) P .any ops Q fuel listed a w := by
  intro fuel
  induction fuel with
  | zero =>
    intro listed t s a w ht hs hk
    simp only [vtOf] at ht
    split at ht
    · rename_i he
      cases ht
      exact ⟨List.isEmpty_iff.1 he, hQ _ _ _ hs hk⟩
    · cases ht
  | succ fuel ih =>
    intro listed t s a w ht hs hk
    have one : ∀ i u, (do let o ← ops[i]?; let vo ← compOp P n ops o; let t ← vtOf P n ops fuel (listed.setIfInBounds i true); pure (VT.op vo t)) = some u →
        ∃ o vo t', ops[i]? = some o ∧ compOp P n ops o = some vo ∧ vtOf P n ops fuel (listed.setIfInBounds i true) = some t' ∧ u = .op vo t' := by
      intro i u hu
      obtain ⟨o, h1, hu⟩ := bind_some hu
      obtain ⟨vo, h2, hu⟩ := bind_some hu
      obtain ⟨t', h3, hu⟩ := bind_some hu
      simp only [Option.pure_def, Option.some.injEq] at hu
      exact ⟨o, vo, t', h1, h2, h3, hu.symm⟩
    simp only [vtOf_succ] at ht
    split at ht
    · rename_i he
      cases ht
      have he := List.isEmpty_iff.1 he
      exact ⟨fun _ => hQ _ _ _ hs hk, by rw [he]; simp⟩
    · rename_i hne
      split at ht
      · rename_i i hfind
        obtain ⟨o, vo, t', h1, h2, h3, rfl⟩ := one i t ht
        have htk := List.find?_some hfind
        have hready : i ∈ Region.ready .any ops listed := List.mem_of_find?_eq_some hfind
        unfold takes at htk
        rw [h1] at htk
        simp only [Bool.and_eq_true, List.all_eq_true, List.mem_range] at htk
        obtain ⟨⟨hst, hD⟩, hfree⟩ := htk
        simp only [vtree] at hk
        obtain ⟨v, hy, s', hs', hk'⟩ := vop1_still h2 hn hs hk hst
        refine runAny_first (D := depsOf ops i) h1 (Region.noSelect_spec hsel) (fun j hj oj hoj => ?_) fuel listed a w
          (fun j hj => by simpa using (hD j hj).1) (by split <;> first | trivial | exact Ext.refl _) (fun j oj hoj hji hun hno => ?_) hready hy (ih _ t' s' _ _ h3 hs' hk')
        · have := (hD j hj).2
          rw [hoj] at this
          obtain ⟨e, he, hb⟩ := Array.any_eq_true'.1 this
          simp only [Bool.and_eq_true, Bool.or_eq_true, beq_iff_eq, List.contains_iff_mem] at hb
          exact ⟨e, he, hb.1, hb.2⟩
        · have := hfree j (Array.getElem?_eq_some_iff.1 hoj).1
          rw [hoj] at this
          simp only [Bool.or_eq_true, beq_iff_eq, hji, hun, Bool.false_eq_true, List.contains_iff_mem, hno, false_or, Bool.and_eq_true] at this
          refine ⟨this.1, ?_⟩
          rcases this.2 with (hp | hs) | hg
          · left; rw [if_pos hp]; exact fun _ => trivial
          · exact .inr (.inl hs)
          · refine .inr (.inr fun a w1 n w2 hI hr => ?_)
            obtain ⟨q1, q2⟩ := grows_run hg a w1 n w2 hr
            refine ⟨?_, q2⟩
            split at hI
            · rename_i hp; rw [if_pos hp]; trivial
            · rename_i hp; rw [if_neg hp]; exact hI.trans q1
      · rename_i hfind
        obtain ⟨ts, hts, hal⟩ := Option.bind_eq_some_iff.1 ht
        refine ⟨fun h => absurd (List.isEmpty_iff.2 h) hne, fun i hi => ?_⟩
        obtain ⟨u, hu, hui⟩ := mapM_mem hts i hi
        obtain ⟨o, vo, t', h1, h2, h3, rfl⟩ := one i u hui
        have hk' := altAll_mem hal hk _ hu
        simp only [vtree] at hk'
        exact runOp_of h1 h2 hn hs hk' (fun s' a' w' hs' hk'' => ih _ t' s' a' w' h3 hs' hk'')
end
end Go.Vm
end

/- The abstract machine's code: what is owed of a piece of a function's code, and how it is paid. -/
section
namespace Go.Vm
def noDefer (ops : Array Oper) : Bool := ops.toList.all fun o => match o.op with
  | .defer _ => false
  | _ => true
theorem noDefer_ok {ops : Array Oper} (h : noDefer ops = true) : ∀ o ∈ ops.toList, ∀ c, o.op ≠ .defer c := by
  intro o ho c hc
  have := List.all_eq_true.1 h o ho
  rw [hc] at this
  cases this
theorem comp_nodefer {P : Program} {n : Nat} {ops : Array Oper} : ∀ {l : List Oper} {vl : List VOp}, l.mapM (compOp P n ops) = some vl → ∀ o ∈ l, ∀ c, o.op ≠ .defer c := by
  intro l vl h o ho c hc
  obtain ⟨vo, _, h⟩ := mapM_mem h o ho
  unfold compOp at h
  obtain ⟨g, _, h⟩ := bind_some h
  obtain ⟨r, hr, _⟩ := bind_some h
  obtain ⟨dst, op, ty, pos, af, gd⟩ := o
  simp only at hc
  subst hc
  unfold comp at hr
  cases hr
def compReg (P : Program) (n : Nat) (ops : Array Oper) (draw : Bool) : Option VCode :=
  if draw then
    if P.follows .mixedOrders && Region.noSelect ops && noDefer ops then (vtOf P n ops ops.size (Array.replicate ops.size false)).map .any else none
  else (ops.toList.mapM (compOp P n ops)).map .reg
theorem compReg_shape {P : Program} {n : Nat} {ops : Array Oper} {draw : Bool} {c : VCode} (h : compReg P n ops draw = some c) :
    (∃ t, c = .any t ∧ draw = true ∧ P.follows .mixedOrders = true ∧ Region.noSelect ops = true ∧ vtOf P n ops ops.size (Array.replicate ops.size false) = some t ∧ ∀ o ∈ ops.toList, ∀ c, o.op ≠ .defer c) ∨
    (∃ l, c = .reg l ∧ draw = false ∧ ops.toList.mapM (compOp P n ops) = some l) := by
  unfold compReg at h
  cases draw with
  | true =>
    rw [if_pos rfl] at h
    split at h
    · rename_i hm
      simp only [Bool.and_eq_true] at hm
      obtain ⟨t, ht, rfl⟩ := map_some' h
      exact .inl ⟨t, rfl, rfl, hm.1.1, hm.1.2, ht, noDefer_ok hm.2⟩
    · cases h
  | false =>
    rw [if_neg (by simp)] at h
    obtain ⟨l, hl, rfl⟩ := map_some' h
    exact .inr ⟨l, rfl, rfl, hl⟩
def gotoOf : Code → Option Nat
  | .goto l => some l
  | .seq a b => (gotoOf a).or (gotoOf b)
  | .cond _ a b => (gotoOf a).or (gotoOf b)
  | .block _ c => gotoOf c
  | .loop c => gotoOf c
  | _ => none
def compCode0 (P : Program) (n : Nat) : Code → Option VCode
  | .skip => some .skip
  | .region _ ops draw => compReg P n ops draw
  | .seq a b => do pure (.seq (← compCode0 P n a) (← compCode0 P n b))
  | .cond x t e => do pure (.cond x (← compCode0 P n t) (← compCode0 P n e))
  | .block id c => do pure (.block id (← compCode0 P n c))
  | .loop c => do pure (.loop (← compCode0 P n c))
  | .exit id => some (.exit id)
  | .ret => some .ret
  | .label _ => some .skip
  | .goto l => some (.goto l)
  | _ => none
def scopeOf (P : Program) (n : Nat) (c : Code) (v : VCode) : Option VCode := match gotoOf c with
  | none => some (.scope v)
  | some l => match findLabel c l with
    | some rest => (compCode0 P n rest).map fun r => .scopeL v l r
    | none => none
def VCode.rnd : VCode → Bool
  | .seq x y => x.rnd && y.rnd
  | .cond _ x y => x.rnd && y.rnd
  | .block _ x => x.rnd
  | .loop x => x.rnd
  | .scope _ => false
  | .scopeL .. => false
  | .rng .. => false
  | _ => true
def rngOf (n : Nat) (g : Operand) (ps : List Nat) (x y : VCode) : Option VCode := if x.rnd && y.rnd && ps.all (· < n) then some (.rng g ps x y) else none
def compCode (P : Program) (n : Nat) : Code → Option VCode
  | .skip => some .skip
  | .region _ ops draw => compReg P n ops draw
  | .seq a b => do pure (.seq (← compCode P n a) (← compCode P n b))
  | .cond x t e => do pure (.cond x (← compCode P n t) (← compCode P n e))
  | .block id c => do pure (.block id (← compCode P n c))
  | .loop c => do pure (.loop (← compCode P n c))
  | .exit id => some (.exit id)
  | .ret => some .ret
  | .label _ => some .skip
  | .goto l => some (.goto l)
  | .scope c => do scopeOf P n c (← compCode P n c)
  | .rangeFunc g ps x y => do rngOf n g ps.toList (← compCode P n x) (← compCode P n y)
  | .refuse _ => none
theorem rngOf_shape {n : Nat} {g : Operand} {ps : List Nat} {x y r : VCode} (h : rngOf n g ps x y = some r) : r = .rng g ps x y ∧ x.rnd = true ∧ y.rnd = true ∧ ps.all (· < n) = true := by
  unfold rngOf at h
  split at h
  · rename_i hxy
    simp only [Bool.and_eq_true] at hxy
    cases h
    exact ⟨rfl, hxy.1.1, hxy.1.2, hxy.2⟩
  · cases h
theorem rngOf_no {n : Nat} {g : Operand} {ps : List Nat} {x y r : VCode} (h : rngOf n g ps x y = some r) (h1 : ∀ g ps x y, r ≠ .rng g ps x y) : False := h1 _ _ _ _ (rngOf_shape h).1
theorem scopeOf_shape {P : Program} {n : Nat} {c : Code} {v r : VCode} (h : scopeOf P n c v = some r) : r = .scope v ∨ ∃ l q, r = .scopeL v l q := by
  unfold scopeOf at h
  split at h
  · simp only [Option.some.injEq] at h; exact .inl h.symm
  · split at h
    · obtain ⟨q, _, rfl⟩ := map_some' h; exact .inr ⟨_, q, rfl⟩
    · cases h
theorem scopeOf_no {P : Program} {n : Nat} {c : Code} {v r : VCode} (h : scopeOf P n c v = some r) (h1 : ∀ x, r ≠ .scope x) (h2 : ∀ x l q, r ≠ .scopeL x l q) : False := by
  rcases scopeOf_shape h with h | ⟨_, _, h⟩
  · exact h1 _ h
  · exact h2 _ _ _ h
theorem compCode0_comp {P : Program} {n : Nat} : ∀ (c : Code) (v : VCode), compCode0 P n c = some v → compCode P n c = some v := by
  intro c
  induction c with
  | seq a b iha ihb =>
    intro v h
    simp only [compCode0] at h
    obtain ⟨x, hx, h⟩ := bind_some h
    obtain ⟨y, hy, h⟩ := bind_some h
    simp only [compCode, iha x hx, ihb y hy]
    exact h
  | cond x a b iha ihb =>
    intro v h
    simp only [compCode0] at h
    obtain ⟨x, hx, h⟩ := bind_some h
    obtain ⟨y, hy, h⟩ := bind_some h
    simp only [compCode, iha x hx, ihb y hy]
    exact h
  | block i a iha =>
    intro v h
    simp only [compCode0] at h
    obtain ⟨x, hx, h⟩ := bind_some h
    simp only [compCode, iha x hx]
    exact h
  | loop a iha =>
    intro v h
    simp only [compCode0] at h
    obtain ⟨x, hx, h⟩ := bind_some h
    simp only [compCode, iha x hx]
    exact h
  | scope a iha => intro v h; cases h
  | rangeFunc => intro v h; cases h
  | refuse => intro v h; cases h
  | _ => intro v h; exact h
structure Outs where
  n : St → Prop
  x : Nat → St → Prop
  r : St → Prop
  g : Nat → St → Prop
def Post (E : En) (n : Nat) (O : Outs) : Exit → Act → World → Prop
  | .normal, a, w => ∃ s, Sim E n s a w ∧ O.n s
  | .exit id, a, w => ∃ s, Sim E n s a w ∧ O.x id s
  | .ret, a, w => ∃ s, Sim E n s a w ∧ O.r s
  | .goto l, a, w => ∃ s, Sim E n s a w ∧ O.g l s
  | .panic _, _, _ => False
  | .outgrown, _, _ => False
def VC (P : Program) (n : Nat) (c : VCode) (s : St) (O : Outs) : Prop :=
  ∀ code, compCode P n code = some c → ∀ (ro : Option Nat) (m : Nat), (ro = none ∨ c.rnd = true) → ∀ E a w, Sim E n s a w → code.wpIn (wideR ro) m P (Post E n O) a w
section
variable {P : Program} {n : Nat} {s : St} {O : Outs}
theorem VC.le {c : VCode} {s' : St} (hl : Le s s') (h : VC P n c s' O) : VC P n c s O := fun code hc ro m hro E a w hs => h code hc ro m hro E a w (hl E n a w hs)
theorem Post.mono {E : En} {O' : Outs} (h1 : ∀ s, O.n s → O'.n s) (h2 : ∀ i s, O.x i s → O'.x i s) (h3 : ∀ s, O.r s → O'.r s) (h4 : ∀ i s, O.g i s → O'.g i s) :
    ∀ e a w, Post E n O e a w → Post E n O' e a w := by
  intro e a w h
  cases e with
  | normal => obtain ⟨s, hs, hk⟩ := h; exact ⟨s, hs, h1 _ hk⟩
  | exit id => obtain ⟨s, hs, hk⟩ := h; exact ⟨s, hs, h2 _ _ hk⟩
  | ret => obtain ⟨s, hs, hk⟩ := h; exact ⟨s, hs, h3 _ hk⟩
  | goto l => obtain ⟨s, hs, hk⟩ := h; exact ⟨s, hs, h4 _ _ hk⟩
  | panic => exact h
  | outgrown => exact h
theorem VC.mono {c : VCode} {O' : Outs} (h : VC P n c s O) (h1 : ∀ s, O.n s → O'.n s) (h2 : ∀ i s, O.x i s → O'.x i s) (h3 : ∀ s, O.r s → O'.r s) (h4 : ∀ i s, O.g i s → O'.g i s) : VC P n c s O' :=
  fun code hc ro m hro E a w hs => Code.wpIn_mono (Post.mono h1 h2 h3 h4) (h code hc ro m hro E a w hs)
theorem vc_skip (h : O.n s) : VC P n .skip s O := by
  intro code hc ro m hro E a w hs
  cases code <;> simp only [compCode] at hc <;> (first | cases hc | skip)
  · exact wpIn_skip ⟨s, hs, h⟩
  all_goals first
    | exact wpIn_label ⟨s, hs, h⟩
    | (obtain ⟨_, _, hc⟩ := bind_some hc; first | cases hc | exact (scopeOf_no hc (fun _ h => by cases h) (fun _ _ _ h => by cases h)).elim | (obtain ⟨_, _, hc⟩ := bind_some hc; first | cases hc | exact (rngOf_no hc (fun _ _ _ _ h => by cases h)).elim | (obtain ⟨_, _, hc⟩ := bind_some hc; cases hc)))
    | (rcases compReg_shape hc with ⟨_, hc, _⟩ | ⟨_, hc, _⟩ <;> cases hc)
theorem vc_exit {id : Nat} (h : O.x id s) : VC P n (.exit id) s O := by
  intro code hc ro m hro E a w hs
  cases code <;> simp only [compCode] at hc <;> (first | cases hc | skip)
  all_goals first
    | exact wpIn_exit ⟨s, hs, h⟩
    | (obtain ⟨_, _, hc⟩ := bind_some hc; first | cases hc | exact (scopeOf_no hc (fun _ h => by cases h) (fun _ _ _ h => by cases h)).elim | (obtain ⟨_, _, hc⟩ := bind_some hc; first | cases hc | exact (rngOf_no hc (fun _ _ _ _ h => by cases h)).elim | (obtain ⟨_, _, hc⟩ := bind_some hc; cases hc)))
    | (rcases compReg_shape hc with ⟨_, hc, _⟩ | ⟨_, hc, _⟩ <;> cases hc)
theorem vc_ret (h : O.r s) : VC P n .ret s O := by
  intro code hc ro m hro E a w hs
  cases code <;> simp only [compCode] at hc <;> (first | cases hc | skip)
  all_goals first
    | exact wpIn_ret ⟨s, hs, h⟩
    | (obtain ⟨_, _, hc⟩ := bind_some hc; first | cases hc | exact (scopeOf_no hc (fun _ h => by cases h) (fun _ _ _ h => by cases h)).elim | (obtain ⟨_, _, hc⟩ := bind_some hc; first | cases hc | exact (rngOf_no hc (fun _ _ _ _ h => by cases h)).elim | (obtain ⟨_, _, hc⟩ := bind_some hc; cases hc)))
    | (rcases compReg_shape hc with ⟨_, hc, _⟩ | ⟨_, hc, _⟩ <;> cases hc)
theorem vc_goto {l : Nat} (h : O.g l s) : VC P n (.goto l) s O := by
  intro code hc ro m hro E a w hs
  cases code <;> simp only [compCode] at hc <;> (first | cases hc | skip)
  all_goals first
    | exact wpIn_goto ⟨s, hs, h⟩
    | (obtain ⟨_, _, hc⟩ := bind_some hc; first | cases hc | exact (scopeOf_no hc (fun _ h => by cases h) (fun _ _ _ h => by cases h)).elim | (obtain ⟨_, _, hc⟩ := bind_some hc; first | cases hc | exact (rngOf_no hc (fun _ _ _ _ h => by cases h)).elim | (obtain ⟨_, _, hc⟩ := bind_some hc; cases hc)))
    | (rcases compReg_shape hc with ⟨_, hc, _⟩ | ⟨_, hc, _⟩ <;> cases hc)
theorem comp_seq {x y : VCode} {code : Code} (hc : compCode P n code = some (.seq x y)) : ∃ a b, code = .seq a b ∧ compCode P n a = some x ∧ compCode P n b = some y := by
  cases code <;> simp only [compCode] at hc <;> (first | cases hc | skip)
  all_goals first
    | (obtain ⟨x', hx, hc⟩ := bind_some hc; obtain ⟨y', hy, hc⟩ := bind_some hc; simp only [Option.pure_def, Option.some.injEq, VCode.seq.injEq] at hc; obtain ⟨rfl, rfl⟩ := hc; exact ⟨_, _, rfl, hx, hy⟩)
    | (obtain ⟨_, _, hc⟩ := bind_some hc; first | cases hc | exact (scopeOf_no hc (fun _ h => by cases h) (fun _ _ _ h => by cases h)).elim | (obtain ⟨_, _, hc⟩ := bind_some hc; first | cases hc | exact (rngOf_no hc (fun _ _ _ _ h => by cases h)).elim | (obtain ⟨_, _, hc⟩ := bind_some hc; cases hc)))
    | (rcases compReg_shape hc with ⟨_, hc, _⟩ | ⟨_, hc, _⟩ <;> cases hc)
theorem vc_seq {x y : VCode} (h : VC P n x s { O with n := fun s' => VC P n y s' O }) : VC P n (.seq x y) s O := by
  intro code hc ro m hro E a w hs
  obtain ⟨c1, c2, rfl, h1, h2⟩ := comp_seq hc
  have hr1 : ro = none ∨ x.rnd = true := hro.imp id fun h => (by simp only [VCode.rnd, Bool.and_eq_true] at h; exact h.1)
  have hr2 : ro = none ∨ y.rnd = true := hro.imp id fun h => (by simp only [VCode.rnd, Bool.and_eq_true] at h; exact h.2)
  refine wpIn_seq (Code.wpIn_mono ?_ (h c1 h1 ro m hr1 E a w hs))
  intro e a' w' hp
  cases e with
  | normal => obtain ⟨s', hs', hk⟩ := hp; exact hk c2 h2 ro m hr2 E a' w' hs'
  | _ => exact hp
theorem vc_reg {ops : List VOp} (hn : n ≤ 999) (h : vops P ops s O.n) : VC P n (.reg ops) s O := by
  intro code hc ro m hro E a w hs
  cases code <;> simp only [compCode] at hc <;> (first | cases hc | skip)
  · rename_i id os draw
    rcases compReg_shape hc with ⟨_, e, _⟩ | ⟨l, e, hd, hl⟩
    · cases e
    · cases e
      subst hd
      exact wpIn_region_list (wpListR_in ro m _ (comp_nodefer hl) _ _ (vops_sound hn (Q := Post E n O) (fun s a w hs hk => ⟨s, hs, hk⟩) os.toList ops s a w hl hs h))
  all_goals (obtain ⟨_, _, hc⟩ := bind_some hc; first | cases hc | exact (scopeOf_no hc (fun _ h => by cases h) (fun _ _ _ h => by cases h)).elim | (obtain ⟨_, _, hc⟩ := bind_some hc; first | cases hc | exact (rngOf_no hc (fun _ _ _ _ h => by cases h)).elim | (obtain ⟨_, _, hc⟩ := bind_some hc; cases hc)))
theorem vc_any {t : VT} (hn : n ≤ 999) (h : vtree P t s O.n) : VC P n (.any t) s O := by
  intro code hc ro m hro E a w hs
  cases code <;> simp only [compCode] at hc <;> (first | cases hc | skip)
  · rename_i id os draw
    rcases compReg_shape hc with ⟨t', e, hd, hm, hsel, hvt, hnd⟩ | ⟨_, e, _⟩
    · cases e
      subst hd
      obtain ⟨ψ, hsim⟩ := hs
      refine wpIn_region_any hm (runAny_wp hnd ro m _ _ _ _ (vtree_sound hn hsel (Q := Post E n O) (fun s a w hs hk => ⟨s, hs, hk⟩) _ _ t s a _ hvt ⟨ψ, ?_⟩ h))
      exact hsim.ext (Ext.drew w)
    · cases e
  all_goals (obtain ⟨_, _, hc⟩ := bind_some hc; first | cases hc | exact (scopeOf_no hc (fun _ h => by cases h) (fun _ _ _ h => by cases h)).elim | (obtain ⟨_, _, hc⟩ := bind_some hc; first | cases hc | exact (rngOf_no hc (fun _ _ _ _ h => by cases h)).elim | (obtain ⟨_, _, hc⟩ := bind_some hc; cases hc)))
theorem vc_cond {x : Operand} {t e : VCode} {b : Bool} (hx : s.ev x = .iv (.v (.bool b))) (ht : b = true → VC P n t s O) (he : b = false → VC P n e s O) : VC P n (.cond x t e) s O := by
  intro code hc ro m hro E a w hs
  cases code <;> simp only [compCode] at hc <;> (first | cases hc | skip)
  case cond x' t' e' =>
    obtain ⟨t1, h1, hc⟩ := bind_some hc
    obtain ⟨e1, h2, hc⟩ := bind_some hc
    simp only [Option.pure_def, Option.some.injEq, VCode.cond.injEq] at hc
    obtain ⟨rfl, rfl, rfl⟩ := hc
    obtain ⟨ψ, h⟩ := hs
    have hv := h.ev x'
    rw [hx] at hv
    have hv := inv_v hv
    cases b
    · exact wpIn_cond_false hv (he rfl e' h2 ro m (hro.imp id fun h => (by simp only [VCode.rnd, Bool.and_eq_true] at h; exact h.2)) E a w ⟨ψ, h⟩)
    · exact wpIn_cond_true hv (ht rfl t' h1 ro m (hro.imp id fun h => (by simp only [VCode.rnd, Bool.and_eq_true] at h; exact h.1)) E a w ⟨ψ, h⟩)
  all_goals first
    | (obtain ⟨_, _, hc⟩ := bind_some hc; first | cases hc | exact (scopeOf_no hc (fun _ h => by cases h) (fun _ _ _ h => by cases h)).elim | (obtain ⟨_, _, hc⟩ := bind_some hc; first | cases hc | exact (rngOf_no hc (fun _ _ _ _ h => by cases h)).elim | (obtain ⟨_, _, hc⟩ := bind_some hc; cases hc)))
    | (rcases compReg_shape hc with ⟨_, hc, _⟩ | ⟨_, hc, _⟩ <;> cases hc)
theorem vc_block {id : Nat} {c : VCode} (h : VC P n c s { O with x := fun j s' => if j = id then O.n s' else O.x j s' }) : VC P n (.block id c) s O := by
  intro code hc ro m hro E a w hs
  cases code <;> simp only [compCode] at hc <;> (first | cases hc | skip)
  case block id' c' =>
    obtain ⟨c1, h1, hc⟩ := bind_some hc
    simp only [Option.pure_def, Option.some.injEq, VCode.block.injEq] at hc
    obtain ⟨rfl, rfl⟩ := hc
    refine wpIn_block (Code.wpIn_mono ?_ (h c' h1 ro m hro E a w hs))
    intro e a' w' hp
    cases e with
    | exit j =>
      obtain ⟨s', hs', hk⟩ := hp
      change (if j = id' then O.n s' else O.x j s') at hk
      by_cases hj : j = id'
      · rw [if_pos hj] at hk; simp only [Exit.inBlock, if_pos hj]; exact ⟨s', hs', hk⟩
      · rw [if_neg hj] at hk; simp only [Exit.inBlock, if_neg hj]; exact ⟨s', hs', hk⟩
    | _ => exact hp
  all_goals first
    | (obtain ⟨_, _, hc⟩ := bind_some hc; first | cases hc | exact (scopeOf_no hc (fun _ h => by cases h) (fun _ _ _ h => by cases h)).elim | (obtain ⟨_, _, hc⟩ := bind_some hc; first | cases hc | exact (rngOf_no hc (fun _ _ _ _ h => by cases h)).elim | (obtain ⟨_, _, hc⟩ := bind_some hc; cases hc)))
    | (rcases compReg_shape hc with ⟨_, hc, _⟩ | ⟨_, hc, _⟩ <;> cases hc)
theorem vc_scope {c : VCode} (h : VC P n c s { O with g := fun _ _ => False }) : VC P n (.scope c) s O := by
  intro code hc ro m hro E a w hs
  cases code <;> simp only [compCode] at hc <;> (first | cases hc | skip)
  case scope c' =>
    obtain ⟨c1, h1, hc⟩ := bind_some hc
    rcases scopeOf_shape hc with hc | ⟨_, _, hc⟩
    rotate_left
    · cases hc
    simp only [VCode.scope.injEq] at hc
    subst hc
    obtain rfl : ro = none := hro.resolve_right (by simp [VCode.rnd])
    refine wpIn_wide.2 (wp_scope_straight ((wpIn_wide (n := m)).1 (Code.wpIn_mono ?_ (h c' h1 none m (.inl rfl) E a w hs))))
    intro e a' w' hp
    cases e with
    | goto l => obtain ⟨_, _, hk⟩ := hp; exact hk
    | _ => exact hp
  all_goals first
    | (obtain ⟨_, _, hc⟩ := bind_some hc; first | cases hc | exact (scopeOf_no hc (fun _ h => by cases h) (fun _ _ _ h => by cases h)).elim | (obtain ⟨_, _, hc⟩ := bind_some hc; first | cases hc | exact (rngOf_no hc (fun _ _ _ _ h => by cases h)).elim | (obtain ⟨_, _, hc⟩ := bind_some hc; cases hc)))
    | (rcases compReg_shape hc with ⟨_, hc, _⟩ | ⟨_, hc, _⟩ <;> cases hc)
theorem vc_scopeL {c r : VCode} {l : Nat} (J : St → Prop) (h : VC P n c s { O with g := fun l' s' => l' = l ∧ J s' }) (h2 : ∀ s', J s' → VC P n r s' { O with g := fun _ _ => False }) : VC P n (.scopeL c l r) s O := by
  intro code hc ro m hro E a w hs
  cases code <;> simp only [compCode] at hc <;> (first | cases hc | skip)
  case scope c' =>
    obtain ⟨c1, h1, hc⟩ := bind_some hc
    unfold scopeOf at hc
    split at hc
    · cases hc
    · rename_i l' hl'
      split at hc
      · rename_i rest hf
        obtain ⟨q, hq, hc⟩ := map_some' hc
        simp only [VCode.scopeL.injEq] at hc
        obtain ⟨rfl, rfl, rfl⟩ := hc
        obtain rfl : ro = none := hro.resolve_right (by simp [VCode.rnd])
        refine wpIn_wide.2 (wp_scope_jumps l' (fun a w => ∃ s', Sim E n s' a w ∧ J s') (fun _ _ => 0) hf ((wpIn_wide (n := m)).1 (Code.wpIn_mono ?_ (h c' h1 none m (.inl rfl) E a w hs))) ?_)
        · intro e a' w' hp
          cases e with
          | goto l2 => obtain ⟨s', hs', rfl, hk⟩ := hp; exact ⟨rfl, s', hs', hk⟩
          | _ => exact hp
        · rintro a' w' ⟨s', hs', hk⟩
          refine (wpIn_wide (n := m)).1 (Code.wpIn_mono ?_ (h2 s' hk rest (compCode0_comp _ _ hq) none m (.inl rfl) E a' w' hs'))
          intro e a2 w2 hp
          cases e with
          | goto l2 => obtain ⟨_, _, hk⟩ := hp; exact hk.elim
          | _ => exact hp
      · cases hc
  all_goals first
    | (obtain ⟨_, _, hc⟩ := bind_some hc; first | cases hc | (obtain ⟨_, _, hc⟩ := bind_some hc; first | cases hc | exact (rngOf_no hc (fun _ _ _ _ h => by cases h)).elim | (obtain ⟨_, _, hc⟩ := bind_some hc; cases hc)))
    | (rcases compReg_shape hc with ⟨_, hc, _⟩ | ⟨_, hc, _⟩ <;> cases hc)
theorem least {p : Nat → Prop} (h : ∃ k, p k) : ∃ k, p k ∧ ∀ m, p m → k ≤ m := by
  obtain ⟨k, hk⟩ := h
  induction k using Nat.strongRecOn with
  | ind k ih =>
    by_cases he : ∃ m, m < k ∧ p m
    · obtain ⟨m, hm, hp⟩ := he; exact ih m hm hp
    · exact ⟨k, hk, fun m hp => Nat.le_of_not_lt fun hl => he ⟨m, hl, hp⟩⟩
theorem vc_loop {c : VCode} (I : Nat → St → Prop) (h0 : ∃ k s', Le s s' ∧ I k s')
    (round : ∀ k s', I k s' → VC P n c s' { O with n := fun s2 => ∃ m s3, m < k ∧ Le s2 s3 ∧ I m s3 }) : VC P n (.loop c) s O := by
  intro code hc ro m hro E a w hs
  cases code <;> simp only [compCode] at hc <;> (first | cases hc | skip)
  case loop c' =>
    obtain ⟨c1, h1, hc⟩ := bind_some hc
    simp only [Option.pure_def, Option.some.injEq, VCode.loop.injEq] at hc
    subst hc
    obtain ⟨k0, s0, hl0, hI0⟩ := h0
    classical
    let Inv : Act → World → Prop := fun a' w' => ∃ k s', Sim E n s' a' w' ∧ I k s'
    let μ : Act → World → Nat := fun a' w' => if h : ∃ k, ∃ s', Sim E n s' a' w' ∧ I k s' then Classical.choose (least h) else 0
    refine wpIn_loop Inv μ ⟨k0, s0, hl0 E n a w hs, hI0⟩ ?_
    intro a' w' hI
    have hex : ∃ k, ∃ s', Sim E n s' a' w' ∧ I k s' := hI
    obtain ⟨⟨s', hs', hIk⟩, _⟩ := Classical.choose_spec (least hex)
    have hμ : μ a' w' = Classical.choose (least hex) := dif_pos hex
    refine Code.wpIn_mono ?_ (round (Classical.choose (least hex)) s' hIk c' h1 ro m hro E a' w' hs')
    intro e a2 w2 hp
    cases e with
    | normal =>
      obtain ⟨s2, hs2, m, s3, hm, hl, hI3⟩ := hp
      have hs3 := hl E n a2 w2 hs2
      have hex2 : ∃ k, ∃ s', Sim E n s' a2 w2 ∧ I k s' := ⟨m, s3, hs3, hI3⟩
      refine ⟨⟨m, s3, hs3, hI3⟩, ?_⟩
      rw [hμ]
      have : μ a2 w2 = Classical.choose (least hex2) := dif_pos hex2
      rw [this]
      exact Nat.lt_of_le_of_lt ((Classical.choose_spec (least hex2)).2 _ ⟨s3, hs3, hI3⟩) hm
    | _ => exact hp
  all_goals first
    | (obtain ⟨_, _, hc⟩ := bind_some hc; first | cases hc | exact (scopeOf_no hc (fun _ h => by cases h) (fun _ _ _ h => by cases h)).elim | (obtain ⟨_, _, hc⟩ := bind_some hc; first | cases hc | exact (rngOf_no hc (fun _ _ _ _ h => by cases h)).elim | (obtain ⟨_, _, hc⟩ := bind_some hc; cases hc)))
    | (rcases compReg_shape hc with ⟨_, hc, _⟩ | ⟨_, hc, _⟩ <;> cases hc)
end
end Go.Vm
end

/- A function: what its code comes to is what a call of it does. -/
section
namespace Go.Vm
def argFr : Nat → List AV → List (Nat × AV)
  | _, [] => []
  | i, x :: r => (i, x) :: argFr (i + 1) r
theorem look_argFr : ∀ (xs : List AV) (i t : Nat), look (argFr i xs) t = if i ≤ t then xs[t - i]? else none := by
  intro xs
  induction xs with
  | nil => intro i t; simp [argFr, look]
  | cons x xs ih =>
    intro i t
    simp only [argFr, look, ih]
    by_cases h : i = t
    · subst h; simp
    · rw [if_neg h]
      by_cases h2 : i ≤ t
      · rw [if_pos (by omega), if_pos h2, show t - i = (t - (i + 1)) + 1 from by omega, List.getElem?_cons_succ]
      · rw [if_neg (by omega), if_neg h2]
inductive VRes where
  | tmp (t : Nat)
  | cell (x : Nat) (n : Option Nat)
  deriving Inhabited, DecidableEq
def ldOp (x : Nat) (t : TypeId) : Oper := ⟨some x, .load t (.tmp x), t, "", #[], none⟩
def compRes (P : Program) : ResultVar → Option VRes
  | .tmp t => some (.tmp t)
  | .cell x t => match comp P (ldOp x t) with
    | some (.ld (.tmp y) k) => if y = x then some (.cell x k) else none
    | _ => none
def resV (s : St) : VRes → Option AV
  | .tmp t => some (s.get t)
  | .cell x none => match s.get x with
    | .ptr id off => match look s.hp id with
      | some (.box cs) => cs[off]?
      | _ => none
    | _ => none
  | .cell x (some n) => match s.get x with
    | .ptr id off => match look s.hp id with
      | some (.box cs) => if off + n ≤ cs.length then some (.agg ((cs.drop off).take n)) else none
      | _ => none
    | _ => none
def resOf : List AV → AV
  | [x] => x
  | l => .tup l
def resSem (tmps : Array Value) : ResultVar → Sem Value
  | .tmp t => pure (tmps.getD t undef)
  | .cell a t => do loadVar t (← asAddr (tmps.getD a undef))
def IV.flat : IV → Bool
  | .v _ => true
  | .lst _ xs => xs.isEmpty
  | _ => false
def CapV.flat : CapV → Bool
  | .ptr _ _ => true
  | .val x => x.flat
def AV.flat1 : AV → Bool
  | .iv x => x.flat
  | .fn _ a b => a.all CapV.flat && b.all CapV.flat
  | .agg _ => false
  | .tup _ => false
  | _ => true
def AV.flatc : AV → Bool
  | .agg cs => cs.all AV.flat1
  | x => x.flat1
def AV.flat : AV → Bool
  | .tup vs => vs.all AV.flatc
  | x => x.flatc
def Ob.flat : Ob → Prop
  | .box cs => cs.all AV.flat1 = true
  | .list _ xs => ∀ x ∈ xs, ∀ y ∈ x, y.flat = true
  | .map _ g => ∀ k c, g k = some c → ∀ x ∈ c, x.flat = true
  | .mapS _ g _ _ => ∀ k c, g k = some c → ∀ x ∈ c, x.flat = true
  | .lent _ _ xs => ∀ x ∈ xs, ∀ y ∈ x, y.flat = true
  | .mapo _ _ g _ => ∀ k xs, g k = some xs → ∀ x ∈ xs, ∀ y ∈ x, y.flat = true
  | .listo _ xs _ => ∀ z ∈ xs, ∀ x ∈ z, ∀ y ∈ x, y.flat = true
  | .iter .. => False
  | .gh .. => False
theorem RIV.flat {A A' : Nat → Prop} {w : World} {x : IV} {v : Value} (h : RIV A w x v) (hf : x.flat = true) : RIV A' w x v := by
  cases h with
  | v x h1 => exact .v _ h1
  | lnil sz => exact .lnil sz
  | lst sz xs b off cap a vs ha hs hcap hc hr =>
    simp only [IV.flat, List.isEmpty_iff] at hf
    subst hf
    exact .lst sz [] b off cap a vs ha hs hcap (fun i j c hc => by simp [at2] at hc) (fun i j c hc => by simp [at2] at hc)
  | pt => cases hf
  | mp => cases hf
  | mnil => cases hf
theorem RAV.flat1 {A A' : Nat → Prop} {ψ : Pl} {H : Hp} {w : World} {x : AV} {v : Value} (h : RAV A ψ H w x v) (hf : x.flat1 = true) : RAV A' ψ H w x v := by
  cases h with
  | iv x v h => exact .iv x v (h.flat hf)
  | nil sz => exact .nil sz
  | sl0 id sz o n ho he hb => exact .sl0 id sz o n ho he hb
  | sl id sz lo len b k cap a o n ho he hx hb ha hlc hk hm => exact .sl id sz lo len b k cap a o n ho he hx hb ha hlc hk hm
  | ptr id off b k o ho hb => exact .ptr id off b k o ho hb
  | ep id sz i off b k o n ho he hi hb => exact .ep id sz i off b k o n ho he hi hb
  | mpr id b k o ho hb => exact .mpr id b k o ho hb
  | fn f first caps vf vc g1 g2 h1 h2 =>
    simp only [AV.flat1, Bool.and_eq_true, List.all_eq_true] at hf
    have hc : ∀ {c : CapV} {v : Value}, c.flat = true → RCap A ψ H w c v → RCap A' ψ H w c v := by
      intro c v hf h
      cases h with
      | ptr id off b k o ho hb => exact .ptr id off b k o ho hb
      | val x v h => exact .val x v (h.flat hf)
    exact .fn f first caps vf vc g1 g2 (fun i c h => hc (hf.1 c (List.mem_of_getElem? h)) (h1 i c h)) (fun i c h => hc (hf.2 c (List.mem_of_getElem? h)) (h2 i c h))
  | agg => cases hf
  | tup => cases hf
  | un => exact .un
  | junk v => exact .junk v
theorem RAV.flatc {A A' : Nat → Prop} {ψ : Pl} {H : Hp} {w : World} {x : AV} {v : Value} (h : RAV A ψ H w x v) (hf : x.flatc = true) : RAV A' ψ H w x v := by
  cases x with
  | agg cs =>
    cases h with
    | agg cs vs hl h => exact .agg cs vs hl fun i c hc => (h i c hc).flat1 (List.all_eq_true.1 hf c (List.mem_of_getElem? hc))
  | _ => exact h.flat1 hf
theorem RAV.flat {A A' : Nat → Prop} {ψ : Pl} {H : Hp} {w : World} {x : AV} {v : Value} (h : RAV A ψ H w x v) (hf : x.flat = true) : RAV A' ψ H w x v := by
  cases x with
  | tup cs =>
    cases h with
    | tup cs vs hl h => exact .tup cs vs hl fun i c hc => (h i c hc).flatc (List.all_eq_true.1 hf c (List.mem_of_getElem? hc))
  | _ => exact h.flatc hf
theorem RMap.flat {A A' : Nat → Prop} {w : World} {sk : Sk} {g : List Value → Option (List IV)} {es : Array MapEntry} (h : RMap A w sk g es) (hf : ∀ k c, g k = some c → ∀ x ∈ c, x.flat = true) : RMap A' w sk g es := by
  obtain ⟨m1, m2, m3, m4⟩ := h
  refine ⟨m1, m2, m3, fun k c hg => ?_⟩
  obtain ⟨e, he, h5, h6, h7⟩ := m4 k c hg
  exact ⟨e, he, h5, h6, fun i x hx => (h7 i x hx).flat (hf k c hg x (List.mem_of_getElem? hx))⟩
theorem RSub.flat {A A' : Nat → Prop} {w : World} {sz : Nat} {xs : List (List IV)} {p : Option (Nat × (Nat × Nat))} {v : Value} (h : RSub A w sz xs p v) (hf : ∀ x ∈ xs, ∀ y ∈ x, y.flat = true) : RSub A' w sz xs p v := by
  obtain ⟨h0, h | ⟨b, k, cap, a, h1, h2, h3, h4, h5, h6, c, e, g1, g2, g3, g4⟩⟩ := h
  · exact ⟨h0, .inl h⟩
  · refine ⟨h0, .inr ⟨b, k, cap, a, h1, h2, h3, h4, h5, h6, c, e, g1, g2, g3, fun i j x hx => (g4 i j x hx).flat ?_⟩⟩
    obtain ⟨r, hr1, hr2⟩ := at2_lt hx
    exact hf r (List.mem_of_getElem? hr1) x (List.mem_of_getElem? hr2)
theorem ROb.flat {A A' : Nat → Prop} {ψ : Pl} {H : Hp} {w : World} {id : Nat} {o : Ob} (h : ROb A ψ H w id o) (hf : o.flat) : ROb A' ψ H w id o := by
  cases o with
  | box cs =>
    obtain ⟨b, c, e, h1, h2, h3, h4⟩ := h
    exact ⟨b, c, e, h1, h2, h3, fun i x hx => (h4 i x hx).flat1 (List.all_eq_true.1 hf x (List.mem_of_getElem? hx))⟩
  | list sz xs =>
    obtain ⟨h0, h⟩ := h
    refine ⟨h0, ?_⟩
    rcases h with h | ⟨b, k, c, e, h1, h2, h3, h3', h4⟩
    · exact .inl h
    · refine .inr ⟨b, k, c, e, h1, h2, h3, h3', fun i j x hx => (h4 i j x hx).flat ?_⟩
      obtain ⟨r, hr1, hr2⟩ := at2_lt hx
      exact hf r (List.mem_of_getElem? hr1) x (List.mem_of_getElem? hr2)
  | map sk g => obtain ⟨b, es, clock, h1, h2, h3, m⟩ := h; exact ⟨b, es, clock, h1, h2, h3, m.flat hf⟩
  | mapS sk g n kk => obtain ⟨b, es, clock, h1, h2, h3, m, h4⟩ := h; exact ⟨b, es, clock, h1, h2, h3, m.flat hf, h4⟩
  | lent org sz xs =>
    obtain ⟨h0, h⟩ := h
    refine ⟨h0, ?_⟩
    rcases h with h | ⟨b, k, c, e, h1, h2, h3, h3', h4⟩
    · exact .inl h
    · refine .inr ⟨b, k, c, e, h1, h2, h3, h3', fun i j x hx => (h4 i j x hx).flat ?_⟩
      obtain ⟨r, hr1, hr2⟩ := at2_lt hx
      exact hf r (List.mem_of_getElem? hr1) x (List.mem_of_getElem? hr2)
  | mapo sk sz g hole =>
    obtain ⟨b, es, clock, pl, h1, h2, h3, h4, h5, h6, h7, h8, h9, h10, h11⟩ := h
    refine ⟨b, es, clock, pl, h1, h2, h3, h4, h5, h6, h7, h8, fun k xs hg => ?_, h10, h11⟩
    obtain ⟨e, g1, g2, g3⟩ := h9 k xs hg
    exact ⟨e, g1, g2, g3.flat (hf k xs hg)⟩
  | listo sz xs hole =>
    obtain ⟨h0, b, k, c, e, pl, h1, h2, h3, h4, h5, h6, h7⟩ := h
    exact ⟨h0, b, k, c, e, pl, h1, h2, h3, h4, fun i x g1 g2 => (h5 i x g1 g2).flat (hf x (List.mem_of_getElem? g1)), h6, h7⟩
  | iter sk g left last => exact hf.elim
  | gh Z vs cs => exact hf.elim
theorem RAV.hp {A : Nat → Prop} {ψ : Pl} {H H' : Hp} {w : World} {x : AV} {v : Value} (h : RAV A ψ H w x v) (hH : ∀ id, look H' id = look H id) : RAV A ψ H' w x v :=
  h.mono (fun _ _ h => h) (fun _ _ _ => rfl) fun id o ho => ⟨⟨o, by rw [hH]; exact ho, o.le_refl⟩, rfl⟩
theorem ROb.hp {A : Nat → Prop} {ψ : Pl} {H H' : Hp} {w : World} {id : Nat} {o : Ob} (h : ROb A ψ H w id o) (hH : ∀ id, look H' id = look H id) : ROb A ψ H' w id o :=
  h.mono (fun _ _ h => h) (fun _ _ _ => rfl) (fun id o ho => ⟨⟨o, by rw [hH]; exact ho, o.le_refl⟩, rfl⟩) ⟨rfl, fun _ h => h⟩ fun _ _ => rfl
theorem held_hp {ψ : Pl} {H H' : Hp} (hH : ∀ id, look H' id = look H id) (b : Nat) : Held ψ H' b ↔ Held ψ H b := by
  constructor
  · rintro ⟨id, o, h1, h2⟩; exact ⟨id, o, by rw [← hH]; exact h1, h2⟩
  · rintro ⟨id, o, h1, h2⟩; exact ⟨id, o, by rw [hH]; exact h1, h2⟩
section
variable {P : Program} {E : En} {n : Nat} {ψ : Pl} {s : St} {a : Act} {w : World}
theorem resV_ok {rv : ResultVar} {vr : VRes} {av : AV} (hc : compRes P rv = some vr) (hv : resV s vr = some av) (h : SimAt E n ψ s a w) :
    ∃ v, (resSem a.tmps rv).run P w = .ok v w ∧ RAV (Im E ψ s.hp) ψ s.hp w av v := by
  cases rv with
  | tmp t =>
    simp only [compRes, Option.some.injEq] at hc; subst hc
    simp only [resV, Option.some.injEq] at hv; subst hv
    exact ⟨_, rfl, h.frame t⟩
  | cell x t =>
    simp only [compRes] at hc
    split at hc
    · rename_i y k hcomp
      split at hc
      · rename_i hy
        subst hy
        simp only [Option.some.injEq] at hc; subst hc
        have hptr : ∃ id off, s.get y = .ptr id off ∧ stp P y s (fun s' z => s' = s ∧ z = av) (.ld (.tmp y) k) := by
          cases k with
          | none =>
            simp only [resV] at hv
            split at hv
            · rename_i id off hg
              refine ⟨id, off, hg, ?_⟩
              simp only [stp, St.ev, hg]
              split at hv
              · rename_i cs ho
                simp only [ho]
                rw [hv]; simp
              · cases hv
            · cases hv
          | some k =>
            simp only [resV] at hv
            split at hv
            · rename_i id off hg
              refine ⟨id, off, hg, ?_⟩
              simp only [stp, St.ev, hg]
              split at hv
              · rename_i cs ho
                simp only [ho]
                split at hv
                · rename_i hl
                  simp only [Option.some.injEq] at hv
                  exact ⟨hl, by simp, hv⟩
                · cases hv
              · cases hv
            · cases hv
        obtain ⟨id, off, hg, hst⟩ := hptr
        obtain ⟨v, av', h1, ⟨_, rfl⟩, h3⟩ := ld_val (K := fun s' z => s' = s ∧ z = av) hcomp h hst (by intro _ _ _ _ _ _ _ hh; simp only [St.ev, hg] at hh; cases hh)
        refine ⟨v, ?_, h3⟩
        have hf := h.frame y
        rw [hg] at hf
        obtain ⟨b, q, o, _, _, e⟩ := inv_ptr hf
        have e : a.eval (.tmp y) = .pointer (some ⟨b, off, none⟩) := e
        have h1 := h1 w (Ext.refl w)
        rw [e] at h1
        have e' : a.tmps.getD y undef = .pointer (some ⟨b, off, none⟩) := e
        simp only [resSem, e', asAddr]
        exact h1
      · cases hc
    · cases hc
theorem resVs_ok (h : SimAt E n ψ s a w) : ∀ (rvs : List ResultVar) (rs : List VRes) (l : List AV), rvs.mapM (compRes P) = some rs → rs.mapM (resV s) = some l →
    ∃ vs : List Value, (rvs.mapM (resSem a.tmps)).run P w = .ok vs w ∧ vs.length = l.length ∧ ∀ i x, l[i]? = some x → RAV (Im E ψ s.hp) ψ s.hp w x (vs.getD i undef) := by
  intro rvs
  induction rvs with
  | nil =>
    intro rs l hc hv
    simp only [List.mapM_nil, Option.pure_def, Option.some.injEq] at hc; subst hc
    simp only [List.mapM_nil, Option.pure_def, Option.some.injEq] at hv; subst hv
    exact ⟨[], by simp, rfl, by simp⟩
  | cons rv rvs ih =>
    intro rs l hc hv
    rw [List.mapM_cons] at hc
    obtain ⟨r, hr, hc⟩ := bind_some hc
    obtain ⟨rs', hrs, hc⟩ := bind_some hc
    simp only [Option.pure_def, Option.some.injEq] at hc; subst hc
    rw [List.mapM_cons] at hv
    obtain ⟨x, hx, hv⟩ := bind_some hv
    obtain ⟨l', hl, hv⟩ := bind_some hv
    simp only [Option.pure_def, Option.some.injEq] at hv; subst hv
    obtain ⟨v, h1, h2⟩ := resV_ok hr hx h
    obtain ⟨vs, h3, h4, h5⟩ := ih rs' l' hrs hl
    refine ⟨v :: vs, by rw [List.mapM_cons]; simp only [Sem.run_bind, h1, Result.andThen_ok, h3, Sem.run_pure], by simp [h4], fun i y hi => ?_⟩
    cases i with
    | zero => simp at hi; subst hi; exact h2
    | succ i => simp only [List.getElem?_cons_succ] at hi; simpa using h5 i y hi
def oneOf : List Value → Value
  | [v] => v
  | vs => .tuple vs.toArray
theorem results_run {fn : Func} {vs : List Value} {w : World} {tmps : Array Value} (h : (fn.results.toList.mapM (resSem tmps)).run P w = .ok vs w) :
    (results fn tmps).run P w = .ok (oneOf vs) w := by
  have e : results fn tmps = (do let vs ← fn.results.mapM (resSem tmps); pure (if h : vs.size = 1 then vs[0] else .tuple vs)) := by
    unfold results
    congr 1
  rw [e, Array.mapM_eq_mapM_toList]
  simp only [Sem.run_bind, Sem.run_map, h, Result.andThen_ok, Sem.run_pure]
  match vs with
  | [] => rfl
  | [v] => rfl
  | v :: u :: r => rfl
end
end Go.Vm
end

/- A call that was put off, of an empty block, is taken: nothing else changes. -/
section
namespace Go.Vm
def Dat (A : Nat → Prop) (w : World) (b : Nat) : Prop := A b ∧ ¬ isDef w b
theorem not_def_cell {w : World} {b o : Nat} {v : Value} (h : w.cell? ⟨b, o, none⟩ = some v) : ¬ isDef w b := fun ⟨q, hq, hc⟩ => by cases q <;> first | (simp [World.cell?, hq] at h; done) | (cases hc; done)
theorem not_def_map {w : World} {b : Nat} {es : Array MapEntry} {c : Nat} (h : w.heap[b]? = some (.map es c)) : ¬ isDef w b := fun ⟨q, hq, hc⟩ => by rw [h] at hq; cases hq; cases hc
theorem RIV.dat {A : Nat → Prop} {w : World} {x : IV} {v : Value} (h : RIV A w x v) : RIV (Dat A w) w x v := by
  induction h with
  | v x h1 => exact .v x h1
  | lnil sz => exact .lnil sz
  | lst sz xs b off cap a vs ha hs hcap hc hr ih =>
    exact .lst sz xs b off cap a vs ha hs hcap (fun i j c h => by obtain ⟨h1, h2⟩ := hc i j c h; exact ⟨⟨h1, not_def_cell h2⟩, h2⟩) ih
  | pt cs b off vs hc hr ih =>
    exact .pt cs b off vs (fun i c h => by obtain ⟨h1, h2⟩ := hc i c h; exact ⟨⟨h1, not_def_cell h2⟩, h2⟩) ih
  | mp sk g b clock es vs hA' hh hsk hin hno hst hg hr ih =>
    exact .mp sk g b clock es vs ⟨hA', not_def_map hh⟩ hh hsk hin hno hst hg ih
  | mnil sk g h => exact .mnil sk g h
theorem RCap.dat {A : Nat → Prop} {ψ : Pl} {H : Hp} {w : World} {c : CapV} {v : Value} (h : RCap A ψ H w c v) : RCap (Dat A w) ψ H w c v := by
  cases h with
  | ptr id off b k o ho hb => exact .ptr id off b k o ho hb
  | val x v h1 => exact .val x v h1.dat
theorem RAV.dat {A : Nat → Prop} {ψ : Pl} {H : Hp} {w : World} {x : AV} {v : Value} (h : RAV A ψ H w x v) : RAV (Dat A w) ψ H w x v := by
  induction h with
  | iv x v h => exact .iv x v h.dat
  | nil sz => exact .nil sz
  | sl0 id sz o n ho he hb => exact .sl0 id sz o n ho he hb
  | sl id sz lo len b k cap a o n ho he hx hb ha hlc hk hm => exact .sl id sz lo len b k cap a o n ho he hx hb ha hlc hk hm
  | ptr id off b k o ho hb => exact .ptr id off b k o ho hb
  | ep id sz i off b k o n ho he hi hb => exact .ep id sz i off b k o n ho he hi hb
  | mpr id b k o ho hb => exact .mpr id b k o ho hb
  | fn f first caps vf vc hf hc h1 h2 => exact .fn f first caps vf vc hf hc (fun i c h => (h1 i c h).dat) (fun i c h => (h2 i c h).dat)
  | agg cs vs hl _ ih => exact .agg cs vs hl ih
  | tup cs vs hl _ ih => exact .tup cs vs hl ih
  | un => exact .un
  | junk v => exact .junk v
theorem RRows.dat {A : Nat → Prop} {w : World} {sz : Nat} {xs : List (List IV)} {b : Nat} {k : Nat × Nat} (h : RRows A w sz xs b k) : RRows (Dat A w) w sz xs b k := by
  obtain ⟨c, e, h1, h2, h3, h4⟩ := h
  exact ⟨c, e, h1, h2, h3, fun i j x hx => (h4 i j x hx).dat⟩
theorem RSub.dat {A : Nat → Prop} {w : World} {sz : Nat} {xs : List (List IV)} {p : Option (Nat × (Nat × Nat))} {v : Value} (h : RSub A w sz xs p v) : RSub (Dat A w) w sz xs p v := by
  obtain ⟨h0, h⟩ := h
  refine ⟨h0, ?_⟩
  rcases h with h | ⟨b, k, cap, a, h1, h2, h3, h4, h5, h6, h7⟩
  · exact .inl h
  · exact .inr ⟨b, k, cap, a, h1, h2, h3, h4, h5, h6, h7.dat⟩
theorem RMap.dat {A : Nat → Prop} {w : World} {sk : Sk} {g : List Value → Option (List IV)} {es : Array MapEntry} (h : RMap A w sk g es) : RMap (Dat A w) w sk g es := by
  obtain ⟨m1, m2, m3, m4⟩ := h
  refine ⟨m1, m2, m3, fun k c hg => ?_⟩
  obtain ⟨e, he, h5, h6, h7⟩ := m4 k c hg
  exact ⟨e, he, h5, h6, fun i x hx => (h7 i x hx).dat⟩
theorem ROb.dat {A : Nat → Prop} {ψ : Pl} {H : Hp} {w : World} {id : Nat} {o : Ob} (h : ROb A ψ H w id o) : ROb (Dat A w) ψ H w id o := by
  cases o with
  | box cs => obtain ⟨b, c, e, h1, h2, h3, h4⟩ := h; exact ⟨b, c, e, h1, h2, h3, fun i x hx => (h4 i x hx).dat⟩
  | list sz xs =>
    obtain ⟨h0, h⟩ := h
    refine ⟨h0, ?_⟩
    rcases h with h | ⟨b, k, c, e, h1, h2, h3, h3', h4⟩
    · exact .inl h
    · exact .inr ⟨b, k, c, e, h1, h2, h3, h3', fun i j x hx => (h4 i j x hx).dat⟩
  | map sk g => obtain ⟨b, es, clock, h1, h2, h3, m⟩ := h; exact ⟨b, es, clock, h1, h2, h3, m.dat⟩
  | mapS sk g n kk => obtain ⟨b, es, clock, h1, h2, h3, m, h4⟩ := h; exact ⟨b, es, clock, h1, h2, h3, m.dat, h4⟩
  | lent org sz xs =>
    obtain ⟨h0, h⟩ := h
    refine ⟨h0, ?_⟩
    rcases h with h | ⟨b, k, c, e, h1, h2, h3, h3', h4⟩
    · exact .inl h
    · exact .inr ⟨b, k, c, e, h1, h2, h3, h3', fun i j x hx => (h4 i j x hx).dat⟩
  | mapo sk sz g hole =>
    obtain ⟨b, es, clock, pl, h1, h2, h3, h4, h5, h6, h7, h8, h9, h10, h11⟩ := h
    refine ⟨b, es, clock, pl, h1, h2, h3, h4, h5, h6, h7, h8, fun k xs hg => ?_, h10, h11⟩
    obtain ⟨e, g1, g2, g3⟩ := h9 k xs hg
    exact ⟨e, g1, g2, g3.dat⟩
  | listo sz xs hole =>
    obtain ⟨h0, b, k, c, e, pl, h1, h2, h3, h4, h5, h6, h7⟩ := h
    exact ⟨h0, b, k, c, e, pl, h1, h2, h3, h4, fun i x g1 g2 => (h5 i x g1 g2).dat, h6, h7⟩
  | iter sk g left last =>
    obtain ⟨b, m, since, stamps, lastc, h1, h2, h3⟩ := h
    refine ⟨b, m, since, stamps, lastc, h1, h2, ?_⟩
    rcases h3 with h3 | ⟨bm, es, g1, g2, g3, g4, g5, g6, g7⟩
    · exact .inl h3
    · exact .inr ⟨bm, es, g1, ⟨g2, not_def_map g3⟩, g3, g4, g5, g6.dat, g7⟩
  | gh Z vs cs =>
    obtain ⟨h1, h2, h3, h4⟩ := h
    exact ⟨h1, h2.dat (fun b _ ha hd => ⟨ha, hd⟩) (fun _ h => h) (fun _ _ _ _ => rfl) (fun _ _ => rfl), h3, fun i x hx => (h4 i x hx).dat⟩
section
variable {P : Program} {E : En} {n : Nat} {ψ : Pl} {s : St} {a : Act} {w : World}
theorem SimAt.ctl (h : SimAt E n ψ s a w) {D : Nat} (hdd : isDef w D) (hH : ¬ Held ψ s.hp D) {o' : Obj} {E2 : En} (eA : E2.A = E.A) (eI : E2.ids = E.ids) (eψ : E2.ψ = E.ψ) (eP : E2.pool = E.pool) (eS : E2.w.heap.size = E.w.heap.size)
    (eO : E2.w.os = E.w.os ∧ E2.w.tape = E.w.tape ∧ E2.w.output = E.w.output) (hold : ∀ b, b < E.w.heap.size → ¬ E.mp b → (w.putObj D o').heap[b]? = E2.w.heap[b]?)
    {ds : List Deferred} (hds : DefOk E.w.heap.size (Im E ψ s.hp) (w.putObj D o') ds) : SimAt E2 n ψ s { a with defers := ds } (w.putObj D o') := by
  have hne : ∀ b, b ≠ D → (w.putObj D o').heap[b]? = w.heap[b]? := fun b hb => World.putObj_heap_other hb
  have hfr : ∀ b, E2.fresh b ↔ E.fresh b := fun b => by simp [En.fresh, eP, eS]
  have hmp : ∀ b, E2.mp b ↔ E.mp b := fun b => by simp [En.mp, eI, eψ, eP]
  have hIm : ∀ b, Im E2 ψ s.hp b ↔ Im E ψ s.hp b := fun b => by simp [Im, eA, hfr]
  have hI : ∀ b, b < w.heap.size → Dat (Im E ψ s.hp) w b → Im E2 ψ s.hp b := fun b _ h => (hIm b).2 h.1
  have hw : ∀ b, b < w.heap.size → Dat (Im E ψ s.hp) w b → (w.putObj D o').heap[b]? = w.heap[b]? := fun b _ h => hne b fun e => h.2 (e ▸ hdd)
  refine { size := h.size, defers := ?_, frame := fun t => (h.frame t).dat.mono hI hw (Keeps.refl _ _), obs := fun id o ho => ?_, inj := h.inj, own := fun id o b ho hb => ?_, subs := h.subs.ext (by simp), par := fun id hid => ?_, old := fun b hb hm => ?_, grow := by rw [eS]; simpa using h.grow, same := ⟨h.same.1.trans eO.1.symm, h.same.2.1.trans eO.2.1.symm, h.same.2.2.trans eO.2.2.symm⟩ }
  · rw [eS]
    exact ⟨hds.1, fun d hd => by obtain ⟨D', g1, g2, g3, g4⟩ := hds.2 d hd; exact ⟨D', g1, g2, (hIm D').2 g3, g4⟩⟩
  · refine (h.obs id o ho).dat.mono hI hw (Keeps.refl _ _) ⟨rfl, fun _ h => h⟩ fun b hb => hne b ?_
    rintro rfl
    exact hH ⟨id, o, ho, hb⟩
  · rw [eI, eψ, hfr]; exact h.own id o b ho hb
  · rw [eI] at hid
    rw [eψ]; exact h.par id hid
  · rw [eS] at hb
    exact hold b hb fun hh => hm ((hmp b).2 hh)
theorem SimAt.take (h : SimAt E n ψ s a w) {d : Deferred} {ds : List Deferred} (hd : a.defers = d :: ds) :
    ∃ D, d.target = .collected D ∧ (Instr.takeDeferred D).run P w = .ok [] (w.putObj D (.deferred none)) ∧ SimAt E n ψ s { a with defers := ds } (w.putObj D (.deferred none)) := by
  obtain ⟨hn, hall⟩ := h.defers
  rw [hd] at hn hall
  obtain ⟨D, rfl, hk, hA, hD⟩ := hall d List.mem_cons_self
  refine ⟨D, rfl, run_takeDeferred hD, ?_⟩
  have hne : ∀ b, b ≠ D → (w.putObj D (.deferred none)).heap[b]? = w.heap[b]? := fun b hb => World.putObj_heap_other hb
  refine h.ctl ⟨_, hD, rfl⟩ hA.2 rfl rfl rfl rfl rfl ⟨rfl, rfl, rfl⟩ (fun b hb hm => ?_) ⟨(List.nodup_cons.1 hn).2, fun d' hd' => ?_⟩
  · rw [hne b (by omega)]; exact h.old b hb hm
  · obtain ⟨D', rfl, g1, g2, g3⟩ := hall d' (List.mem_cons_of_mem _ hd')
    refine ⟨D', rfl, g1, g2, ?_⟩
    rw [hne D' (fun e => (List.nodup_cons.1 hn).1 (e ▸ hd'))]
    exact g3
theorem leaves_of_sim {fn : Func} {R : Ending → World → Prop} {tmps : Array Value} (key : ∀ w, SimAt E n ψ s { tmps := tmps, defers := [] } w → ∃ v, (results fn tmps).run P w = .ok v w ∧ R (.returned v) w) :
    ∀ (ds : List Deferred) (w : World), SimAt E n ψ s { tmps := tmps, defers := ds } w → LeavesInM Fence.wide 0 P fn tmps R ds .returning w := by
  intro ds
  induction ds with
  | nil => intro w h; exact key w h
  | cons d ds ih =>
    intro w h
    obtain ⟨D, h1, h2, h3⟩ := h.take (P := P) (d := d) (ds := ds) rfl
    exact ⟨by simp, .inl ⟨D, _, h1, h2, ih _ h3⟩⟩
end
end Go.Vm
end

/- A function's contract out of its code; objects under other names; states that say less. -/
section
namespace Go.Vm
def fnV (P : Program) (f : FuncId) : Option (Nat × VCode × List VRes) := do
  let fn ← P.funcs[f]?
  let code ← fn.body
  let c ← compCode P fn.ntmps code
  let rs ← fn.results.toList.mapM (compRes P)
  if fn.ntmps ≤ 999 then pure (fn.ntmps, c, rs) else none
def Ends (fr : Bool) (rs : List VRes) (res : AV) (H' : Hp) (s : St) : Prop :=
  ∃ s' l, Le s s' ∧ rs.mapM (resV s') = some l ∧ res = resOf l ∧ (∀ id, look s'.hp id = look H' id) ∧ (fr = true → res.flat = true ∧ ∀ id o, look H' id = some o → o.flat)
def EndsN (fr : Bool) (rs : List VRes) (R : AV → Hp → Prop) (s : St) : Prop :=
  ∃ s' l H', Le s s' ∧ rs.mapM (resV s') = some l ∧ R (resOf l) H' ∧ (∀ id, look s'.hp id = look H' id) ∧ (fr = true → (resOf l).flat = true ∧ ∀ id o, look H' id = some o → o.flat)
def endN (fr : Bool) (rs : List VRes) (R : AV → Hp → Prop) : Outs := ⟨EndsN fr rs R, fun _ _ => False, EndsN fr rs R, fun _ _ => False⟩
def endO (fr : Bool) (rs : List VRes) (res : AV) (H' : Hp) : Outs := ⟨Ends fr rs res H', fun _ _ => False, Ends fr rs res H', fun _ _ => False⟩
theorem look_of_mem' {H : Hp} {id : Nat} (h : id ∈ H.map (·.1)) : ∃ o, look H id = some o := look_of_mem (List.contains_iff_mem.2 h)
theorem look_some_mem {α : Type} : ∀ {l : List (Nat × α)} {k : Nat} {x : α}, look l k = some x → (k, x) ∈ l
  | [], _, _, h => by cases h
  | (j, y) :: r, k, x, h => by
    simp only [look] at h
    split at h
    · rename_i e; subst e; cases h; exact List.mem_cons_self
    · exact List.mem_cons_of_mem _ (look_some_mem h)
theorem gspecN_of_vc {P : Program} {fr : Bool} {f : FuncId} {args : List AV} {H : Hp} {R : AV → Hp → Prop} {n : Nat} {c : VCode} {rs : List VRes} (hf : fnV P f = some (n, c, rs))
    (hargs : args.length ≤ n) (hbig : (H.map (·.1)).all (1000 ≤ ·) = true) (hlent : (H.all fun p => !p.2.isLent) = true) (hlent2 : ∀ res H', R res H' → ∀ id o, look H' id = some o → o.isLent = false)
    (hvc : VC P n c ⟨argFr 0 args, H⟩ (endN fr rs R)) : GSpecN P fr f args H R := by
  unfold fnV at hf
  obtain ⟨fn, h1, hf⟩ := bind_some hf
  obtain ⟨code, h2, hf⟩ := bind_some hf
  obtain ⟨c', h3, hf⟩ := bind_some hf
  obtain ⟨rs', h4, hf⟩ := bind_some hf
  split at hf
  · simp only [Option.pure_def, Option.some.injEq, Prod.mk.injEq] at hf
    obtain ⟨rfl, rfl, rfl⟩ := hf
    have hl1 : ∀ id o, look H id = some o → o.isLent = false := fun id o ho => by
      have := List.all_eq_true.1 hlent (id, o) (look_some_mem ho)
      simpa using this
    have org : ∀ {o : Ob} {id : Nat}, o.isLent = false → o.org id = id := by intro o id h; cases o <;> first | rfl | cases h
    refine ⟨⟨hl1, hlent2⟩, ?_⟩
    intro A ψ w vs hA hob hinj hsubs hheld hlen hrav
    have hsz : vs.toArray.size = vs.length := by simp
    have eb : ∀ id ∈ H.map (·.1), 1000 ≤ id := fun id hid => by simpa using List.all_eq_true.1 hbig id hid
    have ed : ∀ b id, id ∈ H.map (·.1) → Owns ψ id b → ¬ A b := fun b id hid hb => by
      obtain ⟨o, ho⟩ := look_of_mem' hid
      exact hheld b ⟨id, o, ho, hb⟩
    have et : ∀ id b, id ∈ H.map (·.1) → Owns ψ id b → b < w.heap.size := fun id b hid hb => by
      obtain ⟨o, ho⟩ := look_of_mem' hid
      rcases hb with ⟨k, hb⟩ | hb
      · exact (hob id o ho).lt hb
      · exact (hsubs id o b ho hb).2.1
    let E : En := ⟨A, w, H.map (·.1), ψ, eb, ed, et, hA, fun _ => False, fun _ h => h.elim, fun _ h => h.elim, fun _ _ _ _ h => h⟩
    have him : ∀ b, A b → Im E ψ H b := fun b hb => ⟨.inl hb, fun hh => hheld b hh hb⟩
    have hsim : Sim E fn.ntmps ⟨argFr 0 args, H⟩ { tmps := vs.toArray ++ Array.replicate (fn.ntmps - vs.toArray.size) undef, defers := [] } w := by
      refine ⟨ψ, { size := ?_, defers := ⟨by simp, fun d hd => by cases hd⟩, frame := fun t => ?_, obs := fun id o ho => ?_, inj := hinj, own := fun id o b ho hb => .inl ?_, subs := hsubs, par := fun id hid => rfl, old := fun b hb _ => rfl, grow := Nat.le_refl _, same := ⟨rfl, rfl, rfl⟩ }⟩
      · simp; omega
      · simp only [St.get, look_argFr, Nat.zero_le, if_true, Nat.sub_zero]
        cases hx : args[t]? with
        | none => exact .junk _
        | some x =>
          have hlt : t < vs.length := by rw [hlen]; exact (List.getElem?_eq_some_iff.1 hx).1
          have e : (vs.toArray ++ Array.replicate (fn.ntmps - vs.toArray.size) undef).getD t undef = vs.getD t undef := by
            simp [Array.getD_eq_getD_getElem?, Array.getElem?_append, hlt, List.getD]
          rw [e]
          exact (hrav t x hx).mono (fun b _ hb => him b hb) (fun _ _ _ => rfl) (Keeps.refl _ _)
      · exact (hob id o ho).mono (fun b _ hb => him b hb) (fun _ _ _ => rfl) (Keeps.refl _ _) ⟨rfl, fun _ h => h⟩ (fun _ _ => rfl)
      · rw [org (hl1 id o ho)]
        exact ⟨List.contains_iff_mem.1 (look_mem ho), hb⟩
    refine callsIn_wide.1 (callsIn_of_wp_marks (n := 0) h1 h2 trivial (Code.wpIn_mono ?_ (hvc code h3 none 0 (.inl rfl) E _ w hsim)))
    have key0 : ∀ (tmps : Array Value) w', (∃ s, Sim E fn.ntmps s { tmps := tmps, defers := [] } w' ∧ EndsN fr rs' R s) → ∃ v, (results fn tmps).run P w' = .ok v w' ∧ ∃ v' ψ' res H', R res H' ∧ Ending.returned v = .returned v' ∧
      (∀ b, b < w.heap.size → ¬ Held ψ H b → w'.heap[b]? = w.heap[b]?) ∧ w.heap.size ≤ w'.heap.size ∧ Same w w' ∧
      (∀ id o, look H id = some o → ψ' id = ψ id) ∧
      (∀ id o b, look H' id = some o → Owns ψ' id b → (∃ o0, look H id = some o0 ∧ Owns ψ id b) ∨ w.heap.size ≤ b) ∧
      (∀ id id' o o' b, look H' id = some o → look H' id' = some o' → Owns ψ' id b → Owns ψ' id' b → id = id') ∧ Subs ψ' H' w' ∧
      (∀ id o, look H' id = some o → ROb (fun b => ((fr = false ∧ A b) ∨ w.heap.size ≤ b) ∧ ¬ Held ψ' H' b) ψ' H' w' id o) ∧
      RAV (fun b => ((fr = false ∧ A b) ∨ w.heap.size ≤ b) ∧ ¬ Held ψ' H' b) ψ' H' w' res v' := by
      rintro tmps w' ⟨s, hs, s', l, H', hle, hl, hres, hH, hflat⟩
      obtain ⟨ψ', h⟩ := hle E _ _ w' hs
      obtain ⟨us, u1, u2, u3⟩ := resVs_ok h _ _ _ h4 hl
      have hl2 := hlent2 _ H' hres
      refine ⟨_, results_run u1, _, ψ', _, H', hres, rfl, ?_⟩
      have hrv : RAV (Im E ψ' s'.hp) ψ' s'.hp w' (resOf l) (oneOf us) := by
        clear hres hflat
        match l, us, u2, u3 with
        | [x], [v], _, u3 => exact u3 0 x rfl
        | [], [], _, _ => exact .tup _ _ rfl (by simp)
        | x :: y :: l, v :: u :: us, u2, u3 =>
          refine .tup _ _ (by simpa using u2) fun i c hc => ?_
          rw [getD_toArray]
          exact u3 i c hc
      refine ⟨fun b hb hm => h.old b hb ?_, h.grow, ⟨h.same.1, h.same.2.1, h.same.2.2⟩, fun id o ho => h.par id (List.contains_iff_mem.1 (look_mem ho)), fun id o b ho hb => ?_, fun id id' o o' b g1 g2 g3 g4 => ?_, fun id o b ho hb => h.subs id o b (by rw [hH]; exact ho) hb, fun id o ho => ?_, ?_⟩
      · rintro (⟨id, hid, hb⟩ | hp)
        · obtain ⟨o, ho⟩ := look_of_mem' hid
          exact hm ⟨id, o, ho, hb⟩
        · exact hp
      · rcases h.own id o b (by rw [hH]; exact ho) hb with ⟨hid, how⟩ | hp | hge
        · rw [org (hl2 id o ho)] at hid how
          obtain ⟨o', ho'⟩ := look_of_mem' hid
          exact .inl ⟨o', ho', how⟩
        · exact hp.elim
        · exact .inr hge
      · exact h.inj id id' o o' b (by rw [hH]; exact g1) (by rw [hH]; exact g2) g3 g4
      · have ho' := (h.obs id o (by rw [hH]; exact ho)).hp (fun id => (hH id).symm)
        cases fr with
        | true => exact ho'.flat ((hflat rfl).2 id o ho)
        | false =>
          refine ho'.mono (fun b _ hb => ⟨?_, fun hh => hb.2 ((held_hp hH b).2 hh)⟩) (fun _ _ _ => rfl) (Keeps.refl _ _) ⟨rfl, fun _ h => h⟩ (fun _ _ => rfl)
          rcases hb.1 with h | h | h
          · exact .inl ⟨rfl, h⟩
          · exact h.elim
          · exact .inr h
      · have hr' := hrv.hp (fun id => (hH id).symm)
        cases fr with
        | true => exact hr'.flat (hflat rfl).1
        | false =>
          refine hr'.mono (fun b _ hb => ⟨?_, fun hh => hb.2 ((held_hp hH b).2 hh)⟩) (fun _ _ _ => rfl) (Keeps.refl _ _)
          rcases hb.1 with h | h | h
          · exact .inl ⟨rfl, h⟩
          · exact h.elim
          · exact .inr h
    intro e a' w' hp
    cases e with
    | normal =>
      obtain ⟨s, ⟨ψ', hs⟩, he⟩ := hp
      obtain ⟨tmps, ds⟩ := a'
      exact leaves_of_sim (fun w2 h2 => key0 tmps w2 ⟨s, ⟨ψ', h2⟩, he⟩) ds w' hs
    | ret =>
      obtain ⟨s, ⟨ψ', hs⟩, he⟩ := hp
      obtain ⟨tmps, ds⟩ := a'
      exact leaves_of_sim (fun w2 h2 => key0 tmps w2 ⟨s, ⟨ψ', h2⟩, he⟩) ds w' hs
    | exit id => obtain ⟨_, _, hk⟩ := hp; exact hk.elim
    | goto l => obtain ⟨_, _, hk⟩ := hp; exact hk.elim
    | panic => exact hp.elim
    | outgrown => exact hp.elim
  · cases hf
theorem gspec_of_vc {P : Program} {fr : Bool} {f : FuncId} {args : List AV} {H H' : Hp} {res : AV} {n : Nat} {c : VCode} {rs : List VRes} (hf : fnV P f = some (n, c, rs))
    (hargs : args.length ≤ n) (hbig : (H.map (·.1)).all (1000 ≤ ·) = true) (hlent : ((H ++ H').all fun p => !p.2.isLent) = true) (hvc : VC P n c ⟨argFr 0 args, H⟩ (endO fr rs res H')) : GSpec P fr f args H res H' := by
  have hl2 : ∀ id o, look H' id = some o → o.isLent = false := fun id o ho => by
    have := List.all_eq_true.1 hlent (id, o) (List.mem_append_right _ (look_some_mem ho))
    simpa using this
  have conv : ∀ s, Ends fr rs res H' s → EndsN fr rs (fun r K => r = res ∧ K = H') s := fun s ⟨s', l, q1, q2, q3, q4, q5⟩ => ⟨s', l, H', q1, q2, ⟨q3.symm, rfl⟩, q4, fun e => by rw [← q3]; exact q5 e⟩
  refine (gspecN_of_vc (R := fun r K => r = res ∧ K = H') hf hargs hbig ?_ (fun r K e => by obtain ⟨rfl, rfl⟩ := e; exact hl2) (hvc.mono conv (fun _ _ h => h) conv (fun _ _ h => h))).one (fun _ _ h => h) hl2
  rw [List.all_append, Bool.and_eq_true] at hlent
  exact hlent.1
end Go.Vm
end
