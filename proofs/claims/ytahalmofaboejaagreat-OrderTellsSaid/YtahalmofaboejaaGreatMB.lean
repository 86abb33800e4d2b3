/- An abstract machine beside the model (second part): each operation does what it says. Conditions: those of each theorem. -/
import Derived.Test.YtahalmofaboejaaGreatMA
import Derived.RangeFuncLeaves
import Derived.RangeFuncRecord
import Derived.OrdersIn
import Derived.TacticsIn
import Derived.LoopIn
import Derived.Laws.StructEq
import Derived.MapKept

set_option linter.unusedVariables false
set_option linter.unusedSimpArgs false

/- Each operation of the model does what the abstract machine's does: the plain ones. -/
section
namespace Go.Vm
theorem stepOne {v : Value} (h : v.oneCell' = true) : v.cells = #[v] := by cases v <;> simp_all [Value.oneCell', Value.cells]
theorem RIV.one {A : Nat → Prop} {w : World} {x : IV} {v : Value} (h : RIV A w x v) : v.oneCell' = true := by
  cases h with
  | v x h1 => exact h1
  | _ => rfl
theorem RAV.one {A : Nat → Prop} {ψ : Pl} {H : Hp} {w : World} {x : AV} {v : Value} (h : RAV A ψ H w x v) (hx : x.one = true) : v.oneCell' = true := by
  cases h with
  | iv x v h => exact h.one
  | agg cs vs hl h => cases hx
  | tup cs vs hl h => cases hx
  | un => cases hx
  | junk v => cases hx
  | _ => rfl
theorem rav_zav {A : Nat → Prop} {ψ : Pl} {H : Hp} {w : World} (sz : Nat) (v : Value) : RAV A ψ H w (zav sz v) v := by
  unfold zav
  split
  · exact .nil sz
  · exact .junk _
  · exact .junk _
  · rename_i h1 h2 h3
    refine .iv _ _ (.v v ?_)
    cases v <;> simp_all [Value.oneCell']
theorem rav_const {A : Nat → Prop} {ψ : Pl} {H : Hp} {w : World} (v : Value) : RAV A ψ H w (AV.const v) v := by
  unfold AV.const
  split
  · rename_i cs
    refine .agg _ _ (by simp) fun i c hc => ?_
    rw [List.getElem?_map] at hc
    cases hi : cs.toList[i]? with
    | none => rw [hi] at hc; cases hc
    | some x =>
      rw [hi] at hc; cases hc
      have : cs.getD i undef = x := by
        rw [Array.getElem?_toList] at hi
        simp [Array.getD_eq_getD_getElem?, hi]
      rw [this]
      exact rav_zav 0 x
  · exact rav_zav 0 v
def upR (P : Program) (o : Oper) (a : Act) (next : Act → World → Prop) : Result Next → Prop
  | .ok (.value v) w' => next (a.put o.dst v) w'
  | .ok .skip w' => next (a.put o.dst undef) w'
  | .ok (.enter f args) w' => Calls P f args w' fun e w'' => ∃ v, e = .returned v ∧ next (a.put o.dst v) w''
  | .ok (.round l f tmps assign body) w' => ∀ m, RoundIn Fence.wide m P l f tmps assign body w' fun e w'' => ∃ v, e = .returned v ∧ next (a.put o.dst v) w''
  | _ => False
def wpR (P : Program) (o : Oper) (a : Act) (w : World) (next : Act → World → Prop) : Prop := upR P o a next ((execOp a.eval o).run P w)
theorem upR_mono {P : Program} {o : Oper} {a : Act} {K K' : Act → World → Prop} (hK : ∀ a w, K a w → K' a w) : ∀ {r : Result Next}, upR P o a K r → upR P o a K' r := by
  intro r h
  cases r with
  | ok x w' =>
    cases x <;> simp only [upR] at h ⊢
    · exact hK _ _ h
    · exact hK _ _ h
    · exact Calls.mono h fun e w'' ⟨v, h1, h2⟩ => ⟨v, h1, hK _ _ h2⟩
    · exact fun m => RoundIn.mono (h m) fun e w'' ⟨v, h1, h2⟩ => ⟨v, h1, hK _ _ h2⟩
  | halt x w' => exact h.elim
def wideR : Option Nat → Fence
  | none => Fence.wide
  | some l => Fence.wide.inRound l
theorem callsIn_wideR {ro : Option Nat} {m : Nat} {P : Program} {f : FuncId} {args : Array Value} {w : World} {R : Ending → World → Prop} (h : Calls P f args w R) : CallsIn (wideR ro) m P f args w R := by
  have := (callsIn_wide (n := m)).2 h
  cases ro with
  | none => exact this
  | some l => exact this
theorem wpR_in {P : Program} {o : Oper} {a : Act} {w : World} {K : Act → World → Prop} (hnd : ∀ c, o.op ≠ .defer c) (h : wpR P o a w K) (ro : Option Nat) (m : Nat) (Q : Exit → Act → World → Prop) : o.wpIn (wideR ro) m P a w K Q := by
  refine ⟨fun _ _ => by cases ro <;> trivial, ?_⟩
  rw [Oper.semAt_eq _ _ _ hnd]
  unfold wpR at h
  generalize (execOp a.eval o).run P w = r at h
  have hd : (wideR ro).depth.isSome = true → 1 ≤ m := by cases ro <;> (intro h; cases h)
  cases r with
  | ok x w' =>
    cases x <;> simp only [upR] at h <;> simp only [Oper.uponIn]
    · exact h
    · exact h
    · exact ⟨hd, callsIn_wideR (Calls.mono h fun e w'' ⟨v, h1, h2⟩ => by subst h1; exact h2)⟩
    · refine ⟨hd, ?_⟩
      have := RoundIn.mono (R' := fun | .returned v, w'' => K (a.put o.dst v) w'' | .panicked chain, w'' => Q (.panic chain) a w'' | .outgrown, _ => LetsOut Q) (h (m - 1)) fun e w'' ⟨v, h1, h2⟩ => by subst h1; exact h2
      cases ro with
      | none => exact this
      | some l => exact this
  | halt x w' => exact h.elim
section
variable {P : Program} {E : En} {n : Nat} {ψ : Pl} {s : St} {a : Act} {w : World}
theorem SimAt.ev (h : SimAt E n ψ s a w) (x : Operand) : RAV (Im E ψ s.hp) ψ s.hp w (s.ev x) (a.eval x) := by
  cases x with
  | tmp t => exact h.frame t
  | const v => exact rav_const v
  | global g => exact .junk _
  | func f => exact .fn f [] [] #[] #[] rfl rfl (by simp) (by simp)
def Does (P : Program) (E : En) (n : Nat) (o : Oper) (a : Act) (w : World) (K : St → AV → Prop) : Prop :=
  ∀ (K' : Act → World → Prop) (Q : Exit → Act → World → Prop),
    (∀ s' av ψ' v w', K s' av → SimAt E n ψ' s' a w' → RAV (Im E ψ' s'.hp) ψ' s'.hp w' av v → K' (a.put o.dst v) w') → wpR P o a w K'
theorem does_run {o : Oper} {K : St → AV → Prop} {v : Value} {w' : World} {s' : St} {av : AV} {ψ' : Pl}
    (hr : (execOp a.eval o).run P w = .ok (.value v) w') (hk : K s' av) (hs : SimAt E n ψ' s' a w') (hv : RAV (Im E ψ' s'.hp) ψ' s'.hp w' av v) :
    Does P E n o a w K := by
  intro K' Q h
  unfold wpR
  rw [hr]
  exact h s' av ψ' v w' hk hs hv
theorem does_skip {o : Oper} {K : St → AV → Prop} {w' : World} {s' : St} {ψ' : Pl}
    (hr : (execOp a.eval o).run P w = .ok .skip w') (hk : K s' .un) (hs : SimAt E n ψ' s' a w') : Does P E n o a w K := by
  intro K' Q h
  unfold wpR
  rw [hr]
  exact h s' .un ψ' undef w' hk hs .un
theorem does_val {o : Oper} {K : St → AV → Prop} {v : Value} {av : AV} (h : SimAt E n ψ s a w)
    (hr : (execOp a.eval o).run P w = .ok (.value v) w) (hk : K s av) (hv : RAV (Im E ψ s.hp) ψ s.hp w av v) : Does P E n o a w K :=
  does_run hr hk h hv
structure DoesV (P : Program) (E : En) (n : Nat) (o : Oper) (a : Act) (w : World) (K : St → AV → Prop) : Prop where
  does : Does P E n o a w K
  any : ∃ v, ∀ u, (execOp a.eval o).run P u = .ok (.value v) u
theorem does_pure {o : Oper} {K : St → AV → Prop} {v : Value} {av : AV} (h : SimAt E n ψ s a w)
    (hr : ∀ u, (execOp a.eval o).run P u = .ok (.value v) u) (hk : K s av) (hv : RAV (Im E ψ s.hp) ψ s.hp w av v) : DoesV P E n o a w K :=
  ⟨does_val h (hr w) hk hv, v, hr⟩
theorem getD_some {α : Type} {c : Array α} {i : Nat} {d : α} (h : i < c.size) : c[i]? = some (c.getD i d) := by
  simp [Array.getD_eq_getD_getElem?, h]
theorem rav_v {A : Nat → Prop} {ψ : Pl} {H : Hp} {w : World} {x : Value} (h : x.oneCell' = true) : RAV A ψ H w (.iv (.v x)) x := .iv _ _ (.v x h)
theorem run_isAgg (w : World) {t : TypeId} {d : TypeDesc} (h : P.underlying t = some d) : (isAgg t).run P w = .ok (isAggT P t) w := by
  unfold isAgg isAggT
  simp only [underlying, Sem.run_bind, run_program, Result.andThen_ok, h, Sem.run_pure]
  cases d <;> rfl
theorem run_sizeOf (w : World) {t : TypeId} {k : Nat} (h : infoSize P t = some k) : (sizeOf t).run P w = .ok k w := by
  unfold infoSize at h
  cases hi : P.info? t with
  | none => rw [hi] at h; cases h
  | some i => rw [hi] at h; cases h; simp [sizeOf, typeInfo, hi]
theorem run_underlying (w : World) {t : TypeId} {d : TypeDesc} (h : P.underlying t = some d) : (underlying t).run P w = .ok d w := by
  simp [underlying, h]
theorem addr_add (b o k : Nat) : Addr.add ⟨b, o, none⟩ k = ⟨b, o + k, none⟩ := by
  unfold Addr.add; split <;> simp_all
theorem run_loadCellsFrom (w : World) (b o : Nat) : ∀ (k i : Nat) (acc : Array Value) (vs : List Value), vs.length = k →
    (∀ j, j < k → w.cell? ⟨b, o + (i + j), none⟩ = vs[j]?) → (loadCellsFrom ⟨b, o, none⟩ i k acc).run P w = .ok (acc ++ vs.toArray) w := by
  intro k
  induction k with
  | zero => intro i acc vs hl _; cases vs with | nil => simp [loadCellsFrom] | cons => simp at hl
  | succ k ih =>
    intro i acc vs hl h
    cases vs with
    | nil => simp at hl
    | cons v vs =>
      have h0 := h 0 (by omega)
      simp only [Nat.add_zero, List.getElem?_cons_zero] at h0
      simp only [loadCellsFrom, Sem.run_bind, run_load, addr_add, h0, Result.andThen_ok]
      rw [ih (i + 1) (acc.push v) vs (by simpa using hl) (fun j hj => by
        have := h (j + 1) (by omega)
        simp only [List.getElem?_cons_succ] at this
        rw [← this, show o + (i + 1 + j) = o + (i + (j + 1)) from by omega])]
      simp
theorem run_loadCells (w : World) (b o : Nat) (vs : List Value) (h : ∀ j, j < vs.length → w.cell? ⟨b, o + j, none⟩ = vs[j]?) :
    (loadCells ⟨b, o, none⟩ vs.length).run P w = .ok vs.toArray w := by
  unfold loadCells
  rw [run_loadCellsFrom w b o vs.length 0 #[] vs rfl (fun j hj => by rw [Nat.zero_add]; exact h j hj)]
  simp
theorem sure (a : Addr) : (Instr.sureAddr (.pointer (some a)) : Sem Addr) = Sem.pure a := rfl
theorem run_load1 (w : World) {t : TypeId} {d : TypeDesc} (hd : P.underlying t = some d) (hg : isAggT P t = false) {b o : Nat} {v : Value} (hc : w.cell? ⟨b, o, none⟩ = some v) :
    (Instr.loadAt t (.pointer (some ⟨b, o, none⟩))).run P w = .ok v w := by
  simp only [Instr.loadAt, sure, Sem.run_bind, Sem.run_pure', Result.andThen_ok, loadVar, run_isAgg w hd, hg, Bool.false_eq_true, if_false, run_load, hc]
theorem run_loadN (w : World) {t : TypeId} {d : TypeDesc} (hd : P.underlying t = some d) (hg : isAggT P t = true) {b o : Nat} (vs : List Value)
    (hn : infoSize P t = some vs.length) (hc : ∀ j, j < vs.length → w.cell? ⟨b, o + j, none⟩ = vs[j]?) :
    (Instr.loadAt t (.pointer (some ⟨b, o, none⟩))).run P w = .ok (.agg vs.toArray) w := by
  simp only [Instr.loadAt, sure, Sem.run_bind, Sem.run_pure', Result.andThen_ok, loadVar, run_isAgg w hd, hg, if_true, run_sizeOf w hn, run_loadCells w b o vs hc, Sem.run_pure]
theorem agg_drop_take {A : Nat → Prop} {H : Hp} {cs : List AV} {c : Array Value} {off k : Nat} (h : ∀ i x, cs[i]? = some x → RAV A ψ H w x (c.getD i undef)) (hk : off + k ≤ cs.length) (hc : cs.length ≤ c.size) :
    RAV A ψ H w (.agg ((cs.drop off).take k)) (.agg ((c.toList.drop off).take k).toArray) := by
  refine .agg _ _ (by simp; omega) fun i x hx => ?_
  rw [List.getElem?_take] at hx
  split at hx
  · rename_i hi
    rw [List.getElem?_drop] at hx
    have := h _ _ hx
    rw [getD_toArray]
    have e : ((c.toList.drop off).take k).getD i undef = c.getD (off + i) undef := by
      simp [List.getD, List.getElem?_take, hi, List.getElem?_drop, Array.getD_eq_getD_getElem?]
    rw [e]; exact this
  · cases hx
theorem ld_val {dst : Option Nat} {t : TypeId} {x : Operand} {ty : TypeId} {pos : String} {af : Array Edge} {g : Option (Nat × Bool)} {r : Rhs} {d : Nat} {K : St → AV → Prop}
    (hc : comp P ⟨dst, .load t x, ty, pos, af, g⟩ = some r) (h : SimAt E n ψ s a w) (hk : stp P d s K r) (hno : ∀ id sz i off z xs hole, s.ev x = .ep id sz i off → look s.hp id ≠ some (.listo z xs hole)) :
    ∃ v av, (∀ u, Ext w u → (Instr.loadAt t (a.eval x)).run P u = .ok v u) ∧ K s av ∧ RAV (Im E ψ s.hp) ψ s.hp w av v := by
  simp only [comp] at hc
  cases hu : P.underlying t with
  | none => rw [hu] at hc; cases hc
  | some dd =>
    have hx := h.ev x
    simp only [hu, Option.bind_eq_bind, Option.bind_some] at hc
    by_cases hg : isAggT P t = true
    · rw [if_pos hg] at hc
      cases hi : infoSize P t with
      | none => rw [hi] at hc; cases hc
      | some k =>
        rw [hi] at hc
        simp only [Option.map_some, Option.some.injEq] at hc
        subst hc
        simp only [stp] at hk
        generalize s.ev x = ax at hx hk
        generalize a.eval x = vx at hx
        cases hx with
        | ptr id off b q o ho hb =>
          simp only [ho] at hk
          cases o with
          | box cs =>
            obtain ⟨hl, hk⟩ := hk
            obtain ⟨b', c, e, h1, h2, h3, h4⟩ := h.obs id _ ho
            rw [h1] at hb; cases hb
            have hlen : ((c.toList.drop off).take k).length = k := by simp; omega
            refine ⟨_, _, (fun u hx => run_loadN u hu hg ((c.toList.drop off).take k) (by rw [hlen]; exact hi) fun j hj => hx.cell' (?_ : w.cell? _ = _) (by simpa using hj)), hk, (agg_drop_take h4 hl (by omega))⟩
            rw [hlen] at hj
            rw [cell_of h2]
            simp [List.getElem?_take, hj, List.getElem?_drop]
          | _ => exact hk.elim
        | ep id sz i off b q o m ho he hi' hb =>
          simp only [ho] at hk
          cases o with
          | list sz' xs =>
            simp only [Ob.dim, Option.some.injEq, Prod.mk.injEq] at he
            obtain ⟨hz, hm0⟩ := he
            have hz := hz.symm
            subst hz; subst hm0
            simp only at hk
            cases hr : xs[i]? with
            | none => rw [hr] at hk; exact hk.elim
            | some r =>
              rw [hr] at hk
              obtain ⟨hl, hk⟩ := hk
              obtain ⟨h0, h5⟩ := h.obs id _ ho
              rcases h5 with ⟨h1, _⟩ | ⟨b', q', c, e, h1, h2, h3', h3, h4⟩
              · rw [h1] at hb; cases hb
              rw [h1] at hb; cases hb
              have hrl := h0 r (List.mem_of_getElem? hr)
              have hm : (i + 1) * sz ≤ xs.length * sz := Nat.mul_le_mul_right sz (by omega)
              have e2 : (i + 1) * sz = i * sz + sz := by rw [Nat.add_mul]; omega
              have hlen : ((c.toList.drop (q.1 + (i * sz + off))).take k).length = k := by simp; omega
              refine ⟨_, _, (fun u hx => run_loadN u hu hg ((c.toList.drop (q.1 + (i * sz + off))).take k) (by rw [hlen]; exact hi) fun j hj => hx.cell' (?_ : w.cell? _ = _) (by simpa using hj)), hk, ?_⟩
              · rw [hlen] at hj
                rw [cell_of h2]
                simp [List.getElem?_take, hj, List.getElem?_drop]
              · refine .agg _ _ (by simp; omega) fun j y hy => ?_
                rw [List.getElem?_map, List.getElem?_take] at hy
                split at hy
                · rename_i hj
                  rw [List.getElem?_drop] at hy
                  cases hrj : r[off + j]? with
                  | none => rw [hrj] at hy; cases hy
                  | some z =>
                    rw [hrj] at hy; cases hy
                    rw [getD_toArray]
                    have e : ((c.toList.drop (q.1 + (i * sz + off))).take k).getD j undef = c.getD (q.1 + (i * sz + (off + j))) undef := by
                      simp [List.getD, List.getElem?_take, hj, List.getElem?_drop, Array.getD_eq_getD_getElem?, Nat.add_assoc]
                    rw [e]
                    exact .iv _ _ (h4 i (off + j) z (at2_of hr hrj))
                · cases hy
          | _ => exact hk.elim
        | iv y v hy =>
          cases hy with
          | pt cs b off vs hcc hrr =>
            obtain ⟨hl, hk⟩ := hk
            have hlen : ((List.range k).map vs).length = k := by simp
            refine ⟨_, _, (fun u hx => run_loadN u hu hg ((List.range k).map vs) (by rw [hlen]; exact hi) fun j hj => hx.cell' (?_ : w.cell? _ = _) (by simpa using hj)), hk, ?_⟩
            · rw [hlen] at hj
              rw [(hcc j cs[j] (List.getElem?_eq_getElem (by omega))).2]
              simp [hj]
            · refine .agg _ _ (by simp; omega) fun j y hy => ?_
              rw [List.getElem?_map, List.getElem?_take] at hy
              split at hy
              · rename_i hj
                cases hrj : cs[j]? with
                | none => rw [hrj] at hy; cases hy
                | some z =>
                  rw [hrj] at hy; cases hy
                  have e : ((List.range k).map vs).toArray.getD j undef = vs j := by
                    rw [getD_toArray]; simp [List.getD, hj]
                  rw [e]
                  exact .iv _ _ (hrr j z hrj)
              · cases hy
          | _ => exact hk.elim
        | _ => exact hk.elim
    · have hg : isAggT P t = false := by simpa using hg
      simp only [hg, Bool.false_eq_true, if_false] at hc
      have hc : Rhs.ld x none = r := by simpa using hc
      subst hc
      simp only [stp] at hk
      generalize hax : s.ev x = ax at hx hk
      generalize a.eval x = vx at hx
      cases hx with
      | ptr id off b q o ho hb =>
        simp only [ho] at hk
        cases o with
        | box cs =>
          simp only at hk
          cases hr : cs[off]? with
          | none => rw [hr] at hk; exact hk.elim
          | some y =>
            rw [hr] at hk
            obtain ⟨b', c, e, h1, h2, h3, h4⟩ := h.obs id _ ho
            rw [h1] at hb; cases hb
            have hlt : off < c.size := by rw [h3]; exact (List.getElem?_eq_some_iff.1 hr).1
            exact ⟨_, _, (fun u hx => run_load1 u hu hg (hx.cell (cell_getD h2 hlt))), hk, (h4 off y hr)⟩
        | _ => exact hk.elim
      | ep id sz i off b q o m ho he hi' hb =>
        simp only [ho] at hk
        cases o with
        | list sz' xs =>
          simp only [Ob.dim, Option.some.injEq, Prod.mk.injEq] at he
          obtain ⟨hz, hm0⟩ := he
          have hz := hz.symm
          subst hz; subst hm0
          simp only at hk
          cases hr : at2 xs i off with
          | none => rw [hr] at hk; exact hk.elim
          | some y =>
            rw [hr] at hk
            obtain ⟨h0, h5⟩ := h.obs id _ ho
            rcases h5 with ⟨h1, _⟩ | ⟨b', q', c, e, h1, h2, h3', h3, h4⟩
            · rw [h1] at hb; cases hb
            rw [h1] at hb; cases hb
            obtain ⟨r, hr1, hr2⟩ := at2_lt hr
            have hrl := h0 r (List.mem_of_getElem? hr1)
            have hol := (List.getElem?_eq_some_iff.1 hr2).1
            have hm : (i + 1) * sz ≤ xs.length * sz := Nat.mul_le_mul_right sz (by omega)
            have e2 : (i + 1) * sz = i * sz + sz := by rw [Nat.add_mul]; omega
            exact ⟨_, _, (fun u hx => run_load1 u hu hg (hx.cell (cell_getD h2 (by omega)))), hk, (.iv _ _ (h4 i off y hr))⟩
        | listo z xs hole => exact absurd ho (hno _ _ _ _ _ _ _ hax)
        | _ => exact hk.elim
      | iv y v hy =>
        cases hy with
        | pt cs b off vs hcc hrr =>
          simp only at hk
          cases hr : cs[0]? with
          | none => rw [hr] at hk; exact hk.elim
          | some y =>
            rw [hr] at hk
            have := (hcc 0 y hr).2
            exact ⟨_, _, (fun u hx => run_load1 u hu hg (hx.cell this)), hk, (.iv _ _ (hrr 0 y hr))⟩
        | _ => exact hk.elim
      | _ => exact hk.elim
end
end Go.Vm
end

/- Each operation of the model does what the abstract machine's does: what only computes. -/
section
namespace Go.Vm
section
variable {A : Nat → Prop} {ψ : Pl} {H : Hp} {w : World} {v : Value}
theorem inv_v {x : Value} (h : RAV A ψ H w (.iv (.v x)) v) : v = x := by cases h with | iv _ _ h => cases h; rfl
theorem inv_ptr {id off : Nat} (h : RAV A ψ H w (.ptr id off) v) : ∃ b k o, look H id = some o ∧ ψ id = some (b, k) ∧ v = .pointer (some ⟨b, off, none⟩) := by
  cases h with | ptr _ _ b k o ho hb => exact ⟨b, k, o, ho, hb, rfl⟩
theorem inv_ep {id sz i off : Nat} (h : RAV A ψ H w (.ep id sz i off) v) :
    ∃ b k o m, look H id = some o ∧ o.dim = some (sz, m) ∧ i < m ∧ ψ id = some (b, k) ∧ v = .pointer (some ⟨b, k.1 + (i * sz + off), none⟩) := by
  cases h with | ep _ _ _ _ b k o m ho he hi hb => exact ⟨b, k, o, m, ho, he, hi, hb, rfl⟩
theorem inv_pt {cs : List IV} (h : RAV A ψ H w (.iv (.pt cs)) v) : ∃ (b off : Nat) (vs : Nat → Value), (∀ i c, cs[i]? = some c → A b ∧ w.cell? ⟨b, off + i, none⟩ = some (vs i)) ∧
    (∀ i c, cs[i]? = some c → RIV A w c (vs i)) ∧ v = .pointer (some ⟨b, off, none⟩) := by
  cases h with | iv _ _ h => cases h with | pt _ b off vs h1 h2 => exact ⟨b, off, vs, h1, h2, rfl⟩
theorem inv_agg {cs : List AV} (h : RAV A ψ H w (.agg cs) v) : ∃ vs : Array Value, vs.size = cs.length ∧ (∀ i c, cs[i]? = some c → RAV A ψ H w c (vs.getD i undef)) ∧ v = .agg vs := by
  cases h with | agg _ vs h1 h2 => exact ⟨vs, h1, h2, rfl⟩
theorem inv_tup {cs : List AV} (h : RAV A ψ H w (.tup cs) v) : ∃ vs : Array Value, vs.size = cs.length ∧ (∀ i c, cs[i]? = some c → RAV A ψ H w c (vs.getD i undef)) ∧ v = .tuple vs := by
  cases h with | tup _ vs h1 h2 => exact ⟨vs, h1, h2, rfl⟩
theorem inv_nil {sz : Nat} (h : RAV A ψ H w (.nil sz) v) : v = .slice none 0 0 := by cases h; rfl
theorem inv_lst {sz : Nat} {xs : List (List IV)} (h : RAV A ψ H w (.iv (.lst sz xs)) v) :
    (xs = [] ∧ v = .slice none 0 0) ∨ ∃ (b off cap : Nat) (ad : Addr) (vs : Nat → Nat → Value), (xs ≠ [] → ad = ⟨b, off, none⟩) ∧ (∀ x ∈ xs, x.length = sz) ∧ xs.length ≤ cap ∧
      (∀ i j c, at2 xs i j = some c → A b ∧ w.cell? ⟨b, off + (i * sz + j), none⟩ = some (vs i j)) ∧
      (∀ i j c, at2 xs i j = some c → RIV A w c (vs i j)) ∧ v = .slice (some ad) xs.length cap := by
  cases h with
  | iv _ _ h =>
    cases h with
    | lnil => exact .inl ⟨rfl, rfl⟩
    | lst _ _ b off cap ad vs h1 h2 h3 h4 h5 => exact .inr ⟨b, off, cap, ad, vs, h1, h2, h3, h4, h5, rfl⟩
theorem inv_sl {id sz lo len : Nat} (h : RAV A ψ H w (.sl id sz lo len) v) : ∃ o m, look H id = some o ∧ o.dim = some (sz, m) ∧ lo + len ≤ m ∧
    ((ψ id = none ∧ lo = 0 ∧ len = 0 ∧ v = .slice none 0 0) ∨
      ∃ b k cap ad, ψ id = some (b, k) ∧ (0 < cap → ad = ⟨b, k.1 + lo * sz, none⟩) ∧ len ≤ cap ∧ (lo + cap) * sz ≤ k.2 ∧ v = .slice (some ad) len cap) := by
  cases h with
  | sl0 _ _ o m ho he hb => exact ⟨o, m, ho, he, by omega, .inl ⟨hb, rfl, rfl, rfl⟩⟩
  | sl _ _ _ _ b k cap ad o m ho he hx hb ha hlc hk hm => exact ⟨o, m, ho, he, hx, .inr ⟨b, k, cap, ad, hb, ha, hlc, hk, rfl⟩⟩
theorem slice_of {x : AV} {m : Nat} (h : RAV A ψ H w x v) (hx : (∃ sz, x = .nil sz ∧ m = 0) ∨ (∃ sz xs, x = .iv (.lst sz xs) ∧ m = xs.length) ∨ ∃ id sz lo, x = .sl id sz lo m) :
    ∃ ad cap, v = .slice ad m cap := by
  rcases hx with ⟨sz, rfl, rfl⟩ | ⟨sz, xs, rfl, rfl⟩ | ⟨id, sz, lo, rfl⟩
  · exact ⟨none, 0, inv_nil h⟩
  · rcases inv_lst h with ⟨rfl, rfl⟩ | ⟨b, off, cap, ad, vs, _, _, _, _, _, rfl⟩
    · exact ⟨none, 0, rfl⟩
    · exact ⟨some ad, cap, rfl⟩
  · obtain ⟨_, _, _, _, _, ⟨_, _, rfl, rfl⟩ | ⟨b, k, cap, ad, _, _, _, _, rfl⟩⟩ := inv_sl h
    · exact ⟨none, 0, rfl⟩
    · exact ⟨some ad, cap, rfl⟩
theorem inv_sl_cap {id sz lo len : Nat} {ad : Option Addr} {m cap : Nat} (h : RAV A ψ H w (.sl id sz lo len) (.slice ad m cap)) : cap < 2 ^ 63 := by
  cases h with
  | sl0 => decide
  | sl _ _ _ _ b k cap ad o m ho he hx hb ha hlc hk hm => exact hm
end
section
variable {P : Program} {E : En} {n : Nat} {ψ : Pl} {s : St} {a : Act} {w : World}
variable {dst : Option Nat} {ty : TypeId} {pos : String} {af : Array Edge} {g : Option (Nat × Bool)} {r : Rhs} {d : Nat} {K : St → AV → Prop}
theorem sound_pick {c x y : Operand} (hc : comp P ⟨dst, .pick c x y, ty, pos, af, g⟩ = some r) (h : SimAt E n ψ s a w) (hk : stp P d s K r) :
    DoesV P E n ⟨dst, .pick c x y, ty, pos, af, g⟩ a w K := by
  simp only [comp, Option.some.injEq] at hc; subst hc
  simp only [stp] at hk
  have hx := h.ev c
  generalize s.ev c = ac at hx hk
  split at hk
  · rename_i t
    have hv := inv_v hx
    refine does_pure h (v := if t then a.eval x else a.eval y) (fun u => by simp [execOp, hv, asBool]) hk ?_
    cases t
    · exact h.ev y
    · exact h.ev x
  · exact hk.elim
theorem sound_chk {x : Operand} (hc : comp P ⟨dst, .nilCheck x, ty, pos, af, g⟩ = some r) (h : SimAt E n ψ s a w) (hk : stp P d s K r) :
    DoesV P E n ⟨dst, .nilCheck x, ty, pos, af, g⟩ a w K := by
  simp only [comp, Option.some.injEq] at hc; subst hc
  simp only [stp] at hk
  have hx := h.ev x
  have run : ∀ p, a.eval x = .pointer (some p) → ∀ w : World, (execOp a.eval ⟨dst, .nilCheck x, ty, pos, af, g⟩).run P w = .ok (.value (a.eval x)) w := by
    intro p hp w; simp [execOp, hp]
  generalize s.ev x = ax at hx hk
  split at hk
  · obtain ⟨b, k, o, _, _, e⟩ := inv_ptr hx; exact does_pure h (run _ e) hk hx
  · obtain ⟨b, k, o, m, _, _, _, _, e⟩ := inv_ep hx; exact does_pure h (run _ e) hk hx
  · obtain ⟨b, off, vs, _, _, e⟩ := inv_pt hx; exact does_pure h (run _ e) hk hx
  · exact hk.elim
theorem run_eqGuard {op : BinOp} {t : TypeId} {x y : Operand} {u v : Value} (w : World) (h1 : u ≠ .nilIface) (h2 : ∀ cs, u ≠ .agg cs) : (eqGuard op t x y u v).run P w = .ok () w := by
  unfold eqGuard
  cases u with
  | nilIface => exact absurd rfl h1
  | agg cs => exact absurd rfl (h2 cs)
  | _ => cases op <;> rfl
theorem binV_run {op : BinOp} {u v z : Value} (h : binV op u v = some z) (t : TypeId) :
    z.oneCell' = true ∧ u ≠ .nilIface ∧ (∀ cs, u ≠ .agg cs) ∧ ∀ w : World, (Go.binOp op t u v).run P w = .ok z w := by
  unfold binV at h
  split at h
  · rename_i j x k y
    refine ⟨?_, by simp, by simp, ?_⟩
    · cases op <;> simp only [binI] at h <;> (repeat' split at h) <;> (first | (cases h; rfl) | cases h)
    · intro w
      cases op <;> simp only [binI] at h <;> (repeat' split at h) <;> (first | (cases h; done) | skip) <;> (try subst_vars) <;> cases h <;>
        first
          | (simp_all [Go.binOp, Op.intArith, Op.intDiv, Op.intBits, Op.intCmp, bits2]; done)
          | (rename_i hy; simp only [Go.binOp, Op.shift, if_neg hy, Sem.run_pure, shift2])
  · rename_i x y
    refine ⟨?_, by simp, by simp, ?_⟩
    · cases op <;> simp only [binS] at h <;> (first | (cases h; rfl) | cases h)
    · intro w
      cases op <;> simp only [binS] at h <;> (first | (cases h; done) | skip) <;> cases h <;> simp [Go.binOp, Op.stringOp, strEq, strLt]
  · cases h
theorem sound_bin {op : BinOp} {xt yt : TypeId} {x y : Operand} (h : SimAt E n ψ s a w) (hk : stp P d s K (.bin op x y)) :
    DoesV P E n ⟨dst, .binOp op xt x y yt, ty, pos, af, g⟩ a w K := by
  have hx := h.ev x
  have hy := h.ev y
  simp only [stp] at hk
  generalize s.ev x = ax at hx hk
  generalize s.ev y = ay at hy hk
  split at hk
  · rename_i u v
    have e1 := inv_v hx
    have e2 := inv_v hy
    split at hk
    · rename_i z hz
      obtain ⟨h1, h2, h3, h4⟩ := binV_run (P := P) hz xt
      refine does_pure h (v := z) ?_ hk (rav_v h1)
      exact fun w => by simp [execOp, e1, e2, run_eqGuard w h2 h3, h4 w]
    · exact hk.elim
  · exact hk.elim
theorem run_equalIn_bool (k : Nat) {t : TypeId} (hu : P.underlying t = some .bool) (u v : Bool) (w : World) : (Op.equalIn (k + 1) t (.bool u) (.bool v)).run P w = .ok (u == v) w := by
  simp [Op.equalIn, run_underlying w hu]
theorem run_equal_bool {t : TypeId} (hu : P.underlying t = some .bool) (u v : Bool) (w : World) : (Op.equal t (.bool u) (.bool v)).run P w = .ok (u == v) w :=
  run_equalIn_bool 9999 hu u v w
theorem sound_beq {op : BinOp} {xt yt : TypeId} {x y : Operand} {neg : Bool} (hu : P.underlying xt = some .bool) (hop : op = if neg then .neq else .eql)
    (h : SimAt E n ψ s a w) (hk : stp P d s K (.beq neg x y)) : DoesV P E n ⟨dst, .binOp op xt x y yt, ty, pos, af, g⟩ a w K := by
  have hx := h.ev x
  have hy := h.ev y
  simp only [stp] at hk
  generalize s.ev x = ax at hx hk
  generalize s.ev y = ay at hy hk
  split at hk
  · rename_i u v
    have e1 := inv_v hx
    have e2 := inv_v hy
    refine does_pure h (v := .bool (if neg then u != v else u == v)) ?_ hk (rav_v rfl)
    subst hop
    intro w
    cases neg <;> simp [execOp, e1, e2, run_eqGuard, Go.binOp, run_equal_bool hu, bne]
  · exact hk.elim
theorem run_equalIn_ptr (k : Nat) {t e : TypeId} (hu : P.underlying t = some (.pointer e)) (u v : Option Addr) (w : World) (h : u = none ∨ v = none) :
    (Op.equalIn (k + 1) t (.pointer u) (.pointer v)).run P w = .ok (u.isNone && v.isNone) w := by
  cases u with
  | none => simp [Op.equalIn, run_underlying w hu]
  | some u =>
    rcases h with h | h
    · cases h
    · subst h; simp [Op.equalIn, run_underlying w hu]
theorem run_equal_ptr {t e : TypeId} (hu : P.underlying t = some (.pointer e)) (u v : Option Addr) (w : World) (h : u = none ∨ v = none) :
    (Op.equal t (.pointer u) (.pointer v)).run P w = .ok (u.isNone && v.isNone) w := run_equalIn_ptr 9999 hu u v w h
theorem sound_peq {op : BinOp} {xt yt e : TypeId} {x y : Operand} {neg : Bool} (hu : P.underlying xt = some (.pointer e)) (hop : op = if neg then .neq else .eql)
    (h : SimAt E n ψ s a w) (hk : stp P d s K (.peq neg x y)) : DoesV P E n ⟨dst, .binOp op xt x y yt, ty, pos, af, g⟩ a w K := by
  have hx := h.ev x
  have hy := h.ev y
  simp only [stp] at hk
  have run : ∀ u v : Option Addr, a.eval x = .pointer u → a.eval y = .pointer v → (u = none ∨ v = none) → ∀ w : World,
      (execOp a.eval ⟨dst, .binOp op xt x y yt, ty, pos, af, g⟩).run P w = .ok (.value (.bool (if neg then !(u.isNone && v.isNone) else u.isNone && v.isNone))) w := by
    intro u v e1 e2 hn w
    subst hop
    cases neg <;> simp [execOp, e1, e2, run_eqGuard, Go.binOp, run_equal_ptr hu u v w hn]
  generalize s.ev x = ax at hx hk
  generalize s.ev y = ay at hy hk
  split at hk
  · exact does_pure h (run _ _ (inv_v hx) (inv_v hy) (.inl rfl)) (by cases neg <;> exact hk) (rav_v rfl)
  · obtain ⟨b, k, o, _, _, e2⟩ := inv_ptr hy
    exact does_pure h (run _ _ (inv_v hx) e2 (.inl rfl)) (by cases neg <;> exact hk) (rav_v rfl)
  · obtain ⟨b, off, vs, _, _, e2⟩ := inv_pt hy
    exact does_pure h (run _ _ (inv_v hx) e2 (.inl rfl)) (by cases neg <;> exact hk) (rav_v rfl)
  · obtain ⟨b, k, o, _, _, e1⟩ := inv_ptr hx
    exact does_pure h (run _ _ e1 (inv_v hy) (.inr rfl)) (by cases neg <;> exact hk) (rav_v rfl)
  · obtain ⟨b, off, vs, _, _, e1⟩ := inv_pt hx
    exact does_pure h (run _ _ e1 (inv_v hy) (.inr rfl)) (by cases neg <;> exact hk) (rav_v rfl)
  · exact hk.elim
theorem run_equalIn_slice (k : Nat) {t e : TypeId} (hu : P.underlying t = some (.slice e)) (ad : Option Addr) (m c : Nat) (w : World) :
    (Op.equalIn (k + 1) t (.slice ad m c) (.slice none 0 0)).run P w = .ok ad.isNone w := by
  cases ad <;> simp [Op.equalIn, run_underlying w hu]
theorem run_equal_slice {t e : TypeId} (hu : P.underlying t = some (.slice e)) (ad : Option Addr) (m c : Nat) (w : World) :
    (Op.equal t (.slice ad m c) (.slice none 0 0)).run P w = .ok ad.isNone w := run_equalIn_slice 9999 hu ad m c w
theorem sound_snil {op : BinOp} {xt yt e : TypeId} {x : Operand} {neg : Bool} (hu : P.underlying xt = some (.slice e)) (hop : op = if neg then .neq else .eql)
    (h : SimAt E n ψ s a w) (hk : stp P d s K (.snil neg x)) : DoesV P E n ⟨dst, .binOp op xt x (.const (.slice none 0 0)) yt, ty, pos, af, g⟩ a w K := by
  have hx := h.ev x
  simp only [stp] at hk
  have run : ∀ ad m c, a.eval x = .slice ad m c → ∀ w : World,
      (execOp a.eval ⟨dst, .binOp op xt x (.const (.slice none 0 0)) yt, ty, pos, af, g⟩).run P w = .ok (.value (.bool (if neg then !ad.isNone else ad.isNone))) w := by
    intro ad m c e1 w
    subst hop
    have e2 : a.eval (.const (.slice none 0 0)) = .slice none 0 0 := rfl
    cases neg <;> simp [execOp, e1, e2, run_eqGuard, Go.binOp, run_equal_slice hu ad m c w]
  generalize s.ev x = ax at hx hk
  split at hk
  · exact does_pure h (run _ _ _ (inv_nil hx)) (by cases neg <;> exact hk) (rav_v rfl)
  · rename_i id sz lo m
    obtain ⟨xs, xm, q1, he, q2, ⟨p1, rfl, rfl, e1⟩ | ⟨b, k, cap, ad, p1, p2, p3, p4, e1⟩⟩ := inv_sl hx
    · exact does_pure h (run _ _ _ e1) (hk true (by omega)) (rav_v rfl)
    · exact does_pure h (run _ _ _ e1) (hk false (fun _ => rfl)) (rav_v rfl)
  · rename_i sz xs
    rcases inv_lst hx with ⟨rfl, e1⟩ | ⟨b, off, cap, ad, vs, q1, q2, q3, q4, q5, e1⟩
    · exact does_pure h (run _ _ _ e1) (hk true (fun h => absurd rfl h)) (rav_v rfl)
    · exact does_pure h (run _ _ _ e1) (hk false (fun _ => rfl)) (rav_v rfl)
  · exact hk.elim
theorem sound_un {op : UnOp} {xt : TypeId} {x : Operand} (h : SimAt E n ψ s a w) (hk : stp P d s K (.un op x)) :
    DoesV P E n ⟨dst, .unOp op xt x, ty, pos, af, g⟩ a w K := by
  have hx := h.ev x
  simp only [stp] at hk
  generalize s.ev x = ax at hx hk
  split at hk
  · rename_i v
    have e1 := inv_v hx
    split at hk
    · rename_i z hz
      have : z.oneCell' = true ∧ ∀ w : World, (Op.unary op v).run P w = .ok z w := by
        unfold unV at hz
        (repeat' split at hz) <;> cases hz <;> exact ⟨rfl, fun _ => rfl⟩
      refine does_pure h (v := z) ?_ hk (rav_v this.1)
      exact fun w => by simp [execOp, e1, this.2 w]
    · exact hk.elim
  · exact hk.elim
theorem sound_cvt {sr ds : TypeId} {x : Operand} {k j : IntKind} (h1 : P.underlying sr = some (.int j)) (h2 : P.underlying ds = some (.int k)) (h : SimAt E n ψ s a w)
    (hk : stp P d s K (.cvt k x)) : DoesV P E n ⟨dst, .convert sr ds x, ty, pos, af, g⟩ a w K := by
  have hx := h.ev x
  simp only [stp] at hk
  generalize s.ev x = ax at hx hk
  split at hk
  · rename_i q m
    have e1 := inv_v hx
    refine does_pure h (v := .int k (k.wrap m)) ?_ hk (rav_v rfl)
    exact fun w => by simp [execOp, e1, convert, run_underlying w h1, run_underlying w h2, Conv.intToInt]
  · exact hk.elim
theorem sound_ext {x : Operand} {i : Nat} (h : SimAt E n ψ s a w) (hk : stp P d s K (.ext i x)) : DoesV P E n ⟨dst, .extract x i, ty, pos, af, g⟩ a w K := by
  have hx := h.ev x
  simp only [stp] at hk
  generalize s.ev x = ax at hx hk
  split at hk
  · rename_i vs
    obtain ⟨us, h1, h2, e⟩ := inv_tup hx
    split at hk
    · rename_i y hy
      have hi := (List.getElem?_eq_some_iff.1 hy).1
      refine does_pure h (v := us.getD i undef) ?_ hk (h2 i y hy)
      have : us[i]? = some (us.getD i undef) := getD_some (by omega)
      exact fun w => by simp only [execOp, e, Instr.extract, this, Sem.run_bind, Sem.run_pure, Result.andThen_ok]
    · exact hk.elim
  · exact hk.elim
theorem run_len {t : TypeId} {e : TypeId} (hu : P.underlying t = some (.slice e)) (ad : Option Addr) (m cap : Nat) (w : World) (ts : Array TypeId) (h0 : ts[0]? = some t) (ty : TypeId) :
    (Builtin.len_ ts ty #[.slice ad m cap]).run P w = .ok (.int .i64 m) w := by
  simp [Builtin.len_, h0, run_underlying w hu, goInt]
theorem run_lenS {t : TypeId} (hu : P.underlying t = some .string) (x : ByteArray) (w : World) (ts : Array TypeId) (h0 : ts[0]? = some t) (ty : TypeId) :
    (Builtin.len_ ts ty #[.string x]).run P w = .ok (.int .i64 x.size) w := by
  simp [Builtin.len_, h0, run_underlying w hu, goInt]
end
end Go.Vm
end

/- Each operation of the model does what the abstract machine's does: slices, addresses, new variables. -/
section
namespace Go.Vm
section
variable {P : Program} {E : En} {n : Nat} {ψ : Pl} {s : St} {a : Act} {w : World}
variable {dst : Option Nat} {ty : TypeId} {pos : String} {af : Array Edge} {g : Option (Nat × Bool)} {r : Rhs} {d : Nat} {K : St → AV → Prop}
theorem run_call_len {x : Operand} {ts : Array TypeId} {v : Value} {w : World} (hv : (Builtin.len_ ts ty #[a.eval x]).run P w = .ok v w) :
    (execOp a.eval ⟨dst, .call ⟨.builtin .len, #[x], ts⟩, ty, pos, af, g⟩).run P w = .ok (.value v) w := by
  simp only [execOp, resolve, Sem.run_bind, Sem.run_pure, Result.andThen_ok, invoke, builtin]
  simp [hv]
theorem sound_len {x : Operand} {t e : TypeId} {ts : Array TypeId} (h0 : ts[0]? = some t) (hu : P.underlying t = some (.slice e))
    (h : SimAt E n ψ s a w) (hk : stp P d s K (.len x)) : DoesV P E n ⟨dst, .call ⟨.builtin .len, #[x], ts⟩, ty, pos, af, g⟩ a w K := by
  have hx := h.ev x
  simp only [stp] at hk
  have run : ∀ ad m cap, a.eval x = .slice ad m cap → ∀ w : World, (execOp a.eval ⟨dst, .call ⟨.builtin .len, #[x], ts⟩, ty, pos, af, g⟩).run P w = .ok (.value (.int .i64 m)) w := by
    intro ad m cap e1 w
    exact run_call_len (by rw [e1]; exact run_len hu _ _ _ _ _ h0 _)
  generalize s.ev x = ax at hx hk
  split at hk
  · rename_i sz xs
    obtain ⟨ad, cap, e1⟩ := slice_of hx (.inr (.inl ⟨sz, xs, rfl, rfl⟩))
    exact does_pure h (run _ _ _ e1) hk (rav_v rfl)
  · rename_i id sz lo m
    obtain ⟨ad, cap, e1⟩ := slice_of hx (.inr (.inr ⟨id, sz, lo, rfl⟩))
    exact does_pure h (run _ _ _ e1) hk (rav_v rfl)
  · rename_i sz
    obtain ⟨ad, cap, e1⟩ := slice_of hx (.inl ⟨sz, rfl, rfl⟩)
    exact does_pure h (run _ _ _ e1) hk (rav_v rfl)
  · exact hk.elim
theorem sound_lens {x : Operand} {t : TypeId} {ts : Array TypeId} (h0 : ts[0]? = some t) (hu : P.underlying t = some .string)
    (h : SimAt E n ψ s a w) (hk : stp P d s K (.lens x)) : DoesV P E n ⟨dst, .call ⟨.builtin .len, #[x], ts⟩, ty, pos, af, g⟩ a w K := by
  have hx := h.ev x
  simp only [stp] at hk
  generalize s.ev x = ax at hx hk
  split at hk
  · have e1 := inv_v hx
    exact does_pure h (fun w => run_call_len (by rw [e1]; exact run_lenS hu _ _ _ h0 _)) hk (rav_v rfl)
  · exact hk.elim
theorem sound_fa {sT : TypeId} {x : Operand} {i : Nat} {fs : Array Field} {f : Field} {q : Nat} (hu : P.underlying sT = some (.struct fs)) (hf : fs[i]? = some f)
    (hq : infoSize P f.type = some q) (hq0 : q ≠ 0) (h : SimAt E n ψ s a w) (hk : stp P d s K (.fa f.offset x)) : DoesV P E n ⟨dst, .fieldAddr sT x i, ty, pos, af, g⟩ a w K := by
  have hx := h.ev x
  simp only [stp] at hk
  have run : ∀ b o, a.eval x = .pointer (some ⟨b, o, none⟩) → ∀ w : World, (execOp a.eval ⟨dst, .fieldAddr sT x i, ty, pos, af, g⟩).run P w = .ok (.value (.pointer (some ⟨b, o + f.offset, none⟩))) w := by
    intro b o e w
    simp only [execOp, Instr.fieldAt, e, sure, Sem.run_bind, run_underlying w hu, Result.andThen_ok, hf, Sem.run_pure', fieldPlace, run_sizeOf w hq, if_neg hq0, Sem.run_pure, addr_add]
  generalize s.ev x = ax at hx hk
  split at hk
  · obtain ⟨b, k, o, h1, h2, e⟩ := inv_ptr hx
    exact does_pure h (run _ _ e) hk (.ptr _ _ b k o h1 h2)
  · rename_i id sz' i' off
    obtain ⟨b, k, o2, m2, h1, he, h2, h3, e⟩ := inv_ep hx
    refine does_pure h (run _ _ e) hk ?_
    rw [show k.1 + (i' * sz' + off) + f.offset = k.1 + (i' * sz' + (off + f.offset)) from by omega]
    exact .ep _ _ _ _ b k o2 m2 h1 he h2 h3
  · obtain ⟨b, o, vs, h1, h2, e⟩ := inv_pt hx
    refine does_pure h (run _ _ e) hk (.iv _ _ (.pt _ b _ (fun j => vs (f.offset + j)) (fun j c hj => ?_) (fun j c hj => ?_)))
    · rw [List.getElem?_drop] at hj
      obtain ⟨g1, g2⟩ := h1 _ _ hj
      exact ⟨g1, by rw [Nat.add_assoc]; exact g2⟩
    · rw [List.getElem?_drop] at hj
      exact h2 _ _ hj
  · exact hk.elim
theorem part_one {t : TypeId} {dd : TypeDesc} (hu : P.underlying t = some dd) (hg : isAggT P t = false) {vs : Array Value} {off : Nat} (ho : off < vs.size) (w : World) :
    (part t vs off).run P w = .ok (vs.getD off undef) w := by
  simp only [part, Sem.run_bind, run_isAgg w hu, Result.andThen_ok, hg, Bool.false_eq_true, if_false, getD_some ho (d := undef), Sem.run_pure]
theorem part_agg {t : TypeId} {dd : TypeDesc} (hu : P.underlying t = some dd) (hg : isAggT P t = true) {q : Nat} (hq : infoSize P t = some q) (vs : Array Value) (off : Nat) (w : World) :
    (part t vs off).run P w = .ok (.agg (vs.extract off (off + q))) w := by
  simp only [part, Sem.run_bind, run_isAgg w hu, Result.andThen_ok, hg, if_true, run_sizeOf w hq, Sem.run_pure]
theorem extract_eq (vs : Array Value) (off q : Nat) : vs.extract off (off + q) = ((vs.toList.drop off).take q).toArray := by
  apply Array.ext'
  simp [Array.toList_extract, List.take_drop, List.extract_eq_take_drop, Nat.add_comm]
theorem sound_fld {sT : TypeId} {x : Operand} {i : Nat} {fs : Array Field} {f : Field} {q : Nat} {dd : TypeDesc} (hu : P.underlying sT = some (.struct fs)) (hf : fs[i]? = some f)
    (hq : infoSize P f.type = some q) (hd : P.underlying f.type = some dd) (h : SimAt E n ψ s a w) (hk : stp P d s K (.fld f.offset (if isAggT P f.type then some q else none) x)) :
    DoesV P E n ⟨dst, .field sT x i, ty, pos, af, g⟩ a w K := by
  have hx := h.ev x
  have run : ∀ vs v, a.eval x = .agg vs → (∀ w : World, (part f.type vs f.offset).run P w = .ok v w) → ∀ w : World, (execOp a.eval ⟨dst, .field sT x i, ty, pos, af, g⟩).run P w = .ok (.value v) w := by
    intro vs v e hv w
    simp only [execOp, Instr.field, e, Sem.run_bind, run_underlying w hu, Result.andThen_ok, hf, asAgg, Sem.run_pure, hv w]
  by_cases hg : isAggT P f.type = true
  · rw [if_pos hg] at hk
    simp only [stp] at hk
    generalize s.ev x = ax at hx hk
    split at hk
    · rename_i cs
      obtain ⟨hl, hk⟩ := hk
      obtain ⟨vs, h1, h2, e⟩ := inv_agg hx
      refine does_pure h (run _ _ e (part_agg hd hg hq vs f.offset)) hk ?_
      rw [extract_eq]
      exact agg_drop_take h2 hl (by omega)
    · exact hk.elim
  · have hg : isAggT P f.type = false := by simpa using hg
    rw [hg] at hk
    simp only [Bool.false_eq_true, if_false, stp] at hk
    generalize s.ev x = ax at hx hk
    split at hk
    · rename_i cs
      obtain ⟨vs, h1, h2, e⟩ := inv_agg hx
      split at hk
      · rename_i y hy
        have := (List.getElem?_eq_some_iff.1 hy).1
        exact does_pure h (run _ _ e (part_one hd hg (by omega))) hk (h2 _ y hy)
      · exact hk.elim
    · exact hk.elim
theorem sound_ia {t e : TypeId} {x i : Operand} {sz : Nat} (hu : P.underlying t = some (.slice e)) (hsz : infoSize P e = some sz) (h : SimAt E n ψ s a w)
    (hk : stp P d s K (.ia sz x i)) : DoesV P E n ⟨dst, .indexAddr t x i, ty, pos, af, g⟩ a w K := by
  have hx := h.ev x
  have hi := h.ev i
  simp only [stp] at hk
  have run : ∀ ad m cap k j, a.eval x = .slice (some ad) m cap → a.eval i = .int k j → 0 ≤ j → j < m → ∀ w : World,
      (execOp a.eval ⟨dst, .indexAddr t x i, ty, pos, af, g⟩).run P w = .ok (.value (.pointer (some (ad.add (j.toNat * sz))))) w := by
    intro ad m cap k j e1 e2 h1 h2 w
    simp [execOp, Instr.indexAt, e1, e2, asIntOf, run_underlying w hu, run_sizeOf w hsz, h1, h2]
  generalize s.ev x = ax at hx hk
  generalize s.ev i = ai at hi hk
  split at hk
  · rename_i sz' xs k m
    obtain ⟨rfl, hm, hk⟩ := hk
    have e2 := inv_v hi
    split at hk
    · rename_i r hr
      have hlt := (List.getElem?_eq_some_iff.1 hr).1
      rcases inv_lst hx with ⟨rfl, _⟩ | ⟨b, off, cap, ad, vs, g1, g2, g3, g4, g5, e1⟩
      · simp at hlt
      · have hne : xs ≠ [] := by rintro rfl; simp at hlt
        have g1 := g1 hne
        subst g1
        refine does_pure h (run _ _ _ _ _ e1 e2 hm (by omega)) hk ?_
        rw [addr_add]
        refine .iv _ _ (.pt r b _ (fun j => vs m.toNat j) (fun j c hj => ?_) (fun j c hj => g5 _ _ _ (at2_of hr hj)))
        obtain ⟨q1, q2⟩ := g4 _ _ _ (at2_of hr hj)
        exact ⟨q1, by rw [Nat.add_assoc]; exact q2⟩
    · exact hk.elim
  · rename_i id sz' o kk k m
    obtain ⟨rfl, hm, hm2, hk⟩ := hk
    have e2 := inv_v hi
    obtain ⟨xs, xm, q1, he, q2, ⟨_, _, rfl, _⟩ | ⟨b, c, cap, ad, p1, p2, p3, p4, e1⟩⟩ := inv_sl hx
    · omega
    · refine does_pure h (run _ _ _ _ _ e1 e2 hm (by omega)) hk ?_
      rw [p2 (by omega), addr_add, show c.1 + o * sz' + m.toNat * sz' = c.1 + ((o + m.toNat) * sz' + 0) from by rw [Nat.add_mul]; omega]
      exact .ep id sz' (o + m.toNat) 0 b c xs xm q1 he (by omega) p1
  · exact hk.elim
theorem sound_is {t : TypeId} {x i : Operand} (hu : P.underlying t = some .string) (h : SimAt E n ψ s a w)
    (hk : stp P d s K (.is x i)) : DoesV P E n ⟨dst, .index t x i, ty, pos, af, g⟩ a w K := by
  have hx := h.ev x
  have hi := h.ev i
  simp only [stp] at hk
  generalize s.ev x = ax at hx hk
  generalize s.ev i = ai at hi hk
  split at hk
  · rename_i t' k m
    obtain ⟨hm, hk⟩ := hk
    have e1 := inv_v hx
    have e2 := inv_v hi
    split at hk
    · rename_i b hb
      refine does_pure h (v := .int .u8 b.toNat) ?_ hk (rav_v rfl)
      exact fun w => by simp [execOp, Instr.index, e1, e2, asIntOf, run_underlying w hu, hm, hb]
    · exact hk.elim
  · exact hk.elim
theorem run_bound {x : Operand} {k : IntKind} {m : Int} (hx : a.eval x = .int k m) {y : Nat} (h0 : 0 ≤ m) (h1 : m ≤ y) (code : BoundsCode) (w : World) :
    (Instr.sliceBound (a.eval x) y code).run P w = .ok m.toNat w := by
  simp [Instr.sliceBound, hx, asIntOf, h0, h1]
theorem bound_some {x : Operand} {dflt : Nat} {m : Int} (h : SimAt E n ψ s a w) (hb : s.bound dflt (some x) = some m) : ∃ k, a.eval x = .int k m := by
  have hx := h.ev x
  simp only [St.bound] at hb
  generalize s.ev x = ax at hx hb
  split at hb
  · rename_i k q
    cases hb
    exact ⟨k, inv_v hx⟩
  · cases hb
theorem run_bounds {lo hi : Option Operand} {len cap : Nat} {l m : Int} (h : SimAt E n ψ s a w) (hl : s.bound 0 lo = some l) (hh : s.bound len hi = some m) (h0 : 0 ≤ l) (h1 : l ≤ m)
    (h2 : m ≤ len) (h3 : len ≤ cap) (w' : World) : (Instr.sliceBounds true len cap (lo.map a.eval) (hi.map a.eval) none).run P w' = .ok (l.toNat, m.toNat, cap) w' := by
  have hlo : lo = none → l = 0 := by rintro rfl; simpa [St.bound, eq_comm] using hl
  have hhi : hi = none → m = len := by rintro rfl; simpa [St.bound, eq_comm] using hh
  have rl : ∀ x, lo = some x → ∀ y : Nat, l ≤ y → ∀ c, (Instr.sliceBound (a.eval x) y c).run P w' = .ok l.toNat w' := by
    rintro x rfl y hy c
    obtain ⟨k, e⟩ := bound_some h hl
    exact run_bound e h0 hy c w'
  have rh : ∀ x, hi = some x → ∀ y : Nat, m ≤ y → ∀ c, (Instr.sliceBound (a.eval x) y c).run P w' = .ok m.toNat w' := by
    rintro x rfl y hy c
    obtain ⟨k, e⟩ := bound_some h hh
    exact run_bound e (by omega) hy c w'
  unfold Instr.sliceBounds
  cases hi with
  | none =>
    have hm := hhi rfl
    have hm' : m.toNat = len := by omega
    cases lo with
    | none => have hl0 := hlo rfl; subst hl0; simp [hm']
    | some x => simp [rl x rfl len (by omega), hm']
  | some y =>
    cases lo with
    | none => have hl0 := hlo rfl; subst hl0; simp [rh y rfl cap (by omega)]
    | some x => simp [rh y rfl cap (by omega), rl x rfl m.toNat (by omega)]
theorem sound_cut {t e : TypeId} {x : Operand} {lo hi : Option Operand} {sz : Nat} (hu : P.underlying t = some (.slice e)) (hsz : infoSize P e = some sz) (h : SimAt E n ψ s a w)
    (hk : stp P d s K (.cut sz x lo hi)) : DoesV P E n ⟨dst, .slice t x lo hi none, ty, pos, af, g⟩ a w K := by
  have hx := h.ev x
  simp only [stp] at hk
  have run : ∀ ad len cap l m, a.eval x = .slice ad len cap → s.bound 0 lo = some l → s.bound len hi = some m → 0 ≤ l → l ≤ m → m ≤ len → len ≤ cap → ∀ w : World,
      (execOp a.eval ⟨dst, .slice t x lo hi none, ty, pos, af, g⟩).run P w =
        .ok (.value (.slice (if cap = l.toNat then ad else ad.map (·.add (l.toNat * sz))) (m.toNat - l.toNat) (cap - l.toNat))) w := by
    intro ad len cap l m e1 hl hm g0 g1 g2 g3 w
    simp only [execOp, Option.map_none, Instr.sliceAt, Instr.slice, e1, Sem.run_bind, run_underlying w hu, Result.andThen_ok, run_bounds h hl hm g0 g1 g2 g3 w, run_sizeOf w hsz, Sem.run_pure]
  generalize s.ev x = ax at hx hk
  split at hk
  · rename_i sz' xs
    split at hk
    · rename_i l m hl hm
      obtain ⟨rfl, g0, g1, g2, hk⟩ := hk
      rcases inv_lst hx with ⟨rfl, e1⟩ | ⟨b, off, cap, ad, vs, q1, q2, q3, q4, q5, e1⟩
      · simp only [List.length_nil] at hm g2
        refine does_pure h (run _ _ _ _ _ e1 hl hm g0 g1 (by simpa using g2) (Nat.le_refl _)) hk ?_
        have hl0 : l = 0 := by simp at g2; omega
        have hm0 : m = 0 := by simp at g2; omega
        subst hl0; subst hm0
        simp
        exact .iv _ _ (.lnil _)
      · refine does_pure h (run _ _ _ _ _ e1 hl hm g0 g1 g2 q3) hk ?_
        have hlen : ((xs.drop l.toNat).take (m - l).toNat).length = m.toNat - l.toNat := by simp; omega
        have key := RIV.lst (A := Im E ψ s.hp) (w := w) sz' ((xs.drop l.toNat).take (m - l).toNat) b (off + l.toNat * sz') (cap - l.toNat)
          (if cap = l.toNat then ad else ad.add (l.toNat * sz')) (fun i j => vs (l.toNat + i) j)
          (fun hne => by
            have h1 : 0 < m.toNat - l.toNat := by
              rcases Nat.eq_zero_or_pos (m.toNat - l.toNat) with h0 | h0
              · exact absurd (List.eq_nil_of_length_eq_zero (by omega)) hne
              · exact h0
            have hne' : xs ≠ [] := by rintro rfl; simp at g2; omega
            rw [if_neg (by omega), q1 hne', addr_add])
          (fun y hy => q2 y (List.mem_of_mem_drop (List.mem_of_mem_take hy))) (by omega)
          (fun i j c hij => by
            obtain ⟨p1, p2⟩ := q4 _ _ _ (at2_drop_take _ _ _ _ _ _ hij)
            refine ⟨p1, ?_⟩
            rw [← p2, Nat.add_mul]
            congr 2
            omega)
          (fun i j c hij => q5 _ _ _ (at2_drop_take _ _ _ _ _ _ hij))
        rw [hlen] at key
        refine .iv _ _ ?_
        have e3 : (if cap = l.toNat then some ad else Option.map (fun x => x.add (l.toNat * sz')) (some ad)) = some (if cap = l.toNat then ad else ad.add (l.toNat * sz')) := by
          split <;> rfl
        rw [e3]
        exact key
    · exact hk.elim
  · rename_i id sz' o len
    split at hk
    · rename_i l m hl hm
      obtain ⟨rfl, g0, g1, g2, hk⟩ := hk
      obtain ⟨xs, xm, q1, he, q2, ⟨p1, rfl, rfl, e1⟩ | ⟨b, c, cap, ad, p1, p2, p3, p4, e1⟩⟩ := inv_sl hx
      · refine does_pure h (run _ _ _ _ _ e1 hl hm g0 g1 (by omega) (Nat.le_refl _)) hk ?_
        have hl0 : l = 0 := by omega
        have hm0 : m = 0 := by omega
        subst hl0; subst hm0
        simp
        exact .sl0 id sz' xs xm q1 he p1
      · refine does_pure h (run _ _ _ _ _ e1 hl hm g0 g1 (by omega) p3) hk ?_
        have e3 : (if cap = l.toNat then some ad else Option.map (fun x => x.add (l.toNat * sz')) (some ad)) = some (if cap = l.toNat then ad else ad.add (l.toNat * sz')) := by
          split <;> rfl
        rw [e3, show m.toNat - l.toNat = (m - l).toNat from by omega]
        refine .sl id sz' (o + l.toNat) (m - l).toNat b c (cap - l.toNat) _ xs xm q1 he (by omega) p1 (fun hc => ?_) (by omega) ?_ (by rw [e1] at hx; have := inv_sl_cap hx; omega)
        · rw [if_neg (by omega), p2 (by omega), addr_add, Nat.add_mul, Nat.add_assoc]
        · refine Nat.le_trans ?_ p4
          exact Nat.mul_le_mul_right sz' (by omega)
    · exact hk.elim
  · rename_i sz'
    split at hk
    · rename_i l m hl hm
      obtain ⟨rfl, rfl, hk⟩ := hk
      have e1 := inv_nil hx
      refine does_pure h (run _ _ _ _ _ e1 hl hm (by omega) (by omega) (by omega) (Nat.le_refl _)) hk ?_
      simp
      exact .nil _
    · exact hk.elim
  · exact hk.elim
end
end Go.Vm
end

/- Each operation of the model does what the abstract machine's does: new objects, stores. -/
section
namespace Go.Vm
theorem zcells_length : ∀ (vs : List Value) (q : List Nat), (zcells vs q).length = vs.length := by
  intro vs
  induction vs with
  | nil => intro q; cases q <;> rfl
  | cons v vs ih => intro q; cases q <;> simp [zcells, ih]
theorem zcells_get : ∀ (vs : List Value) (q : List Nat) (i : Nat) (x : AV), (zcells vs q)[i]? = some x → ∃ sz, x = zav sz (vs.getD i undef) := by
  intro vs
  induction vs with
  | nil => intro q i x h; cases q <;> simp [zcells] at h
  | cons v vs ih =>
    intro q i x h
    cases q with
    | nil =>
      cases i with
      | zero => simp only [zcells, List.getElem?_cons_zero, Option.some.injEq] at h; exact ⟨0, h.symm⟩
      | succ i => simp only [zcells, List.getElem?_cons_succ] at h; obtain ⟨sz, e⟩ := ih _ _ _ h; exact ⟨sz, by simpa using e⟩
    | cons k q =>
      cases i with
      | zero => simp only [zcells, List.getElem?_cons_zero, Option.some.injEq] at h; exact ⟨k, h.symm⟩
      | succ i => simp only [zcells, List.getElem?_cons_succ] at h; obtain ⟨sz, e⟩ := ih _ _ _ h; exact ⟨sz, by simpa using e⟩
theorem toList_getD (c : Array Value) (i : Nat) : c.toList.getD i undef = c.getD i undef := by
  simp [List.getD, Array.getD_eq_getD_getElem?]
theorem cellsOf_rav {A : Nat → Prop} {ψ : Pl} {H : Hp} {w : World} {x : AV} {v : Value} (h : RAV A ψ H w x v) {cs : List AV} (hc : x.cellsOf = some cs) :
    v.cells.size = cs.length ∧ ∀ i c, cs[i]? = some c → RAV A ψ H w c (v.cells.getD i undef) := by
  have one : v.oneCell' = true → cs = [x] → v.cells.size = cs.length ∧ ∀ i c, cs[i]? = some c → RAV A ψ H w c (v.cells.getD i undef) := by
    rintro h1 rfl
    rw [stepOne h1]
    refine ⟨rfl, fun i c hi => ?_⟩
    cases i with
    | zero => simp at hi; subst hi; exact h
    | succ i => simp at hi
  cases h with
  | agg cs' vs hl hh => simp only [AV.cellsOf, Option.some.injEq] at hc; subst hc; exact ⟨hl, hh⟩
  | tup => simp [AV.cellsOf] at hc
  | un => simp [AV.cellsOf] at hc
  | junk => simp [AV.cellsOf] at hc
  | iv x v h' => exact one h'.one (by simpa [AV.cellsOf, eq_comm] using hc)
  | nil => exact one rfl (by simpa [AV.cellsOf, eq_comm] using hc)
  | sl0 => exact one rfl (by simpa [AV.cellsOf, eq_comm] using hc)
  | sl => exact one rfl (by simpa [AV.cellsOf, eq_comm] using hc)
  | ptr => exact one rfl (by simpa [AV.cellsOf, eq_comm] using hc)
  | ep => exact one rfl (by simpa [AV.cellsOf, eq_comm] using hc)
  | mpr => exact one rfl (by simpa [AV.cellsOf, eq_comm] using hc)
  | fn => exact one rfl (by simpa [AV.cellsOf, eq_comm] using hc)
theorem look_drop (s : St) (id : Nat) : look (s.drop id).hp id = none := by
  unfold St.drop
  split
  · assumption
  · simp only [look_filter, if_true]
section
variable {P : Program} {E : En} {n : Nat} {ψ : Pl} {s : St} {a : Act} {w : World}
variable {dst : Option Nat} {ty : TypeId} {pos : String} {af : Array Edge} {g : Option (Nat × Bool)} {r : Rhs} {d : Nat} {K : St → AV → Prop}
theorem heap_alloc_new (w : World) (o : Obj) : (w.alloc o).heap[w.heap.size]? = some o := by
  show (w.heap.push o)[w.heap.size]? = _
  simp
theorem sound_mov {o : Op} {x : Operand} (ho : o = .move x ∨ o = .assign x) (h : SimAt E n ψ s a w) (hk : stp P d s K (.mov x)) :
    DoesV P E n ⟨dst, o, ty, pos, af, g⟩ a w K := by
  simp only [stp] at hk
  refine does_pure h (v := a.eval x) ?_ hk (h.ev x)
  exact fun w => by rcases ho with rfl | rfl <;> rfl
theorem sound_nils {o : Op} {sz : Nat} (ho : o = .move (.const (.slice none 0 0)) ∨ o = .assign (.const (.slice none 0 0))) (hd : d < 1000) (h : SimAt E n ψ s a w)
    (hk : stp P d s K (.nils sz)) : Does P E n ⟨dst, o, ty, pos, af, g⟩ a w K := by
  simp only [stp] at hk
  have h1 := h.drop (id := d) hd
  have h2 := h1.new (o := .list sz []) (p := none) hd (look_drop s d) (Ext.refl w) (fun _ _ e => by cases e)
    ⟨(fun x hx => by cases hx), .inl ⟨by simp [upd], rfl⟩⟩
  refine does_run (v := .slice none 0 0) ?_ hk h2 ?_
  · rcases ho with rfl | rfl <;> rfl
  · exact .sl0 d sz (.list sz []) 0 (by simp [look_add]) rfl (by simp [upd])
theorem does_new {o : Oper} {cs : List AV} {c : Array Value} {t : TypeId} (hd : d < 1000) (h : SimAt E n ψ s a w) (hlen : c.size = cs.length)
    (hc : ∀ i x, cs[i]? = some x → RAV (Im E ψ (s.drop d).hp) ψ (s.drop d).hp w x (c.getD i undef))
    (hr : (execOp a.eval o).run P w = .ok (.value (.pointer (some ⟨w.heap.size, 0, none⟩))) (w.alloc (.cells c t)))
    (hk : K ((s.drop d).add d (.box cs)) (.ptr d 0)) : Does P E n o a w K := by
  have h1 := h.drop (id := d) hd
  have hno := look_drop s d
  have hkeep : ∀ q, Keeps ψ (upd ψ d q) (s.drop d).hp ((s.drop d).add d (.box cs)).hp := by
    intro q k ob hk
    have hne : k ≠ d := by rintro rfl; rw [hno] at hk; cases hk
    exact ⟨⟨ob, by rw [look_add, if_neg (Ne.symm hne)]; exact hk, ob.le_refl⟩, by simp [upd, hne]⟩
  have h2 := h1.new (o := .box cs) (p := some (w.heap.size, (0, c.size))) hd hno (Ext.alloc w (.cells c t)) (fun b k e => by cases e; exact Nat.le_refl _)
    ⟨w.heap.size, c, t, by simp [upd], heap_alloc_new _ _, hlen, fun i x hx =>
      (hc i x hx).mono (fun b hb hi => ⟨hb, hi⟩) (fun b hb _ => (Ext.alloc w (.cells c t)).block b hb) (hkeep _)⟩
  exact does_run hr hk h2 (.ptr d 0 w.heap.size (0, c.size) (.box cs) (by simp [look_add]) (by simp [upd]))
theorem zeroAV_some {t : TypeId} {z : List AV} (hz : zeroAV P t = some z) : ∃ i zv, P.info? t = some i ∧ i.zero = some zv ∧ z = zcells zv.cells.toList (cellSz P 20 t) := by
  unfold zeroAV at hz
  cases hi : P.info? t with
  | none => rw [hi] at hz; cases hz
  | some i =>
    rw [hi] at hz
    cases hv : i.zero with
    | none => simp [hv] at hz
    | some zv => simp [hv] at hz; exact ⟨i, zv, rfl, hv, hz.symm⟩
theorem run_zero {t : TypeId} {i : TypeInfo} {zv : Value} (h1 : P.info? t = some i) (h2 : i.zero = some zv) (w : World) : (zeroValue t).run P w = .ok zv w := by
  simp [zeroValue, typeInfo, h1, h2]
theorem sound_alloc {t : TypeId} {z : List AV} (hz : zeroAV P t = some z) (hd : d < 1000) (h : SimAt E n ψ s a w) (hk : stp P d s K (.alloc z)) :
    Does P E n ⟨dst, .alloc t, ty, pos, af, g⟩ a w K := by
  simp only [stp] at hk
  obtain ⟨i, zv, h1, h2, rfl⟩ := zeroAV_some hz
  refine does_new (c := zv.cells) (t := t) hd h (by rw [zcells_length]; simp) (fun j x hx => ?_) ?_ hk
  · obtain ⟨sz, e⟩ := zcells_get _ _ _ _ hx
    rw [e, toList_getD]
    exact rav_zav _ _
  · simp [execOp, Instr.alloc, run_zero h1 h2, newVar, newRow]
theorem sound_box {t : TypeId} {x : Operand} (hd : d < 1000) (h : SimAt E n ψ s a w) (hk : stp P d s K (.box x)) :
    Does P E n ⟨dst, .box t x, ty, pos, af, g⟩ a w K := by
  simp only [stp] at hk
  have hx := (h.drop (id := d) hd).ev x
  split at hk
  · rename_i cs hcs
    obtain ⟨g1, g2⟩ := cellsOf_rav hx hcs
    refine does_new (c := (a.eval x).cells) (t := t) hd h g1 g2 ?_ hk
    simp [execOp, Instr.box, newVar, newRow]
  · exact hk.elim
theorem mmFrom_run {mx : Bool} : ∀ (l : List AV) (vs : List Value) (k : IntKind) (m : Int) {k' : IntKind} {m' : Int} {A : Nat → Prop} {H : Hp},
    vs.length = l.length → (∀ i x, l[i]? = some x → RAV A ψ H w x (vs.getD i undef)) → mmFrom mx k m l = some (k', m') →
    (vs.foldlM (if mx then Builtin.max2 else Builtin.min2) (.int k m) : Sem Value).run P w = .ok (.int k' m') w := by
  intro l
  induction l with
  | nil =>
    intro vs k m k' m' A H hl _ he
    cases vs with
    | nil => simp only [mmFrom, Option.some.injEq, Prod.mk.injEq] at he; obtain ⟨rfl, rfl⟩ := he; rfl
    | cons => simp at hl
  | cons x l ih =>
    intro vs k m k' m' A H hl hv he
    cases vs with
    | nil => simp at hl
    | cons v vs =>
      unfold mmFrom at he
      split at he
      · cases he_1 : (v :: vs)[0]? <;> simp_all
      · rename_i k2 m2 r heq
        cases heq
        have h0 := hv 0 _ rfl
        have hv0 : v = .int k2 m2 := by simpa using inv_v h0
        subst hv0
        rw [List.foldlM_cons]
        have e : ((if mx then Builtin.max2 else Builtin.min2) (.int k m) (.int k2 m2) : Sem Value).run P w = .ok (.int k (if mx then max m m2 else min m m2)) w := by
          cases mx
          · simp only [Bool.false_eq_true, if_false, Builtin.min2, Sem.run_pure]
            congr 2; rw [Int.min_def]; split <;> split <;> omega
          · simp only [if_true, Builtin.max2, Sem.run_pure]
            congr 2; rw [Int.max_def]; split <;> split <;> omega
        rw [Sem.run_bind, e]
        simp only [Result.andThen_ok]
        exact ih vs k _ (by simpa using hl) (fun i y hy => by simpa using hv (i + 1) y (by simpa using hy)) he
      · cases he
theorem run_call_mm {w : World} {xs : Array Operand} {ts : Array TypeId} {v : Value} {mx : Bool}
    (hv : (if mx then Builtin.max_ ts ty (xs.map a.eval) else Builtin.min_ ts ty (xs.map a.eval)).run P w = .ok v w) :
    (execOp a.eval ⟨dst, .call ⟨.builtin (if mx then .max else .min), xs, ts⟩, ty, pos, af, g⟩).run P w = .ok (.value v) w := by
  cases mx <;> simp only [execOp, resolve, Sem.run_bind, Sem.run_pure, Result.andThen_ok, invoke, builtin, Bool.false_eq_true, if_false, if_true] at hv ⊢ <;> rw [hv] <;> rfl
theorem sound_mm {xs : Array Operand} {ts : Array TypeId} {mx : Bool} (h : SimAt E n ψ s a w) (hk : stp P d s K (.mm mx xs.toList)) :
    Does P E n ⟨dst, .call ⟨.builtin (if mx then .max else .min), xs, ts⟩, ty, pos, af, g⟩ a w K := by
  simp only [stp] at hk
  split at hk
  · rename_i k m he
    refine does_val h (v := .int k m) (run_call_mm ?_) hk (rav_v rfl)
    cases hxs : xs.toList with
    | nil => rw [hxs] at he; simp [minmax] at he
    | cons x r =>
      rw [hxs, List.map_cons] at he
      unfold minmax at he
      split at he
      · rename_i k0 n0 r0 heq
        simp only [List.cons.injEq] at heq
        obtain ⟨h0, hr⟩ := heq
        have hx := h.ev x
        rw [h0] at hx
        have e0 := inv_v hx
        have e1 : (xs.map a.eval).toList = .int k0 n0 :: r.map a.eval := by rw [Array.toList_map, hxs, List.map_cons, e0]
        subst hr
        have key := mmFrom_run (P := P) (r.map s.ev) (r.map a.eval) k0 n0 (by simp) (fun i y hy => by
          rw [List.getElem?_map] at hy
          cases hri : r[i]? with
          | none => rw [hri] at hy; cases hy
          | some z => rw [hri] at hy; cases hy; simp only [List.getD, List.getElem?_map, hri, Option.map_some, Option.getD_some]; exact h.ev z) he
        cases mx
        · simp only [Bool.false_eq_true, if_false] at key ⊢
          unfold Builtin.min_
          rw [e1]
          exact key
        · simp only [if_true] at key ⊢
          unfold Builtin.max_
          rw [e1]
          exact key
      · cases he
  · exact hk.elim
theorem caps_ok {xs : List Operand} {l : List CapV} (h : SimAt E n ψ s a w) (hm : (xs.map s.ev).mapM AV.cap = some l) :
    l.length = xs.length ∧ ∀ i c, l[i]? = some c → RCap (Im E ψ s.hp) ψ s.hp w c ((xs.map a.eval).getD i undef) := by
  induction xs generalizing l with
  | nil => simp at hm; subst hm; exact ⟨rfl, by simp⟩
  | cons x xs ih =>
    simp only [List.map_cons, List.mapM_cons, Option.bind_eq_bind] at hm
    cases hc : (s.ev x).cap with
    | none => rw [hc] at hm; cases hm
    | some c0 =>
      rw [hc] at hm
      cases hr : (xs.map s.ev).mapM AV.cap with
      | none => rw [hr] at hm; cases hm
      | some l0 =>
        rw [hr] at hm
        simp at hm
        subst hm
        obtain ⟨g1, g2⟩ := ih hr
        refine ⟨by simp [g1], fun i c hi => ?_⟩
        cases i with
        | zero =>
          simp at hi; subst hi
          simp only [List.map_cons, List.getD_cons_zero]
          have hx := h.ev x
          generalize s.ev x = ax at hx hc
          generalize a.eval x = vx at hx
          cases hx with
          | ptr id off b k o ho hb => simp [AV.cap] at hc; subst hc; exact .ptr id off b k o ho hb
          | iv y v hy => simp [AV.cap] at hc; subst hc; exact .val _ _ hy
          | nil sz => simp [AV.cap] at hc; subst hc; exact .val _ _ (.lnil _)
          | _ => simp [AV.cap] at hc
        | succ i => simp only [List.getElem?_cons_succ] at hi; simpa using g2 i c hi
theorem sound_mkfn {f : FuncId} {first caps : Array Operand} (h : SimAt E n ψ s a w) (hk : stp P d s K (.mkfn f first.toList caps.toList)) :
    DoesV P E n ⟨dst, .makeFunc (.func f) first caps, ty, pos, af, g⟩ a w K := by
  simp only [stp] at hk
  split at hk
  · rename_i l1 l2 e1 e2
    obtain ⟨a1, a2⟩ := caps_ok h e1
    obtain ⟨b1, b2⟩ := caps_ok h e2
    refine does_pure h (v := .func (.func f) (first.map a.eval) (caps.map a.eval)) (fun w => by simp [execOp, Instr.makeFunc]) hk ?_
    refine .fn f l1 l2 _ _ (by simp [a1]) (by simp [b1]) (fun i c hi => ?_) (fun i c hi => ?_)
    · rw [← toList_getD, Array.toList_map]; exact a2 i c hi
    · rw [← toList_getD, Array.toList_map]; exact b2 i c hi
  · exact hk.elim
end
end Go.Vm
end

/- Each operation of the model does what the abstract machine's does: structs and slices that are built, stores. -/
section
namespace Go.Vm
def putA (c : Array Value) (off : Nat) (vs : List Value) : Array Value := (vs.zipIdx.foldl (fun cs (x, j) => cs.setIfInBounds (off + j) x) c)
theorem putA_from (off : Nat) : ∀ (vs : List Value) (k : Nat) (c : Array Value),
    ((vs.zipIdx k).foldl (fun cs (x, j) => cs.setIfInBounds (off + j) x) c).size = c.size ∧
    ∀ q, q < c.size → ((vs.zipIdx k).foldl (fun cs (x, j) => cs.setIfInBounds (off + j) x) c).getD q undef = if off + k ≤ q ∧ q < off + k + vs.length then vs.getD (q - (off + k)) undef else c.getD q undef := by
  intro vs
  induction vs with
  | nil => intro k c; refine ⟨rfl, fun q hq => ?_⟩; simp; intro h1 h2; omega
  | cons v vs ih =>
    intro k c
    simp only [List.zipIdx_cons, List.foldl_cons]
    obtain ⟨h1, h2⟩ := ih (k + 1) (c.setIfInBounds (off + k) v)
    refine ⟨by rw [h1]; simp, fun q hq => ?_⟩
    rw [h2 q (by simpa using hq)]
    by_cases e : q = off + k
    · subst e
      rw [if_neg (by omega), if_pos (by simp)]
      simp [Array.getD_eq_getD_getElem?, hq]
    · by_cases hin : off + k ≤ q ∧ q < off + k + (v :: vs).length
      · rw [if_pos (by simp at hin ⊢; omega), if_pos hin]
        rw [show q - (off + k) = (q - (off + (k + 1))) + 1 from by omega, List.getD_cons_succ]
      · rw [if_neg (by simp at hin ⊢; omega), if_neg hin]
        simp only [Array.getD_eq_getD_getElem?]
        rw [Array.getElem?_setIfInBounds_ne (Ne.symm e)]
theorem putA_size (c : Array Value) (off : Nat) (vs : List Value) : (putA c off vs).size = c.size := (putA_from off vs 0 c).1
theorem putA_getD (c : Array Value) (off : Nat) (vs : List Value) (q : Nat) (hq : q < c.size) :
    (putA c off vs).getD q undef = if off ≤ q ∧ q < off + vs.length then vs.getD (q - off) undef else c.getD q undef := by
  have := (putA_from off vs 0 c).2 q hq
  simpa [putA] using this
theorem setRange_length {α : Type} (z : List α) (off : Nat) (cs : List α) (h : off + cs.length ≤ z.length) : (setRange z off cs).length = z.length := by
  simp [setRange]; omega
theorem setRange_get {α : Type} (z : List α) (off : Nat) (cs : List α) (h : off + cs.length ≤ z.length) (i : Nat) :
    (setRange z off cs)[i]? = if off ≤ i ∧ i < off + cs.length then cs[i - off]? else z[i]? := by
  unfold setRange
  rw [List.append_assoc]
  by_cases h1 : i < off
  · rw [List.getElem?_append_left (by simp; omega), if_neg (by omega), List.getElem?_take, if_pos h1]
  · rw [List.getElem?_append_right (by simp; omega)]
    have e : (z.take off).length = off := by simp; omega
    rw [e]
    by_cases h2 : i < off + cs.length
    · rw [List.getElem?_append_left (by omega), if_pos (by omega)]
    · rw [List.getElem?_append_right (by omega), if_neg (by omega), List.getElem?_drop]
      congr 1; omega
section
variable {A : Nat → Prop} {ψ : Pl} {H : Hp} {w : World}
theorem rav_setRange {z : List AV} {c : Array Value} {off : Nat} {cs : List AV} {vs : List Value} (hz : c.size = z.length) (h1 : ∀ i x, z[i]? = some x → RAV A ψ H w x (c.getD i undef))
    (hl : vs.length = cs.length) (h2 : ∀ i x, cs[i]? = some x → RAV A ψ H w x (vs.getD i undef)) (hin : off + cs.length ≤ z.length) :
    ∀ i x, (setRange z off cs)[i]? = some x → RAV A ψ H w x ((putA c off vs).getD i undef) := by
  intro i x hx
  have hi : i < z.length := by rw [← setRange_length z off cs hin]; exact (List.getElem?_eq_some_iff.1 hx).1
  rw [setRange_get z off cs hin] at hx
  rw [putA_getD c off vs i (by omega), hl]
  split at hx
  · rename_i h; rw [if_pos h]; exact h2 _ _ hx
  · rename_i h; rw [if_neg h]; exact h1 _ _ hx
end
section
variable {P : Program} {E : En} {n : Nat} {ψ : Pl} {s : St} {a : Act} {w : World}
variable {dst : Option Nat} {ty : TypeId} {pos : String} {af : Array Edge} {g : Option (Nat × Bool)} {r : Rhs} {d : Nat} {K : St → AV → Prop}
theorem fill_ok (h : SimAt E n ψ s a w) (place : Nat → Option (Nat × Nat)) : ∀ (l : List (Nat × Operand)) (l' : List (Nat × Nat × Operand)) (z z' : List AV) (c : Array Value),
    (l'.map (·.2.2) = l.map (·.2)) → (∀ k : Nat, (l'[k]?).map (fun (p : Nat × Nat × Operand) => (p.1, p.2.1)) = (l[k]?).bind fun (p : Nat × Operand) => place p.1) → c.size = z.length → (∀ i x, z[i]? = some x → RAV (Im E ψ s.hp) ψ s.hp w x (c.getD i undef)) →
    fillA s z l' = some z' → ∃ c', Instr.fill place c (l.map fun p => (p.1, a.eval p.2)) = some c' ∧ c'.size = z'.length ∧ ∀ i x, z'[i]? = some x → RAV (Im E ψ s.hp) ψ s.hp w x (c'.getD i undef) := by
  intro l
  induction l with
  | nil =>
    intro l' z z' c hm hp hz hr hf
    cases l' with
    | nil => simp only [fillA, Option.some.injEq] at hf; subst hf; exact ⟨c, rfl, hz, hr⟩
    | cons => simp at hm
  | cons p l ih =>
    intro l' z z' c hm hp hz hr hf
    cases l' with
    | nil => simp at hm
    | cons p' l' =>
      obtain ⟨i, x⟩ := p
      obtain ⟨off, q, x'⟩ := p'
      simp only [List.map_cons, List.cons.injEq] at hm
      obtain ⟨rfl, hm⟩ := hm
      have h0 := hp 0
      simp only [List.getElem?_cons_zero, Option.map_some, Option.bind_some] at h0
      simp only [fillA] at hf
      split at hf
      · rename_i cs hcs
        split at hf
        · rename_i hc
          obtain ⟨g1, g2⟩ := cellsOf_rav (h.ev x') hcs
          have hlen : (a.eval x').cells.toList.length = cs.length := by simpa using g1
          obtain ⟨c', e1, e2, e3⟩ := ih l' (setRange z off cs) z' (putA c off (a.eval x').cells.toList) hm (fun k => by simpa using hp (k + 1))
            (by rw [putA_size, setRange_length _ _ _ (by omega)]; exact hz)
            (rav_setRange hz hr hlen (fun i y hy => by rw [toList_getD]; exact g2 i y hy) (by omega)) hf
          refine ⟨c', ?_, e2, e3⟩
          simp only [List.map_cons, Instr.fill, ← h0]
          rw [if_neg (by simp; omega)]
          rw [← e1]
          congr 1
          unfold putA
          rw [← Array.foldl_toList]
          simp [Array.toList_zipIdx]
        · cases hf
      · cases hf
theorem run_mapM (fs : Array Field) {β : Type} (f : Field → Sem β) (q : Field → β) (w : World) (h : ∀ x ∈ fs, (f x).run P w = .ok (q x) w) : (fs.mapM f).run P w = .ok (fs.map q) w := by
  rw [Array.mapM_eq_mapM_toList]
  rw [Sem.run_map]
  have key : ∀ l : List Field, (∀ x ∈ l, (f x).run P w = .ok (q x) w) → (l.mapM f).run P w = .ok (l.map q) w := by
    intro l
    induction l with
    | nil => intro _; rfl
    | cons x l ih =>
      intro hl
      rw [List.mapM_cons, Sem.run_bind, hl x (by simp)]
      simp only [Result.andThen_ok, Sem.run_bind]
      rw [ih fun y hy => hl y (by simp [hy])]
      rfl
  rw [key fs.toList fun x hx => h x (by simpa using hx)]
  simp only [Result.andThen_ok]
  congr 1
  apply Array.ext'
  simp
theorem sound_build {t : TypeId} {parts : Array (Nat × Operand)} {fs : Array Field} {z : List AV} {l : List (Nat × Nat × Operand)} (hu : P.underlying t = some (.struct fs))
    (hz : zeroAV P t = some z) (hall : ∀ f ∈ fs, (infoSize P f.type).isSome = true)
    (hl : (parts.toList.mapM fun (p : Nat × Operand) => do let f ← fs[p.1]?; let q ← infoSize P f.type; pure (f.offset, q, p.2)) = some l)
    (h : SimAt E n ψ s a w) (hk : stp P d s K (.build z l)) : DoesV P E n ⟨dst, .build t parts, ty, pos, af, g⟩ a w K := by
  simp only [stp] at hk
  obtain ⟨i, zv, h1, h2, rfl⟩ := zeroAV_some hz
  split at hk
  · rename_i cs hcs
    let place : Nat → Option (Nat × Nat) := ((fs.map fun f => (f.offset, (infoSize P f.type).getD 0))[·]?)
    have hpl : ∀ (L : List (Nat × Operand)) (l : List (Nat × Nat × Operand)), (L.mapM fun (p : Nat × Operand) => do let f ← fs[p.1]?; let q ← infoSize P f.type; pure (f.offset, q, p.2)) = some l →
        (l.map (·.2.2) = L.map (·.2)) ∧ ∀ k : Nat, (l[k]?).map (fun (p : Nat × Nat × Operand) => (p.1, p.2.1)) = (L[k]?).bind fun (p : Nat × Operand) => place p.1 := by
      intro L
      induction L with
      | nil => intro l hl; simp at hl; subst hl; exact ⟨rfl, by simp⟩
      | cons p L ih =>
        intro l hl
        rw [List.mapM_cons] at hl
        cases hf : fs[p.1]? with
        | none => simp [hf] at hl
        | some f =>
          cases hq : infoSize P f.type with
          | none => simp [hf, hq] at hl
          | some q =>
            cases hr : (L.mapM fun (p : Nat × Operand) => do let f ← fs[p.1]?; let q ← infoSize P f.type; pure (f.offset, q, p.2)) with
            | none => simp only [hf, hq, Option.bind_eq_bind, Option.bind_some] at hl hr; rw [hr] at hl; simp at hl
            | some l0 =>
              simp only [hf, hq, Option.bind_eq_bind, Option.bind_some] at hl hr
              rw [hr] at hl
              simp at hl
              subst hl
              obtain ⟨g1, g2⟩ := ih l0 (by simpa using hr)
              refine ⟨by simp [g1], fun k => ?_⟩
              cases k with
              | zero => simp [place, hf, hq]
              | succ k => simpa using g2 k
    obtain ⟨p1, p2⟩ := hpl _ _ hl
    obtain ⟨c', e1, e2, e3⟩ := fill_ok h place parts.toList l _ cs zv.cells p1 p2 (by rw [zcells_length]; simp) (fun j x hx => by
      obtain ⟨sz, e⟩ := zcells_get _ _ _ _ hx
      rw [e, toList_getD]
      exact rav_zav _ _) hcs
    refine does_pure h (v := .agg c') (fun w => ?_) hk (.agg _ _ e2 e3)
    have hm := run_mapM (P := P) fs (fun f => do pure (f.offset, ← sizeOf f.type)) (fun f => (f.offset, (infoSize P f.type).getD 0)) w (fun f hf => by
      have := hall f hf
      cases hq : infoSize P f.type with
      | none => rw [hq] at this; cases this
      | some q => simp [run_sizeOf w hq])
    have hp2 : (parts.map fun (i, x) => (i, a.eval x)).toList = parts.toList.map fun p => (p.1, a.eval p.2) := by simp
    simp only [execOp, Instr.build, Sem.run_bind, run_zero h1 h2, Result.andThen_ok, run_underlying w hu, hm, hp2]
    have e1' : Instr.fill (fun x => (Array.map (fun f => (f.offset, (infoSize P f.type).getD 0)) fs)[x]?) zv.cells (parts.toList.map fun p => (p.1, a.eval p.2)) = some c' := e1
    simp only [e1', Sem.run_pure, Result.andThen_ok]
  · exact hk.elim
theorem run_storeCells (b o : Nat) : ∀ (vs : List Value) (i : Nat) (w : World) (c : Array Value) (e : TypeId), w.heap[b]? = some (.cells c e (0, 0)) → (∀ v ∈ vs, v.oneCell' = true) → o + i + vs.length ≤ c.size →
    ∃ w', (storeCells ⟨b, o, none⟩ vs i).run P w = .ok () w' ∧ (∀ j, j ≠ b → w'.heap[j]? = w.heap[j]?) ∧ w'.heap.size = w.heap.size ∧ (w'.os = w.os ∧ w'.tape = w.tape ∧ w'.output = w.output) ∧
      w'.heap[b]? = some (.cells (((vs.zipIdx i).foldl (fun cs (x, j) => cs.setIfInBounds (o + j) x) c)) e (0, 0)) := by
  intro vs
  induction vs with
  | nil => intro i w c e hb _ _; exact ⟨w, rfl, fun _ _ => rfl, rfl, ⟨rfl, rfl, rfl⟩, hb⟩
  | cons v vs ih =>
    intro i w c e hb hv hl
    have hv1 := hv v (by simp)
    have hlt : o + i < c.size := by simp at hl; omega
    have hcell : w.cell? ⟨b, o + i, none⟩ = some (c.getD (o + i) undef) := cell_getD hb hlt
    have hfz : w.frozen? ⟨b, o + i, none⟩ = false := by simp [World.frozen?, hb]
    obtain ⟨w', r1, r2, r3, r4, r5⟩ := ih (i + 1) (w.setCell ⟨b, o + i, none⟩ v) (c.setIfInBounds (o + i) v) e (setCell_at w b (o + i) v hb) (fun x hx => hv x (by simp [hx])) (by simp at hl ⊢; omega)
    refine ⟨w', ?_, fun j hj => (r2 j hj).trans (setCell_block w _ v j hj), by rw [r3]; simp [World.setCell], r4, ?_⟩
    · simp only [storeCells, Sem.run_bind, addr_add, run_store P w _ _ _ hv1, hcell, hfz]
      exact r1
    · simpa [List.zipIdx_cons] using r5
theorem cells_one {z : List AV} {vs : List Value} {A : Nat → Prop} {H : Hp} (hl : vs.length = z.length) (h : ∀ i x, z[i]? = some x → RAV A ψ H w x (vs.getD i undef)) (ho : z.all AV.one = true) :
    ∀ v ∈ vs, v.oneCell' = true := by
  intro v hv
  obtain ⟨i, hi, rfl⟩ := List.getElem_of_mem hv
  have hz : z[i]? = some z[i] := List.getElem?_eq_getElem (by omega)
  have := h i _ hz
  rw [show vs.getD i undef = vs[i] from by simp [List.getD, hi]] at this
  exact this.one (List.all_eq_true.1 ho _ (List.mem_of_getElem? hz))
theorem ivs_of (h : SimAt E n ψ s a w) {cs : List AV} {vs : List Value} (hl : vs.length = cs.length) (hc : ∀ i x, cs[i]? = some x → RAV (Im E ψ s.hp) ψ s.hp w x (vs.getD i undef))
    {l : List IV} (hm : cs.mapM AV.iv? = some l) : l.length = cs.length ∧ ∀ i x, l[i]? = some x → RIV (Im E ψ s.hp) w x (vs.getD i undef) := by
  induction cs generalizing vs l with
  | nil => simp at hm; subst hm; exact ⟨rfl, by simp⟩
  | cons x cs ih =>
    cases vs with
    | nil => simp at hl
    | cons v vs =>
      simp only [List.mapM_cons, Option.bind_eq_bind] at hm
      cases hx : x.iv? with
      | none => rw [hx] at hm; cases hm
      | some y =>
        rw [hx] at hm
        cases hr : cs.mapM AV.iv? with
        | none => rw [hr] at hm; cases hm
        | some l0 =>
          rw [hr] at hm
          simp at hm
          subst hm
          obtain ⟨g1, g2⟩ := ih (by simpa using hl) (fun i z hz => by simpa using hc (i + 1) z (by simpa using hz)) hr
          refine ⟨by simp [g1], fun i z hz => ?_⟩
          cases i with
          | zero =>
            simp at hz; subst hz
            have h0 := hc 0 x rfl
            simp only [List.getD_cons_zero] at h0 ⊢
            cases x with
            | iv q => simp [AV.iv?] at hx; subst hx; cases h0 with | iv _ _ h => exact h
            | nil sz => simp [AV.iv?] at hx; subst hx; rw [inv_nil h0]; exact .lnil _
            | _ => simp [AV.iv?] at hx
          | succ i => simp only [List.getElem?_cons_succ] at hz; simpa using g2 i z hz
end
end Go.Vm
end

/- Each operation of the model does what the abstract machine's does: lists that are built, grown, written. -/
section
namespace Go.Vm
section
variable {P : Program} {E : En} {n : Nat} {ψ : Pl} {s : St} {a : Act} {w : World}
variable {dst : Option Nat} {ty : TypeId} {pos : String} {af : Array Edge} {g : Option (Nat × Bool)} {r : Rhs} {d : Nat} {K : St → AV → Prop}
theorem SimAt.frz (h : SimAt E n ψ s a w) (xs : List AV) : SimAt E n ψ (s.frz xs) a w := by
  unfold St.frz
  generalize xs.flatMap AV.ids = l
  induction l generalizing s with
  | nil => exact h
  | cons i l ih =>
    simp only [List.foldl_cons]
    split
    · rename_i hi; exact ih (h.drop hi)
    · exact ih h
theorem fill_lit (h : SimAt E n ψ s a w) (sz : Nat) : ∀ (L : List (Nat × Operand)) (i N : Nat) (c : Array Value) (xs : List (List IV)),
    L.map (·.1) = List.range' i L.length → c.size = N * sz → i + L.length ≤ N → litA s sz L = some xs →
    ∃ c', Instr.fill (fun k => some (k * sz, sz)) c (L.map fun p => (p.1, a.eval p.2)) = some c' ∧ c'.size = c.size ∧ (∀ q, q < i * sz → c'.getD q undef = c.getD q undef) ∧
      xs.length = L.length ∧ (∀ x ∈ xs, x.length = sz) ∧ ∀ k j x, at2 xs k j = some x → RIV (Im E ψ s.hp) w x (c'.getD ((i + k) * sz + j) undef) := by
  intro L
  induction L with
  | nil =>
    intro i N c xs _ hc _ hl
    simp only [litA, Option.some.injEq] at hl; subst hl
    exact ⟨c, rfl, rfl, fun _ _ => rfl, rfl, by simp, by simp [at2]⟩
  | cons p L ih =>
    intro i N c xs hi hc hN hl
    obtain ⟨k, x⟩ := p
    simp only [List.map_cons, List.length_cons, List.range'_succ, List.cons.injEq] at hi
    obtain ⟨rfl, hi⟩ := hi
    simp only [litA] at hl
    split at hl
    · rename_i q hq
      split at hl
      · rename_i hqs
        cases hcs : (s.ev x).cellsOf with
        | none => rw [hcs] at hq; cases hq
        | some cs =>
          rw [hcs] at hq
          simp only [Option.bind_some] at hq
          cases hr : litA s sz L with
          | none => rw [hr] at hl; cases hl
          | some xs0 =>
            rw [hr] at hl
            simp only [Option.map_some, Option.some.injEq] at hl
            subst hl
            obtain ⟨g1, g2⟩ := cellsOf_rav (h.ev x) hcs
            have hlen : (a.eval x).cells.toList.length = cs.length := by simpa using g1
            obtain ⟨v1, v2⟩ := ivs_of h hlen (fun j y hy => by rw [toList_getD]; exact g2 j y hy) hq
            simp only [List.length_cons] at hN
            have hm : (k + 1) * sz ≤ N * sz := Nat.mul_le_mul_right sz (by omega)
            have e2 : (k + 1) * sz = k * sz + sz := by rw [Nat.add_mul]; omega
            have hsz : (a.eval x).cells.size = sz := by omega
            obtain ⟨c', f1, f2, f3, f4, f5, f6⟩ := ih (k + 1) N (putA c (k * sz) (a.eval x).cells.toList) xs0 hi (by rw [putA_size]; exact hc) (by omega) hr
            refine ⟨c', ?_, by rw [f2, putA_size], fun j hj => ?_, by simp [f4], ?_, ?_⟩
            · simp only [List.map_cons, Instr.fill]
              rw [if_neg (by simp; omega)]
              rw [← f1]
              congr 1
              unfold putA
              rw [← Array.foldl_toList]
              simp [Array.toList_zipIdx]
            · rw [f3 j (by omega), putA_getD _ _ _ _ (by omega), if_neg (by omega)]
            · intro y hy
              rcases List.mem_cons.1 hy with rfl | hy
              · exact hqs
              · exact f5 y hy
            · intro i' j y hy
              cases i' with
              | zero =>
                simp only [at2, List.getElem?_cons_zero, Option.bind_some] at hy
                have hj : j < sz := by rw [← hqs]; exact (List.getElem?_eq_some_iff.1 hy).1
                rw [Nat.add_zero, f3 _ (by omega), putA_getD _ _ _ _ (by omega), if_pos ⟨by omega, by simp; omega⟩]
                rw [show k * sz + j - k * sz = j from by omega]
                exact v2 j y hy
              | succ i' =>
                have := f6 i' j y (by simpa [at2] using hy)
                rw [show k + (i' + 1) = k + 1 + i' from by omega]
                exact this
      · cases hl
    · cases hl
theorem does_newlist {o : Oper} {sz : Nat} {xs : List (List IV)} {c : Array Value} {t : TypeId} {cap : Nat} (hd : d < 1000) (h : SimAt E n ψ s a w) (hno : look s.hp d = none)
    (hs : ∀ x ∈ xs, x.length = sz) (hlen : xs.length * sz ≤ c.size) (hcap : xs.length ≤ cap) (hcap2 : cap * sz ≤ c.size) (hcm : cap < 2 ^ 63)
    (hc : ∀ i j x, at2 xs i j = some x → RIV (Im E ψ s.hp) w x (c.getD (i * sz + j) undef)) {w1 : World} (hx : Ext w w1)
    (hr : (execOp a.eval o).run P w = .ok (.value (.slice (some ⟨w1.heap.size, 0, none⟩) xs.length cap)) (w1.alloc (.cells c t)))
    (hk : K (s.add d (.list sz xs)) (.sl d sz 0 xs.length)) : Does P E n o a w K := by
  have hx2 : Ext w (w1.alloc (.cells c t)) := hx.trans (Ext.alloc _ _)
  have h2 := h.new (o := .list sz xs) (p := some (w1.heap.size, (0, c.size))) hd hno hx2 (fun b k e => by cases e; exact hx.size)
    ⟨hs, .inr ⟨w1.heap.size, (0, c.size), c, t, by simp [upd], heap_alloc_new _ _, by simp, hlen, fun i j x hx' => by rw [Nat.zero_add]; exact (hc i j x hx').mono (fun b hb hi => ⟨hb, hi⟩) (fun b hb _ => hx2.block b hb)⟩⟩
  refine does_run hr hk h2 (.sl d sz 0 xs.length w1.heap.size (0, c.size) cap _ (.list sz xs) xs.length (by simp [look_add]) rfl (by omega) (by simp [upd]) (fun _ => by simp) hcap (by simpa using hcap2) hcm)
theorem sound_lit {t e : TypeId} {len sz : Nat} {parts : Array (Nat × Operand)} (hu : P.underlying t = some (.slice e)) (hsz : infoSize P e = some sz) (hp1 : parts.size = len)
    (hp2 : parts.toList.map (·.1) = List.range len) (hp3 : 0 < sz) (hp4 : len * sz ≤ 2 ^ 24) {z : List AV} (hz : zeroAV P e = some z) (hd : d < 1000) (h : SimAt E n ψ s a w)
    (hk : stp P d s K (.lit sz len parts.toList)) : Does P E n ⟨dst, .buildSlice t len parts, ty, pos, af, g⟩ a w K := by
  simp only [stp] at hk
  split at hk
  · rename_i xs hxs
    have h1 := (h.frz (parts.toList.map fun p => s.ev p.2)).drop (id := d) hd
    obtain ⟨i, zv, z1, z2, _⟩ := zeroAV_some hz
    have hL : parts.toList.length = len := by simpa using hp1
    let zero : Array Value := if len * sz = 0 then #[] else zv.cells
    let c0 : Array Value := (Array.range (len * sz)).map (zero[· % zero.size]!)
    obtain ⟨c', f1, f2, f3, f4, f5, f6⟩ := fill_lit h1 sz parts.toList 0 len c0 xs (by rw [hp2, hL, List.range_eq_range']) (by simp [c0]) (by omega) hxs
    have hx : xs.length = len := by omega
    have hcs : c'.size = len * sz := by rw [f2]; simp [c0]
    have hp : (parts.map fun (i, x) => (i, a.eval x)).toList = parts.toList.map fun p => (p.1, a.eval p.2) := by simp
    have hz0 : (if len * sz = 0 then (pure #[] : Sem (Array Value)) else do pure (← zeroValue e).cells).run P w = .ok zero w := by
      by_cases h0 : len * sz = 0
      · simp [zero, h0]
      · simp only [zero, if_neg h0, Sem.run_bind, run_zero z1 z2, Result.andThen_ok, Sem.run_pure]
    refine does_newlist (c := c') (t := e) (cap := len) hd h1 (look_drop _ _) f5 (by rw [hx, hcs]; exact Nat.le_refl _) (by omega) (by omega) (by have h9 : len * 1 ≤ len * sz := Nat.mul_le_mul_left _ hp3; omega) (fun i j x hij => by simpa using f6 i j x hij) (Ext.refl w) ?_ (by rw [hx]; exact hk)
    rw [hx]
    have f1' : Instr.fill (fun i => some (i * sz, sz)) ((Array.range (len * sz)).map (zero[· % zero.size]!)) (parts.toList.map fun p => (p.1, a.eval p.2)) = some c' := f1
    simp only [execOp, Instr.buildSlice, Sem.run_bind, run_underlying w hu, Result.andThen_ok, run_sizeOf w hsz, if_neg (show ¬ len * sz > 2 ^ 24 by omega), hp]
    by_cases h0 : len * sz = 0
    · have e0 : zero = #[] := if_pos h0
      rw [e0] at f1'
      simp only [if_pos h0, Sem.run_bind, Sem.run_pure, Result.andThen_ok, f1', newRow, run_newObj]
      rfl
    · have e0 : zero = zv.cells := if_neg h0
      rw [e0] at f1'
      simp only [if_neg h0, Sem.run_bind, run_zero z1 z2, Sem.run_pure, Result.andThen_ok, f1', newRow, run_newObj]
      rfl
  · exact hk.elim
end
end Go.Vm
end

/- Each operation of the model does what the abstract machine's does: stores; what is appended. -/
section
namespace Go.Vm
section
variable {P : Program} {E : En} {n : Nat} {ψ : Pl} {s : St} {a : Act} {w : World}
variable {dst : Option Nat} {ty : TypeId} {pos : String} {af : Array Edge} {g : Option (Nat × Bool)} {r : Rhs} {d : Nat} {K : St → AV → Prop}
theorem SimAt.renew (h : SimAt E n ψ s a w) {id : Nat} (hid : id < 1000) {o o' : Ob} (hold : look s.hp id = some o) (horg : o'.org id = o.org id) {p : Option (Nat × (Nat × Nat))} {w' : World}
    (hw : ∀ b, b < w.heap.size → (∀ k, ψ id ≠ some (b, k)) → w'.heap[b]? = w.heap[b]?) (hsz : w.heap.size ≤ w'.heap.size) (hs : w'.os = w.os ∧ w'.tape = w.tape ∧ w'.output = w.output)
    (hp : ∀ b k, p = some (b, k) → w.heap.size ≤ b ∨ ∃ k0, ψ id = some (b, k0))
    (ho : ROb (fun b => b < w.heap.size ∧ Im E ψ s.hp b) (upd ψ id p) ((s.lone id).add id o').hp w' id o') :
    SimAt E n (upd ψ id p) ((s.lone id).add id o') a w' := by
  have hlt : ∀ {k o b}, look s.hp k = some o → Owns ψ k b → b < w.heap.size := fun hk hb => h.lt hk hb
  have hlk : ∀ k, look ((s.lone id).add id o').hp k = if id = k then some o' else (look s.hp k).map (Ob.mapc (AV.kc (· == id))) := by
    intro k; rw [look_add, look_lone]
  have back : ∀ {k ob}, look ((s.lone id).add id o').hp k = some ob → (id = k ∧ ob = o') ∨ (id ≠ k ∧ ∃ o1, look s.hp k = some o1 ∧ ob = o1.mapc (AV.kc (· == id))) := by
    intro k ob hk
    rw [hlk] at hk
    by_cases e : id = k
    · rw [if_pos e] at hk; exact .inl ⟨e, by simpa using hk.symm⟩
    · rw [if_neg e] at hk
      cases ho : look s.hp k with
      | none => rw [ho] at hk; cases hk
      | some o1 => rw [ho] at hk; exact .inr ⟨e, o1, rfl, by simpa using hk.symm⟩
  have hpo : ∀ {b}, Owns (upd ψ id p) id b → w.heap.size ≤ b ∨ Owns ψ id b := by
    intro b hb
    obtain ⟨q, hb⟩ := owns_upd_same _ _ hb
    rcases hp b q hb with h4 | ⟨k0, h4⟩
    · exact .inl h4
    · exact .inr (.inl ⟨k0, h4⟩)
  have hI : ∀ b, b < w.heap.size → Im E ψ s.hp b → Im E (upd ψ id p) ((s.lone id).add id o').hp b := by
    rintro b hb ⟨h1, h2⟩
    refine ⟨h1, ?_⟩
    rintro ⟨k, ob, hk, hq⟩
    rcases back hk with ⟨rfl, _⟩ | ⟨hne, o1, h3, _⟩
    · rcases hpo hq with h4 | h4
      · omega
      · exact h2 ⟨id, o, hold, h4⟩
    · exact h2 ⟨k, o1, h3, (owns_upd_ne p (Ne.symm hne)).1 hq⟩
  have hw' : ∀ b, b < w.heap.size → Im E ψ s.hp b → w'.heap[b]? = w.heap[b]? := fun b hb hi => hw b hb fun k e => hi.2 ⟨id, o, hold, .inl ⟨k, e⟩⟩
  have hk : KeepsBut (· == id) ψ (upd ψ id p) s.hp ((s.lone id).add id o').hp := by
    intro k ob hk hko
    have hne : id ≠ k := by intro e; simp [e] at hk
    refine ⟨⟨_, by rw [hlk, if_neg hne, hko]; rfl, Ob.le_mapc _ ob⟩, by simp [upd, Ne.symm hne]⟩
  have hf := turns_kc (p := (· == id)) hI hw' hk
  refine { size := h.size, defers := h.defers.mono hI hw', frame := fun x => ?_, obs := ?_, inj := ?_, own := ?_, subs := ?_, par := ?_, old := ?_, grow := ?_, same := ?_ }
  · have e : ((s.lone id).add id o').get x = (s.get x).mapc (AV.kc (· == id)) := St.get_mapc _ rfl x
    rw [e]
    exact (h.frame x).mapc hf (fun _ => rfl) (fun _ => rfl)
  · intro k ob hko
    rcases back hko with ⟨rfl, rfl⟩ | ⟨hne, o1, h3, rfl⟩
    · exact ho.mono (fun b _ hb => hI b hb.1 hb.2) (fun _ _ _ => rfl) (Keeps.refl _ _) ⟨rfl, fun _ h => h⟩ (fun _ _ => rfl)
    · have hψ : upd ψ id p k = ψ k := by simp [upd, Ne.symm hne]
      have hblk : ∀ b, Owns ψ k b → w'.heap[b]? = w.heap[b]? := fun b hb => hw b (hlt h3 hb) fun q' e => hne (h.inj id k o o1 b hold h3 (.inl ⟨q', e⟩) hb)
      cases o1 with
      | box cs =>
        obtain ⟨b, c, e, g1, g2, g3, g4⟩ := h.obs k _ h3
        refine ⟨b, c, e, by rw [hψ]; exact g1, by rw [hblk b (.inl ⟨_, g1⟩)]; exact g2, by simpa using g3, fun i x hx => ?_⟩
        rw [List.getElem?_map] at hx
        cases hci : cs[i]? with
        | none => rw [hci] at hx; cases hx
        | some c0 =>
          rw [hci] at hx; cases hx
          have h6 := g4 i c0 hci
          cases c0 with
          | agg l => exact .junk _
          | tup l => exact .junk _
          | _ => exact hf _ _ h6 (by simp) (by simp)
      | gh Z vs cs =>
        obtain ⟨g1, g2, g3, g4⟩ := h.obs k _ h3
        refine ⟨by rw [hψ]; exact g1, g2.mono hI (fun b hb => ⟨Ne.symm hne, hb⟩) hw' (fun b hb => hblk b (.inr hb)), by simpa using g3, fun i x hx => ?_⟩
        rw [List.getElem?_map] at hx
        cases hci : cs[i]? with
        | none => rw [hci] at hx; cases hx
        | some c0 => rw [hci] at hx; cases hx; exact (g4 i c0 hci).mapc hf (fun _ => rfl) (fun _ => rfl)
      | _ => exact (h.obs k _ h3).move (by constructor <;> (intros; intro e; cases e)) hI hw' ⟨hψ, fun b hb => ⟨Ne.symm hne, hb⟩⟩ hblk
  · intro i i' o1 o2 b hi hi' hb hb'
    rcases back hi with ⟨rfl, _⟩ | ⟨e1, r1, g1, _⟩ <;> rcases back hi' with ⟨e2, _⟩ | ⟨e2, r2, g2, _⟩
    · exact e2
    · have hb' := (owns_upd_ne p (Ne.symm e2)).1 hb'
      rcases hpo hb with h4 | h4
      · have := hlt g2 hb'; omega
      · exact h.inj id i' o r2 b hold g2 h4 hb'
    · subst e2
      have hb := (owns_upd_ne p (Ne.symm e1)).1 hb
      rcases hpo hb' with h4 | h4
      · have := hlt g1 hb; omega
      · exact h.inj i id r1 o b g1 hold hb h4
    · exact h.inj i i' r1 r2 b g1 g2 ((owns_upd_ne p (Ne.symm e1)).1 hb) ((owns_upd_ne p (Ne.symm e2)).1 hb')
  · intro i o1 b hi hb
    rcases back hi with ⟨rfl, rfl⟩ | ⟨e1, r1, g1, rfl⟩
    · rcases hpo hb with h4 | h4
      · exact .inr (.inr (Nat.le_trans h.grow h4))
      · rw [horg]; exact h.own id o b hold h4
    · rw [Ob.org_mapc]
      exact h.own i r1 b g1 ((owns_upd_ne p (Ne.symm e1)).1 hb)
  · intro i o1 b hi hb
    rcases back hi with ⟨rfl, _⟩ | ⟨e1, r1, g1, rfl⟩
    · exact absurd rfl hb.1
    · obtain ⟨q1, q2, q3⟩ := h.subs i r1 b g1 hb.2
      rw [Ob.multi_mapc]
      exact ⟨q1, Nat.lt_of_lt_of_le q2 hsz, fun k => by simp only [upd, if_neg hb.1]; exact q3 k⟩
  · intro i hi
    have : i ≠ id := by have := E.big i hi; omega
    simp only [upd, if_neg this]
    exact h.par i hi
  · intro b hb hm
    rw [hw b (Nat.lt_of_lt_of_le hb h.grow) ?_]
    · exact h.old b hb hm
    · intro k e
      rcases h.own id o b hold (.inl ⟨k, e⟩) with ⟨h1, h2⟩ | h1
      · exact hm (.inl ⟨_, h1, h2⟩)
      · exact E.no hb hm h1
  · exact Nat.le_trans h.grow hsz
  · exact ⟨hs.1.trans h.same.1, hs.2.1.trans h.same.2.1, hs.2.2.trans h.same.2.2⟩
theorem run_firstCells {w2 : World} (sz k : Nat) (b o cap : Nat) (vs : List Value) (hl : vs.length = k * sz) (h : ∀ q, q < k * sz → w2.cell? ⟨b, o + q, none⟩ = vs[q]?) (m : Nat) :
    (Builtin.firstCells sz k (.slice (some ⟨b, o, none⟩) m cap)).run P w2 = .ok vs.toArray w2 := by
  simp only [Builtin.firstCells, ← hl]
  exact run_loadCells w2 b o vs (fun j hj => h j (by omega))
theorem at2_full {xs : List (List IV)} {sz : Nat} (hs : ∀ x ∈ xs, x.length = sz) {q : Nat} (hq : q < xs.length * sz) : ∃ x, at2 xs (q / sz) (q % sz) = some x := by
  have hpos : 0 < sz := by rcases Nat.eq_zero_or_pos sz with h | h; · rw [h] at hq; omega
                           · exact h
  have h1 : q / sz < xs.length := Nat.div_lt_of_lt_mul (by rw [Nat.mul_comm]; exact hq)
  have hr : xs[q / sz]? = some xs[q / sz] := List.getElem?_eq_getElem h1
  have h2 : q % sz < xs[q / sz].length := by rw [hs _ (List.getElem_mem h1)]; exact Nat.mod_lt _ hpos
  exact ⟨_, at2_of hr (List.getElem?_eq_getElem h2)⟩
theorem elems_read (h : SimAt E n ψ s a w) {x : AV} {v : Value} (hx : RAV (Im E ψ s.hp) ψ s.hp w x v) {sz sz2 : Nat} {ys : List (List IV)} (he : s.elems x = some (sz2, ys)) (hz : sz2 = sz ∨ ys = []) :
    ∃ vs : List Value, vs.length = ys.length * sz ∧ (∀ w2 : World, w2.heap = w.heap → (Builtin.firstCells sz ys.length v).run P w2 = .ok vs.toArray w2) ∧ (∀ y ∈ ys, y.length = sz) ∧
      (∀ i j y, at2 ys i j = some y → RIV (Im E ψ s.hp) w y (vs.getD (i * sz + j) undef)) ∧ (∀ u ∈ vs, u.oneCell' = true) ∧ ∃ ad cap, v = .slice ad ys.length cap := by
  -- out of a function of the place
  have build : ∀ (b o cap m : Nat) (f : Nat → Value), v = .slice (some ⟨b, o, none⟩) m cap → m = ys.length → (∀ y ∈ ys, y.length = sz) → (∀ q, q < ys.length * sz → w.cell? ⟨b, o + q, none⟩ = some (f q)) →
      (∀ i j y, at2 ys i j = some y → RIV (Im E ψ s.hp) w y (f (i * sz + j))) →
      ∃ vs : List Value, vs.length = ys.length * sz ∧ (∀ w2 : World, w2.heap = w.heap → (Builtin.firstCells sz ys.length v).run P w2 = .ok vs.toArray w2) ∧ (∀ y ∈ ys, y.length = sz) ∧
      (∀ i j y, at2 ys i j = some y → RIV (Im E ψ s.hp) w y (vs.getD (i * sz + j) undef)) ∧ (∀ u ∈ vs, u.oneCell' = true) ∧ ∃ ad cap, v = .slice ad ys.length cap := by
    intro b o cap m f hv hm hs hc hr
    subst hm
    have hlt : ∀ {i j y}, at2 ys i j = some y → i * sz + j < ys.length * sz := by
      intro i j y hy
      obtain ⟨r, h1, h2⟩ := at2_lt hy
      have h3 := (List.getElem?_eq_some_iff.1 h1).1
      have h4 : j < sz := by rw [← hs r (List.mem_of_getElem? h1)]; exact (List.getElem?_eq_some_iff.1 h2).1
      have h5 : (i + 1) * sz ≤ ys.length * sz := Nat.mul_le_mul_right sz (by omega)
      have h6 : (i + 1) * sz = i * sz + sz := by rw [Nat.add_mul]; omega
      omega
    refine ⟨(List.range (ys.length * sz)).map f, by simp, fun w2 hw2 => ?_, hs, fun i j y hy => ?_, fun u hu => ?_, _, _, hv⟩
    · rw [hv]
      refine run_firstCells sz ys.length b o cap _ (by simp) (fun q hq => ?_) _
      have : w2.cell? ⟨b, o + q, none⟩ = w.cell? ⟨b, o + q, none⟩ := by simp only [World.cell?, hw2]
      rw [this, hc q hq]
      simp [hq]
    · rw [show ((List.range (ys.length * sz)).map f).getD (i * sz + j) undef = f (i * sz + j) from by simp [List.getD, hlt hy]]
      exact hr i j y hy
    · obtain ⟨q, hq, rfl⟩ := List.mem_map.1 hu
      have hq : q < ys.length * sz := by simpa using hq
      obtain ⟨y, hy⟩ := at2_full hs hq
      have := hr _ _ _ hy
      rw [Nat.mul_comm, Nat.div_add_mod] at this
      exact this.one
  have empty : ys = [] → (∃ ad cap, v = .slice ad 0 cap) → ∃ vs : List Value, vs.length = ys.length * sz ∧ (∀ w2 : World, w2.heap = w.heap → (Builtin.firstCells sz ys.length v).run P w2 = .ok vs.toArray w2) ∧ (∀ y ∈ ys, y.length = sz) ∧
      (∀ i j y, at2 ys i j = some y → RIV (Im E ψ s.hp) w y (vs.getD (i * sz + j) undef)) ∧ (∀ u ∈ vs, u.oneCell' = true) ∧ ∃ ad cap, v = .slice ad ys.length cap := by
    rintro rfl ⟨ad, cap, rfl⟩
    refine ⟨[], by simp, fun w2 _ => ?_, by simp, by simp [at2], by simp, ad, cap, rfl⟩
    cases ad <;> simp [Builtin.firstCells, loadCells, loadCellsFrom]
  unfold St.elems at he
  split at he
  · rename_i sz' xs
    cases he
    rcases inv_lst hx with ⟨rfl, hv⟩ | ⟨b, off, cap, ad, vs, g1, g2, g3, g4, g5, hv⟩
    · exact empty rfl ⟨none, 0, hv⟩
    · by_cases hne : ys = []
      · exact empty hne ⟨some ad, cap, by rw [hv, hne]; rfl⟩
      · have hz' : sz2 = sz := hz.resolve_right hne
        subst hz'
        have g1 := g1 hne
        subst g1
        refine build b off cap ys.length (fun q => vs (q / sz2) (q % sz2)) hv rfl g2 (fun q hq => ?_) (fun i j y hy => ?_)
        · obtain ⟨y, hy⟩ := at2_full g2 hq
          have := (g4 _ _ _ hy).2
          rw [Nat.mul_comm, Nat.div_add_mod] at this
          exact this
        · have hj : j < sz2 := by
            obtain ⟨r, h1, h2⟩ := at2_lt hy
            rw [← g2 r (List.mem_of_getElem? h1)]; exact (List.getElem?_eq_some_iff.1 h2).1
          have e1 : (i * sz2 + j) / sz2 = i := by rw [Nat.mul_comm, Nat.mul_add_div (by omega), Nat.div_eq_of_lt hj, Nat.add_zero]
          have e2 : (i * sz2 + j) % sz2 = j := by rw [Nat.mul_comm, Nat.mul_add_mod, Nat.mod_eq_of_lt hj]
          simp only [e1, e2]
          exact g5 i j y hy
  · rename_i sz'
    cases he
    exact empty rfl ⟨none, 0, inv_nil hx⟩
  · rename_i id sz' lo m
    split at he
    · rename_i o ho
      split at he
      · rename_i z0 xs hels
        cases he
        obtain ⟨o', xm, q1, q1', q2, hcase⟩ := inv_sl hx
        rw [ho] at q1; cases q1
        have hd := els_dim hels
        rw [q1'] at hd
        simp only [Option.some.injEq, Prod.mk.injEq] at hd
        obtain ⟨hd1, hd2⟩ := hd
        subst hd1; subst hd2
        rcases hcase with ⟨p1, rfl, rfl, hv⟩ | ⟨b, k, cap, ad, p1, p2, p3, p4, hv⟩
        · exact empty (by simp) ⟨none, 0, hv⟩
        · have hlen : ((xs.drop lo).take m).length = m := by simp; omega
          by_cases hm : m = 0
          · subst hm; exact empty (by simp) ⟨some ad, cap, hv⟩
          · have hz' := hz.resolve_right (by intro e; rw [e] at hlen; simp at hlen; omega)
            subst hz'
            have p2 := p2 (by omega)
            subst p2
            obtain ⟨h0, h5⟩ := els_rob hels (h.obs id _ ho)
            rcases h5 with ⟨h1, _⟩ | ⟨b', k', c, e, h1, h2, h3', h3, h4⟩
            · rw [h1] at p1; cases p1
            rw [h1] at p1; cases p1
            refine build b (k.1 + lo * sz2) cap m (fun q => c.getD (k.1 + (lo * sz2 + q)) undef) hv hlen.symm (fun y hy => h0 y (List.mem_of_mem_drop (List.mem_of_mem_take hy))) (fun q hq => ?_) (fun i j y hy => ?_)
            · rw [hlen] at hq
              have hm2 : (lo + m) * sz2 ≤ xs.length * sz2 := Nat.mul_le_mul_right sz2 q2
              have : (lo + m) * sz2 = lo * sz2 + m * sz2 := Nat.add_mul _ _ _
              rw [Nat.add_assoc]
              exact cell_getD h2 (by omega)
            · have := h4 _ _ _ (at2_drop_take _ _ _ _ _ _ hy)
              rw [Nat.add_mul, Nat.add_assoc] at this
              exact this
      · cases he
    · cases he
  · cases he
end
end Go.Vm
end

/- Each operation of the model does what the abstract machine's does: append, store. -/
section
namespace Go.Vm
theorem growBy_le2 (need c : Nat) (h : c < need) (h2 : 256 ≤ c) : ∀ r, Builtin.growBy need r c ≤ 2 * need := by
  intro r
  induction r generalizing c with
  | zero => simp [Builtin.growBy]; omega
  | succ r ih =>
    unfold Builtin.growBy
    split
    · omega
    · by_cases h3 : c + (c + 768) / 4 < need
      · exact ih _ h3 (by omega)
      · have : Builtin.growBy need r (c + (c + 768) / 4) = c + (c + 768) / 4 := by
          cases r with
          | zero => rfl
          | succ r => unfold Builtin.growBy; rw [if_pos (by omega)]
        rw [this]; omega
theorem nextcap_le (need old : Nat) (h : old < need) : Builtin.nextslicecap need old ≤ 2 * need := by
  unfold Builtin.nextslicecap
  split
  · omega
  · split
    · omega
    · exact growBy_le2 need old h (by omega) 4
section
variable {P : Program} {E : En} {n : Nat} {ψ : Pl} {s : St} {a : Act} {w : World}
variable {dst : Option Nat} {ty : TypeId} {pos : String} {af : Array Edge} {g : Option (Nat × Bool)} {r : Rhs} {d : Nat} {K : St → AV → Prop}
theorem run_call_append {x y : Operand} {ts : Array TypeId} {v : Value} {w' : World} (hv : (Builtin.append_ ts ty #[a.eval x, a.eval y]).run P w = .ok v w') :
    (execOp a.eval ⟨dst, .call ⟨.builtin .append, #[x, y], ts⟩, ty, pos, af, g⟩).run P w = .ok (.value v) w' := by
  simp only [execOp, resolve, Sem.run_bind, Sem.run_pure, Result.andThen_ok, invoke, builtin]
  simp [hv]
theorem append_room {t u e : TypeId} {sz m cap cy ny : Nat} {base ady : Option Addr} {vs : List Value} {ts : Array TypeId} (h0 : ts[0]? = some t) (h1 : ts[1]? = some u)
    (hu : P.underlying t = some (.slice e)) (hu2 : ∃ e2, P.underlying u = some (.slice e2)) (hsz : infoSize P e = some sz) {w w' : World} (hroom : m + ny ≤ cap)
    (hread : (Builtin.firstCells sz ny (.slice ady ny cy)).run P w = .ok vs.toArray w)
    (hst : ∀ ad, base = some ad → (storeCells (ad.add (m * sz)) vs).run P w = .ok () w') (hst0 : base = none → w' = w) :
    (Builtin.append_ ts ty #[.slice base m cap, .slice ady ny cy]).run P w = .ok (.slice base (m + ny) cap) w' := by
  obtain ⟨e2, hu2⟩ := hu2
  unfold Builtin.append_
  simp only [h0, List.getElem?_toArray, List.getElem?_cons_zero, List.getElem?_cons_succ, Sem.run_bind, run_underlying w hu, run_underlying w hu2, run_sizeOf w hsz, Result.andThen_ok, h1, Sem.run_pure,
    Bool.false_eq_true, if_false, Builtin.lenOf, if_pos hroom, Bool.not_false, if_true, hread]
  cases base with
  | none => rw [hst0 rfl]; rfl
  | some ad => simp only [Sem.run_bind, hst ad rfl, Result.andThen_ok, Sem.run_pure]
theorem append_grow {t u e : TypeId} {sz m cap cy ny : Nat} {base ady : Option Addr} {vs us : List Value} {ts : Array TypeId} {i : TypeInfo} {zv : Value} (h0 : ts[0]? = some t) (h1 : ts[1]? = some u)
    (hu : P.underlying t = some (.slice e)) (hu2 : ∃ e2, P.underlying u = some (.slice e2)) (hi : P.info? e = some i) (hiz : i.zero = some zv) (hsz : i.size = sz) {w : World} (hroom : ¬ m + ny ≤ cap)
    (hbig : m + ny < 2 ^ 62) (hby : (m + ny) * i.bytes ≤ 2 ^ 47)
    (hread : ∀ w2 : World, w2.heap = w.heap → (Builtin.firstCells sz ny (.slice ady ny cy)).run P w2 = .ok vs.toArray w2)
    (hread2 : ∀ w2 : World, w2.heap = w.heap → (Builtin.firstCells sz m (.slice base m cap)).run P w2 = .ok us.toArray w2) :
    ∃ newCap rest, (m + ny ≤ newCap ∧ newCap < 2 ^ 63) ∧ rest.size = (newCap - (m + ny)) * zv.cells.size ∧
      (Builtin.append_ ts ty #[.slice base m cap, .slice ady ny cy]).run P w = .ok (.slice (some ⟨w.heap.size, 0, none⟩) (m + ny) newCap) (w.drew.alloc (.cells (us.toArray ++ vs.toArray ++ rest) e)) := by
  obtain ⟨e2, hu2⟩ := hu2
  have hsz' : infoSize P e = some sz := by simp [infoSize, hi, hsz]
  let newCap := (Question.appendCap (m + ny) cap e).cut (w.tape w.drawn (.appendCap (m + ny) cap e))
  have hcap : m + ny ≤ newCap := by simp only [newCap, Question.cut]; omega
  have hcap2 : newCap < 2 ^ 63 := by
    simp only [newCap, Question.cut]
    have := Nat.mod_lt (w.tape w.drawn (.appendCap (m + ny) cap e)) (show 2 ^ 63 - (m + ny) > 0 by omega)
    omega
  have hnext : ¬ (Builtin.nextslicecap (m + ny) cap * i.bytes > 2 ^ 48) := by
    have := nextcap_le (m + ny) cap (by omega)
    have := Nat.mul_le_mul_right i.bytes this
    rw [Nat.mul_assoc] at this
    omega
  have hti : ∀ w2 : World, (typeInfo e).run P w2 = .ok i w2 := fun w2 => by simp [typeInfo, hi]
  have hneed : ¬ (((m + ny : Nat) : Int) > IntKind.i64.max ∧ (false = true ∨ i.bytes = 0)) := by
    have : IntKind.i64.max = 2 ^ 63 - 1 := rfl
    rw [this]; omega
  refine ⟨newCap, Builtin.zeroCells zv.cells (newCap - (m + ny)), ⟨hcap, hcap2⟩, by simp [Builtin.zeroCells], ?_⟩
  unfold Builtin.append_
  simp only [h0, List.getElem?_toArray, List.getElem?_cons_zero, List.getElem?_cons_succ, Sem.run_bind, run_underlying w hu, run_underlying w hu2, run_sizeOf w hsz', Result.andThen_ok, h1, Sem.run_pure,
    Bool.false_eq_true, if_false, Builtin.lenOf, if_neg hroom, hti, run_zero hi hiz]
  rw [if_neg (by simpa using hneed)]
  simp only [Sem.run_bind, hti, Result.andThen_ok]
  rw [if_neg hnext]
  simp only [Sem.run_bind, run_choose, Question.forced, Bool.false_eq_true, if_false, Result.andThen_ok, run_askRoom, hti, Bool.not_false, if_true, World.drew_eq]
  rw [hread2 w.drew rfl]
  simp only [Result.andThen_ok]
  rw [hread w.drew rfl]
  simp only [Result.andThen_ok, run_zero hi hiz, newRow, Sem.run_bind, run_newObj, Sem.run_pure]
  rfl
theorem comp_append {x y : Operand} {ts : Array TypeId} {ty : TypeId} (hc : comp P ⟨dst, .call ⟨.builtin .append, #[x, y], ts⟩, ty, pos, af, g⟩ = some r) :
    ∃ t u e e2 i zv, ts[0]? = some t ∧ ts[1]? = some u ∧ P.underlying t = some (.slice e) ∧ P.underlying u = some (.slice e2) ∧ P.info? e = some i ∧ i.zero = some zv ∧ zv.cells.size = i.size ∧ r = .app i.size i.bytes x y := by
  simp only [comp] at hc
  have ht : ts = ts.toList.toArray := by simp
  cases hl : ts.toList with
  | nil => rw [hl] at hc; cases hc
  | cons t l =>
    cases l with
    | nil => rw [hl] at hc; cases hc
    | cons u l =>
      cases l with
      | cons => rw [hl] at hc; cases hc
      | nil =>
        rw [hl] at hc ht
        simp only at hc
        split at hc
        · rename_i e e2 h1 h2
          cases hi : P.info? e with
          | none => rw [hi] at hc; cases hc
          | some i =>
            rw [hi] at hc
            simp only [Option.bind_some] at hc
            cases hz : i.zero with
            | none => rw [hz] at hc; cases hc
            | some zv =>
              rw [hz] at hc
              simp only [Option.bind_some] at hc
              split at hc
              · rename_i hs
                exact ⟨t, u, e, e2, i, zv, by rw [ht]; rfl, by rw [ht]; rfl, h1, h2, hi, hz, hs, by simpa using hc.symm⟩
              · cases hc
        · cases hc
theorem getD_append3 (us vs : List Value) (rest : Array Value) (q : Nat) : (us.toArray ++ vs.toArray ++ rest).getD q undef = if q < us.length then us.getD q undef else if q < us.length + vs.length then vs.getD (q - us.length) undef else rest.getD (q - (us.length + vs.length)) undef := by
  simp only [Array.getD_eq_getD_getElem?, List.getD]
  by_cases h1 : q < us.length
  · rw [if_pos h1, Array.getElem?_append_left (by simp; omega), Array.getElem?_append_left (by simpa using h1)]; simp
  · rw [if_neg h1]
    by_cases h2 : q < us.length + vs.length
    · rw [if_pos h2, Array.getElem?_append_left (by simp; omega), Array.getElem?_append_right (by simp; omega)]; simp
    · rw [if_neg h2, Array.getElem?_append_right (by simp; omega)]; simp
theorem at2_append {xs ys : List (List IV)} {i j : Nat} {x : IV} (h : at2 (xs ++ ys) i j = some x) : (i < xs.length ∧ at2 xs i j = some x) ∨ (xs.length ≤ i ∧ at2 ys (i - xs.length) j = some x) := by
  by_cases h1 : i < xs.length
  · left; refine ⟨h1, ?_⟩; simpa [at2, List.getElem?_append_left h1] using h
  · right; refine ⟨by omega, ?_⟩; simpa [at2, List.getElem?_append_right (by omega : xs.length ≤ i)] using h
theorem at2_bound {xs : List (List IV)} {sz : Nat} (hs : ∀ x ∈ xs, x.length = sz) {i j : Nat} {x : IV} (h : at2 xs i j = some x) : i < xs.length ∧ j < sz ∧ i * sz + j < xs.length * sz := by
  obtain ⟨r, h1, h2⟩ := at2_lt h
  have h3 := (List.getElem?_eq_some_iff.1 h1).1
  have h4 : j < sz := by rw [← hs r (List.mem_of_getElem? h1)]; exact (List.getElem?_eq_some_iff.1 h2).1
  have h5 : (i + 1) * sz ≤ xs.length * sz := Nat.mul_le_mul_right sz (by omega)
  have h6 : (i + 1) * sz = i * sz + sz := by rw [Nat.add_mul]; omega
  omega
theorem rob_rows {A' : Nat → Prop} {ψ' : Pl} {H' : Hp} {w' : World} {id b sz : Nat} {k : Nat × Nat} {xs ys : List (List IV)} {C : Array Value} {e : TypeId} (hψ : ψ' id = some (b, k))
    (hb : w'.heap[b]? = some (.cells C e (0, 0))) (hk : k.1 + k.2 = C.size) (hxs : ∀ x ∈ xs, x.length = sz) (hys : ∀ x ∈ ys, x.length = sz) (hl : (xs.length + ys.length) * sz ≤ k.2)
    (h1 : ∀ i j x, at2 xs i j = some x → RIV A' w' x (C.getD (k.1 + (i * sz + j)) undef))
    (h2 : ∀ i j x, at2 ys i j = some x → RIV A' w' x (C.getD (k.1 + (xs.length * sz + (i * sz + j))) undef)) : ROb A' ψ' H' w' id (.list sz (xs ++ ys)) := by
  refine ⟨fun x hx => ?_, .inr ⟨b, k, C, e, hψ, hb, hk, by simpa using hl, fun i j x hx => ?_⟩⟩
  · rcases List.mem_append.1 hx with hx | hx
    · exact hxs x hx
    · exact hys x hx
  · rcases at2_append hx with ⟨_, hx⟩ | ⟨hi, hx⟩
    · exact h1 i j x hx
    · have := h2 _ _ _ hx
      rw [Nat.sub_mul] at this
      have h3 : xs.length * sz ≤ i * sz := Nat.mul_le_mul_right sz hi
      have e : xs.length * sz + (i * sz - xs.length * sz + j) = i * sz + j := by omega
      rw [e] at this
      exact this
theorem sound_app {x y : Operand} {ts : Array TypeId} (hc : comp P ⟨dst, .call ⟨.builtin .append, #[x, y], ts⟩, ty, pos, af, g⟩ = some r) (hd : d < 1000) (h : SimAt E n ψ s a w) (hk : stp P d s K r) :
    Does P E n ⟨dst, .call ⟨.builtin .append, #[x, y], ts⟩, ty, pos, af, g⟩ a w K := by
  obtain ⟨t, u, e, e2, ti, zv, h0, h1, hu, hu2, hi, hz, hzs, rfl⟩ := comp_append hc
  have hsz : infoSize P e = some ti.size := by simp [infoSize, hi]
  generalize hszd : ti.size = sz at *
  generalize hbyd : ti.bytes = bytes at *
  simp only [stp] at hk
  have hx := h.ev x
  have hy := h.ev y
  -- in a new row
  have grow : ∀ (m : Nat) (base : Option Addr) (cap : Nat) (us : List Value) (sz2 : Nat) (ys : List (List IV)), s.elems (s.ev y) = some (sz2, ys) → (sz2 = sz ∨ ys = []) → a.eval x = .slice base m cap →
      ¬ m + ys.length ≤ cap → m + ys.length < 2 ^ 62 → (m + ys.length) * bytes ≤ 2 ^ 47 → us.length = m * sz → (∀ w2 : World, w2.heap = w.heap → (Builtin.firstCells sz m (.slice base m cap)).run P w2 = .ok us.toArray w2) →
      ∃ (newCap : Nat) (C : Array Value) (w' : World), Ext w w' ∧ w'.heap[w.heap.size]? = some (.cells C e (0, 0)) ∧ (m + ys.length ≤ newCap ∧ newCap < 2 ^ 63) ∧ C.size = newCap * sz ∧
        (execOp a.eval ⟨dst, .call ⟨.builtin .append, #[x, y], ts⟩, ty, pos, af, g⟩).run P w = .ok (.value (.slice (some ⟨w.heap.size, 0, none⟩) (m + ys.length) newCap)) w' ∧
        (∀ q, q < m * sz → C.getD q undef = us.getD q undef) ∧ (∀ y ∈ ys, y.length = sz) ∧ ∀ i j x, at2 ys i j = some x → RIV (Im E ψ s.hp) w x (C.getD (m * sz + (i * sz + j)) undef) := by
    intro m base cap us sz2 ys he hs2 hvx hroom hbig hby hul hur
    obtain ⟨vs, y1, y2, y3, y4, y5, ady, cy, hvy⟩ := elems_read h hy he hs2
    obtain ⟨newCap, rest, ⟨c1, c1m⟩, c2, hr⟩ := append_grow (P := P) (ty := ty) (base := base) (ady := ady) (cy := cy) (m := m) (cap := cap) (us := us) (vs := vs) h0 h1 hu ⟨e2, hu2⟩ hi hz hszd (w := w)
      hroom hbig (by rw [hbyd]; exact hby) (fun w2 hw2 => by rw [← hvy]; exact y2 w2 hw2) hur
    have e1 : (m + ys.length) * sz = m * sz + ys.length * sz := Nat.add_mul _ _ _
    have hnc : (m + ys.length) * sz ≤ newCap * sz := Nat.mul_le_mul_right sz c1
    have e3 : (newCap - (m + ys.length)) * sz = newCap * sz - (m + ys.length) * sz := Nat.sub_mul _ _ _
    refine ⟨newCap, us.toArray ++ vs.toArray ++ rest, _, (Ext.drew w).trans (Ext.alloc _ (.cells (us.toArray ++ vs.toArray ++ rest) e)), ?_, ⟨c1, c1m⟩, ?_, run_call_append (by rw [hvx, hvy]; exact hr), fun q hq => ?_, y3, fun i j x hx => ?_⟩
    · exact heap_alloc_new w.drew _
    · simp only [Array.size_append, List.size_toArray, hul, y1, c2, hzs, e3]; omega
    · rw [getD_append3, if_pos (by omega)]
    · have hb := at2_bound y3 hx
      rw [getD_append3, if_neg (by omega), if_pos (by omega), hul, show m * sz + (i * sz + j) - m * sz = i * sz + j from by omega]
      exact y4 i j x hx
  generalize hax : s.ev x = ax at hx hk
  split at hk
  · -- onto a list of one's own
    rename_i id sz' lo m sz2 ys he
    split at hk
    · rename_i o ho
      split at hk
      · rename_i z0 xs hels
        obtain ⟨rfl, hs2, hid, hlm, hby, hbig, hk⟩ := hk
        obtain ⟨o', xm, q1, q1', q2, hcase⟩ := inv_sl hx
        rw [ho] at q1; cases q1
        have hdd := els_dim hels
        rw [q1'] at hdd
        simp only [Option.some.injEq, Prod.mk.injEq] at hdd
        obtain ⟨hd1, hd2⟩ := hdd
        have hd1 := hd1.symm
        subst hd1; subst hd2
        obtain ⟨hs0, hob2⟩ := els_rob hels (h.obs id _ ho)
        have hdl : (xs.drop lo).length = m := by simp; omega
        have hds : ∀ x ∈ xs.drop lo, x.length = z0 := fun x hx => hs0 x (List.mem_of_mem_drop hx)
        have hlen : (xs.drop lo ++ ys).length = m + ys.length := by simp; omega
        have he1 : s.elems (.sl id z0 lo m) = some (z0, xs.drop lo) := by
          simp only [St.elems, ho, hels]
          congr 2
          rw [← hdl, List.take_length]
        obtain ⟨us, x1, x2, x3, x4, x5, adx, cx, hvx'⟩ := elems_read h hx he1 (.inl rfl)
        rw [hdl] at x1 x2 hvx'
        -- in a new row
        have new : ∀ base cap, a.eval x = .slice base m cap → ¬ m + ys.length ≤ cap → Does P E n ⟨dst, .call ⟨.builtin .append, #[x, y], ts⟩, ty, pos, af, g⟩ a w K := by
          intro base cap hvx hroom
          obtain ⟨newCap, C, w', w1, w2, ⟨w3, w3m⟩, w4, w5, w6, w7, w8⟩ := grow m base cap us sz2 ys he hs2 hvx hroom hbig hby x1 (fun w2 hw2 => by rw [← hvx]; exact x2 w2 hw2)
          have h2 := h.renew (o' := o.setEls z0 (xs.drop lo ++ ys)) hid ho (setEls_org hels) (p := some (w.heap.size, (0, C.size))) (w' := w') (fun b hb _ => w1.block b hb) w1.size w1.same
            (fun b k e => by cases e; exact .inl (Nat.le_refl _))
            (rob_els hels <| rob_rows (b := w.heap.size) (k := (0, C.size)) (by simp [upd]) w2 (by simp) hds w7 (by rw [hdl, w4]; exact Nat.mul_le_mul_right z0 w3)
              (fun i j x hx => by
                have hb := at2_bound hds hx
                rw [hdl] at hb
                rw [Nat.zero_add, w6 _ (by omega)]
                exact (x4 i j x hx).mono (fun b hb hi => ⟨hb, hi⟩) (fun b hb _ => w1.block b hb))
              (fun i j x hx => by
                rw [Nat.zero_add, hdl]
                exact (w8 i j x hx).mono (fun b hb hi => ⟨hb, hi⟩) (fun b hb _ => w1.block b hb)))
          exact does_run w5 hk h2 (.sl id z0 0 (m + ys.length) w.heap.size (0, C.size) newCap _ (o.setEls z0 (xs.drop lo ++ ys)) _ (by simp [look_add]) (setEls_dim hels) (by rw [hlen]; omega) (by simp [upd]) (fun _ => by simp) w3 (by rw [w4]; simp) w3m)
        rcases hcase with ⟨p1, rfl, rfl, hvx⟩ | ⟨b, k, cap, ad, p1, p2, p3, p4, hvx⟩
        · -- nil
          by_cases hy0 : ys = []
          · subst hy0
            have hxs : xs = [] := by
              rcases hob2 with ⟨_, h2⟩ | ⟨b', k', c', e', h2, _⟩
              · exact h2
              · rw [p1] at h2; cases h2
            subst hxs
            obtain ⟨vs, y1, y2, y3, y4, y5, ady, cy, hvy⟩ := elems_read h hy he hs2
            have hr := append_room (P := P) (ty := ty) (base := none) (ady := ady) (cy := cy) (m := 0) (cap := 0) (ny := 0) (vs := vs) h0 h1 hu ⟨e2, hu2⟩ hsz (w := w) (w' := w) (by omega)
              (by have := y2 w rfl; rw [hvy] at this; exact this) (fun ad e => by cases e) (fun _ => rfl)
            have h2 := h.renew (o' := o.setEls z0 []) hid ho (setEls_org hels) (p := none) (w' := w) (fun _ _ _ => rfl) (Nat.le_refl _) ⟨rfl, rfl, rfl⟩ (fun _ _ e => by cases e)
              (rob_els hels ⟨by simp, .inl ⟨by simp [upd], rfl⟩⟩)
            refine does_run (run_call_append (by rw [hvx, hvy]; exact hr)) (by simpa using hk) h2 ?_
            exact .sl0 id z0 (o.setEls z0 []) 0 (by simp [look_add]) (setEls_dim hels) (by simp [upd])
          · exact new none 0 hvx (by have := List.length_pos_iff.2 hy0; omega)
        · by_cases hroom : m + ys.length ≤ cap
          · -- where there is room
            obtain ⟨vs, y1, y2, y3, y4, y5, ady, cy, hvy⟩ := elems_read h hy he hs2
            rcases hob2 with ⟨h1', _⟩ | ⟨b', k', c, e', g1, g2, g3, g3', g4⟩
            · rw [h1'] at p1; cases p1
            rw [g1] at p1; cases p1
            have e1 : (lo + cap) * z0 = lo * z0 + cap * z0 := Nat.add_mul _ _ _
            have e3 : (m + ys.length) * z0 ≤ cap * z0 := Nat.mul_le_mul_right z0 hroom
            have e4 : (m + ys.length) * z0 = m * z0 + ys.length * z0 := Nat.add_mul _ _ _
            -- the stores
            have st : ∃ w', (∀ ad', some ad = some ad' → (storeCells (ad'.add (m * z0)) vs).run P w = .ok () w') ∧ (∀ j, j ≠ b → w'.heap[j]? = w.heap[j]?) ∧ w'.heap.size = w.heap.size ∧
                (w'.os = w.os ∧ w'.tape = w.tape ∧ w'.output = w.output) ∧ ∃ c', w'.heap[b]? = some (.cells c' e' (0, 0)) ∧ c'.size = c.size ∧
                ∀ q, q < c.size → c'.getD q undef = if k.1 + lo * z0 + m * z0 ≤ q ∧ q < k.1 + lo * z0 + m * z0 + vs.length then vs.getD (q - (k.1 + lo * z0 + m * z0)) undef else c.getD q undef := by
              by_cases hv0 : vs = []
              · subst hv0
                refine ⟨w, fun ad' _ => rfl, fun _ _ => rfl, rfl, ⟨rfl, rfl, rfl⟩, c, g2, rfl, fun q _ => ?_⟩
                rw [if_neg (by simp)]
              · have hvl : 0 < vs.length := List.length_pos_iff.2 hv0
                have hcap : 0 < cap := by
                  rcases Nat.eq_zero_or_pos cap with hc0 | hc0
                  · rw [hc0] at hroom
                    have : ys.length = 0 := by omega
                    rw [this] at y1; omega
                  · exact hc0
                have p2 := p2 hcap
                obtain ⟨w', r1, r2, r3, r4, r5⟩ := run_storeCells (P := P) b (k.1 + lo * z0 + m * z0) vs 0 w c e' g2 y5 (by omega)
                refine ⟨w', fun ad' hh => ?_, r2, r3, r4, putA c (k.1 + lo * z0 + m * z0) vs, r5, putA_size _ _ _, fun q hq => putA_getD _ _ _ _ hq⟩
                cases hh
                rw [p2, addr_add]
                exact r1
            obtain ⟨w', r1, r2, r3, r4, c', r5, r6, r7⟩ := st
            have hr := append_room (P := P) (ty := ty) (base := some ad) (ady := ady) (cy := cy) (m := m) (cap := cap) (ny := ys.length) (vs := vs) h0 h1 hu ⟨e2, hu2⟩ hsz (w := w) (w' := w') hroom
              (by rw [← hvy]; exact y2 w rfl) r1 (fun e => by cases e)
            have hH : Held ψ s.hp b := ⟨id, _, ho, .inl ⟨k, g1⟩⟩
            have hmono : ∀ {x v}, RIV (Im E ψ s.hp) w x v → RIV (fun b => b < w.heap.size ∧ Im E ψ s.hp b) w' x v := fun hh => hh.mono (fun b hb hi => ⟨hb, hi⟩) (fun j _ hi => r2 j (fun e => hi.2 (e ▸ hH)))
            have h2 := h.renew (o' := o.setEls z0 (xs.drop lo ++ ys)) hid ho (setEls_org hels) (p := some (b, (k.1 + lo * z0, k.2 - lo * z0))) (w' := w') (fun j hj hne => r2 j (fun e => hne k (by rw [e]; exact g1))) (by omega) r4
              (fun b1 k1 e => by cases e; exact .inr ⟨k, g1⟩)
              (rob_els hels <| rob_rows (b := b) (k := (k.1 + lo * z0, k.2 - lo * z0)) (by simp [upd]) r5 (by simp; omega) hds y3 (by rw [hdl]; simp; omega)
                (fun i j x hx => by
                  have hb := at2_bound hds hx
                  rw [hdl] at hb
                  rw [r7 _ (by simp; omega), if_neg (by simp; omega)]
                  have hx' : at2 xs (lo + i) j = some x := by simpa [at2, List.getElem?_drop] using hx
                  have := g4 _ _ _ hx'
                  rw [Nat.add_mul] at this
                  simp only
                  rw [show k.1 + lo * z0 + (i * z0 + j) = k.1 + (lo * z0 + i * z0 + j) from by omega]
                  exact hmono this)
                (fun i j x hx => by
                  have hb := at2_bound y3 hx
                  rw [hdl]
                  simp only
                  rw [r7 _ (by omega), if_pos (by omega), show k.1 + lo * z0 + (m * z0 + (i * z0 + j)) - (k.1 + lo * z0 + m * z0) = i * z0 + j from by omega]
                  exact hmono (y4 i j x hx)))
            refine does_run (run_call_append (by rw [hvx, hvy]; exact hr)) hk h2 ?_
            refine .sl id z0 0 (m + ys.length) b (k.1 + lo * z0, k.2 - lo * z0) cap ad (o.setEls z0 (xs.drop lo ++ ys)) _ (by simp [look_add]) (setEls_dim hels) (by rw [hlen]; omega) (by simp [upd]) (fun hc => by rw [p2 hc]; simp) hroom (by simp; omega) (by rw [hvx] at hx; exact inv_sl_cap hx)
          · exact new (some ad) cap hvx hroom
      · exact hk.elim
    · exact hk.elim
  · -- onto nil
    rename_i sz' sz2 ys he
    obtain ⟨hs2, hby, hbig, hk⟩ := hk
    have hvx := inv_nil hx
    have hdr := h.drop (id := d) hd
    by_cases hy0 : ys = []
    · subst hy0
      obtain ⟨vs, y1, y2, y3, y4, y5, ady, cy, hvy⟩ := elems_read h hy he hs2
      have hr := append_room (P := P) (ty := ty) (base := none) (ady := ady) (cy := cy) (m := 0) (cap := 0) (ny := 0) (vs := vs) h0 h1 hu ⟨e2, hu2⟩ hsz (w := w) (w' := w) (by omega)
        (by have := y2 w rfl; rw [hvy] at this; exact this) (fun ad e => by cases e) (fun _ => rfl)
      have h2 := hdr.new (o := .list sz []) (p := none) hd (look_drop s d) (Ext.refl w) (fun _ _ e => by cases e) ⟨(fun x hx => by cases hx), .inl ⟨by simp [upd], rfl⟩⟩
      refine does_run (run_call_append (by rw [hvx, hvy]; exact hr)) hk h2 ?_
      exact .sl0 d sz (.list sz []) 0 (by simp [look_add]) rfl (by simp [upd])
    · obtain ⟨newCap, C, w', w1, w2, ⟨w3, w3m⟩, w4, w5, w6, w7, w8⟩ := grow 0 none 0 [] sz2 ys he hs2 hvx (by have := List.length_pos_iff.2 hy0; omega) (by omega) (by simpa using hby) (by simp) (fun _ _ => rfl)
      have him : ∀ b, b < w.heap.size → Im E ψ s.hp b → Im E ψ (s.drop d).hp b := by
        rintro b _ ⟨i1, i2⟩
        refine ⟨i1, ?_⟩
        rintro ⟨k, o, ho, hq⟩
        unfold St.drop at ho
        split at ho
        · exact i2 ⟨k, o, ho, hq⟩
        · simp only [look_filter] at ho
          split at ho
          · cases ho
          · rw [look_mapc] at ho
            cases ho' : look s.hp k with
            | none => rw [ho'] at ho; cases ho
            | some o' => exact i2 ⟨k, o', ho', hq⟩
      have h2 := hdr.new (o := .list sz ys) (p := some (w.heap.size, (0, C.size))) hd (look_drop s d) w1 (fun b k e => by cases e; exact Nat.le_refl _)
        (rob_rows (xs := []) (b := w.heap.size) (k := (0, C.size)) (by simp [upd]) w2 (by simp) (by simp) w7 (by rw [w4]; simpa using Nat.mul_le_mul_right sz w3) (by simp [at2])
          (fun i j x hx => by
            have := w8 i j x hx
            simp only [Nat.zero_mul, Nat.zero_add, List.length_nil] at this ⊢
            exact this.mono (fun b hb hi => ⟨hb, him b hb hi⟩) (fun b hb _ => w1.block b hb)))
      rw [Nat.zero_add] at w5 w3
      exact does_run w5 hk h2 (.sl d sz 0 ys.length w.heap.size (0, C.size) newCap _ (.list sz ys) ys.length (by simp [look_add]) rfl (by omega) (by simp [upd]) (fun _ => by simp) w3 (by rw [w4]; simp) w3m)
  · exact hk.elim
end
end Go.Vm
end

/- Each operation of the model does what the abstract machine's does: stores; structs held against one another. -/
section
namespace Go.Vm
section
variable {P : Program} {E : En} {n : Nat} {ψ : Pl} {s : St} {a : Act} {w : World}
variable {dst : Option Nat} {ty : TypeId} {pos : String} {af : Array Edge} {g : Option (Nat × Bool)} {r : Rhs} {d : Nat} {K : St → AV → Prop}
theorem run_store_op {t : TypeId} {x y : Operand} {q : Nat} (hq : infoSize P t = some q) {b o : Nat} (hx : a.eval x = .pointer (some ⟨b, o, none⟩)) (hl : (a.eval y).cells.size = q) {w' : World}
    (hs : (storeCells ⟨b, o, none⟩ (a.eval y).cells.toList).run P w = .ok () w') :
    (execOp a.eval ⟨dst, .store t x y, ty, pos, af, g⟩).run P w = .ok .skip w' := by
  simp only [execOp, Instr.storeAt, hx, sure, storeVar, Sem.run_bind, Sem.run_pure', Result.andThen_ok, run_sizeOf w hq, hl, ne_eq, not_true, if_false, hs, Sem.run_pure]
theorem sound_st0 {t : TypeId} {x y : Operand} {q : Nat} (hq : infoSize P t = some q) (h : SimAt E n ψ s a w) (hk : stp P d s K (.st x y q))
    (hno : ∀ id sz i off z xs hole, s.ev x = .ep id sz i off → look (s.frz [s.ev y]).hp id ≠ some (.listo z xs hole)) :
    Does P E n ⟨dst, .store t x y, ty, pos, af, g⟩ a w K := by
  simp only [stp] at hk
  have hx := h.ev x
  have hy := h.ev y
  generalize hax : s.ev x = ax at hx hk
  split at hk
  · rename_i id off
    split at hk
    · rename_i cs cy ho hcy
      obtain ⟨hl, hin, hone, hk⟩ := hk
      obtain ⟨b, k, o, ho', hb, hvx⟩ := inv_ptr hx
      obtain ⟨b', c, e, h1, h2, h3, h4⟩ := h.obs id _ ho
      rw [h1] at hb; cases hb
      obtain ⟨g1, g2⟩ := cellsOf_rav hy hcy
      have hlen : (a.eval y).cells.toList.length = cy.length := by simpa using g1
      have g2' : ∀ i x, cy[i]? = some x → RAV (Im E ψ s.hp) ψ s.hp w x ((a.eval y).cells.toList.getD i undef) := fun i x hx => by rw [toList_getD]; exact g2 i x hx
      obtain ⟨w', r1, r2, r3, r4, r5⟩ := run_storeCells (P := P) b off (a.eval y).cells.toList 0 w c e h2 (cells_one hlen g2' hone) (by omega)
      have hrun := run_store_op (dst := dst) (ty := ty) (pos := pos) (af := af) (g := g) hq hvx (by omega) r1
      have hsr : (setRange cs off cy).length = cs.length := setRange_length _ _ _ (by omega)
      have hch := h.chg (o' := .box (setRange cs off cy)) ho (Ob.le_none rfl) rfl (by simp [Ob.multi]) h1 r2 r3 r4 (fun tr _ => by
        refine ⟨b, putA c off (a.eval y).cells.toList, e, by rw [putA_size]; exact h1, r5, by rw [putA_size, hsr]; exact h3, fun i z hz => tr _ _ (rav_setRange h3 h4 hlen g2' (by omega) i z hz)⟩)
      exact does_skip hrun hk hch
    · exact hk.elim
  · rename_i id sz0 i off
    have hf := h.frz [s.ev y]
    have hy' := hf.ev y
    have hx' := hf.ev x
    split at hk
    · rename_i sz xs cy ho hcy
      split at hk
      · rename_i r hr
        obtain ⟨hex, hl, hin, hk⟩ := hk
        rw [hex] at hx'
        obtain ⟨b, k, o', m', ho', he', hi, hb, hvx⟩ := inv_ep hx'
        rw [ho] at ho'; cases ho'
        simp only [Ob.dim, Option.some.injEq, Prod.mk.injEq] at he'
        obtain ⟨hz1, hz2⟩ := he'
        subst hz2
        cases hcs : ((s.frz [s.ev y]).ev y).cellsOf with
        | none => rw [hcs] at hcy; cases hcy
        | some cs =>
          rw [hcs] at hcy
          simp only [Option.bind_some] at hcy
          obtain ⟨g1, g2⟩ := cellsOf_rav hy' hcs
          have hlen : (a.eval y).cells.toList.length = cs.length := by simpa using g1
          obtain ⟨v1, v2⟩ := ivs_of hf hlen (fun i x hx => by rw [toList_getD]; exact g2 i x hx) hcy
          obtain ⟨hs0, hob⟩ := hf.obs id _ ho
          rcases hob with ⟨h1', _⟩ | ⟨b', k', c, e, h1, h2, h3, h3', h4⟩
          · rw [h1'] at hb; cases hb
          rw [h1] at hb; cases hb
          have hrl := hs0 r (List.mem_of_getElem? hr)
          have hm : (i + 1) * sz ≤ xs.length * sz := Nat.mul_le_mul_right sz (by omega)
          have e2 : (i + 1) * sz = i * sz + sz := by rw [Nat.add_mul]; omega
          have hones : ∀ v ∈ (a.eval y).cells.toList, v.oneCell' = true := by
            intro v hv
            obtain ⟨j, hj, rfl⟩ := List.getElem_of_mem hv
            have hcj : cy[j]? = some cy[j] := List.getElem?_eq_getElem (by omega)
            have := v2 j _ hcj
            rw [show (a.eval y).cells.toList.getD j undef = (a.eval y).cells.toList[j] from by rw [List.getD, List.getElem?_eq_getElem hj]; rfl] at this
            exact this.one
          obtain ⟨w', r1, r2, r3, r4, r5⟩ := run_storeCells (P := P) b (k.1 + (i * sz + off)) (a.eval y).cells.toList 0 w c e h2 hones (by omega)
          have hrun := run_store_op (dst := dst) (ty := ty) (pos := pos) (af := af) (g := g) hq hvx (by omega) r1
          have hsr : (setRange r off cy).length = r.length := setRange_length _ _ _ (by omega)
          have hch := hf.chg (o' := .list sz (xs.set i (setRange r off cy))) ho (Ob.le_of rfl rfl (by simp)) rfl (by simp [Ob.multi]) h1 r2 r3 r4 (fun _ tr => by
            refine ⟨fun z hz => ?_, .inr ⟨b, k, putA c (k.1 + (i * sz + off)) (a.eval y).cells.toList, e, h1, r5, by rw [putA_size]; exact h3, by simpa using h3', fun i' j z hz => ?_⟩⟩
            · rcases List.mem_or_eq_of_mem_set hz with hz | rfl
              · exact hs0 z hz
              · omega
            · have hb' : i' < xs.length ∧ j < sz ∧ i' * sz + j < xs.length * sz := by
                have := at2_bound (xs := xs.set i (setRange r off cy)) (sz := sz) (fun y hy => by
                  rcases List.mem_or_eq_of_mem_set hy with hy | rfl
                  · exact hs0 y hy
                  · omega) hz
                simpa using this
              rw [putA_getD _ _ _ _ (by omega)]
              by_cases hii : i' = i
              · subst hii
                have hz' : (setRange r off cy)[j]? = some z := by simpa [at2, List.getElem?_set, hi] using hz
                rw [setRange_get _ _ _ (by omega)] at hz'
                by_cases hjj : off ≤ j ∧ j < off + cy.length
                · rw [if_pos hjj] at hz'
                  rw [if_pos (by omega), show k.1 + (i' * sz + j) - (k.1 + (i' * sz + off)) = j - off from by omega]
                  exact tr _ _ (v2 _ _ hz')
                · rw [if_neg hjj] at hz'
                  rw [if_neg (by omega)]
                  exact tr _ _ (h4 _ _ _ (at2_of hr hz'))
              · have hz' : at2 xs i' j = some z := by simpa [at2, List.getElem?_set, Ne.symm hii] using hz
                have hne : ¬ (k.1 + (i * sz + off) ≤ k.1 + (i' * sz + j) ∧ k.1 + (i' * sz + j) < k.1 + (i * sz + off) + (a.eval y).cells.toList.length) := by
                  rcases Nat.lt_or_gt_of_ne hii with hlt | hlt
                  · have h7 : (i' + 1) * sz ≤ i * sz := Nat.mul_le_mul_right sz (by omega)
                    have h8 : (i' + 1) * sz = i' * sz + sz := by rw [Nat.add_mul]; omega
                    omega
                  · have h7 : (i + 1) * sz ≤ i' * sz := Nat.mul_le_mul_right sz (by omega)
                    omega
                rw [if_neg hne]
                exact tr _ _ (h4 _ _ _ hz'))
          exact does_skip hrun hk hch
      · exact hk.elim
    · rename_i ho
      exact absurd ho (hno _ _ _ _ _ _ _ hax)
    · exact hk.elim
  · exact hk.elim
/-! ### Structs are held against one another, cell by cell. -/
theorem eqCells_len : ∀ (ks : List Kd) (cs ds : List AV) (b : Bool), eqCells ks cs ds = some b → cs.length = ks.length ∧ ds.length = ks.length := by
  intro ks
  induction ks with
  | nil => intro cs ds b h; unfold eqCells at h; split at h <;> simp_all
  | cons k ks ih =>
    intro cs ds b h
    unfold eqCells at h
    split at h
    · simp_all
    · rename_i t ks' u r v q hk
      cases hk
      cases hc : eqCell k u v with
      | none => rw [hc] at h; cases h
      | some z =>
        rw [hc] at h
        simp only [Option.bind_some] at h
        cases hr : eqCells ks r q with
        | none => rw [hr] at h; cases h
        | some z2 => obtain ⟨g1, g2⟩ := ih _ _ _ hr; simp [g1, g2]
    · cases h
theorem eqCells_split : ∀ (k1 k2 : List Kd) (cs ds : List AV) (b : Bool), eqCells (k1 ++ k2) cs ds = some b →
    ∃ b1 b2, eqCells k1 (cs.take k1.length) (ds.take k1.length) = some b1 ∧ eqCells k2 (cs.drop k1.length) (ds.drop k1.length) = some b2 ∧ b = (b1 && b2) := by
  intro k1
  induction k1 with
  | nil => intro k2 cs ds b h; exact ⟨true, b, by simp [eqCells], by simpa using h, by simp⟩
  | cons k k1 ih =>
    intro k2 cs ds b h
    rw [List.cons_append] at h
    unfold eqCells at h
    split at h
    · rename_i hh; cases hh
    · rename_i t ks' u r v q hk
      cases hk
      cases hc : eqCell k u v with
      | none => rw [hc] at h; cases h
      | some z =>
        rw [hc] at h
        simp only [Option.bind_some] at h
        cases hr : eqCells (k1 ++ k2) r q with
        | none => rw [hr] at h; cases h
        | some z2 =>
          rw [hr] at h
          simp only [Option.map_some, Option.some.injEq] at h
          obtain ⟨b1, b2, g1, g2, rfl⟩ := ih _ _ _ _ hr
          refine ⟨z && b1, b2, ?_, by simpa using g2, by rw [← h, Bool.and_assoc]⟩
          simp [eqCells, hc, g1]
    · cases h
def Rel (us : Array Value) (cs : List AV) : Prop := us.size = cs.length ∧ ∀ i x, cs[i]? = some (.iv (.v x)) → us.getD i undef = x
theorem Rel.part {us : Array Value} {cs : List AV} (h : Rel us cs) {o q : Nat} (hq : o + q ≤ cs.length) : Rel (us.extract o (o + q)) ((cs.drop o).take q) := by
  obtain ⟨h1, h2⟩ := h
  refine ⟨by simp; omega, fun i x hx => ?_⟩
  rw [List.getElem?_take] at hx
  split at hx
  · rename_i hi
    rw [List.getElem?_drop] at hx
    have := h2 _ _ hx
    rw [← this]
    simp only [Array.getD_eq_getD_getElem?, Array.getElem?_extract]
    rw [if_pos (by omega)]
  · cases hx
theorem eqCell_run {d : Nat} {t : TypeId} {k : Kd} (hu : P.underlying t = some (match k with | .b => .bool | .i j => .int j | .s => .string)) {u v : Value} {b : Bool} (h : eqCell k u v = some b)
    (w : World) : (Op.equalIn (d + 1) t u v).run P w = .ok b w := by
  cases k with
  | b =>
    cases u <;> cases v <;> simp only [eqCell] at h <;> cases h
    exact run_equalIn_bool d hu _ _ w
  | i j =>
    cases u <;> cases v <;> simp only [eqCell] at h <;> (first | (cases h; done) | skip)
    split at h
    · cases h; subst_vars; simp [Op.equalIn, run_underlying w hu]
    · cases h
  | s =>
    cases u <;> cases v <;> simp only [eqCell] at h <;> cases h
    simp [Op.equalIn, run_underlying w hu]
theorem rel_one {us vs : Array Value} {cs ds : List AV} (h1 : Rel us cs) (h2 : Rel vs ds) {o : Nat} (ho : o + 1 ≤ cs.length) (ho2 : o + 1 ≤ ds.length) {k : Kd} {b : Bool}
    (h : eqCells [k] ((cs.drop o).take 1) ((ds.drop o).take 1) = some b) : eqCell k (us.getD o undef) (vs.getD o undef) = some b := by
  have e1 : cs[o]? = some cs[o] := List.getElem?_eq_getElem (by omega)
  have e2 : ds[o]? = some ds[o] := List.getElem?_eq_getElem (by omega)
  have d1 : (cs.drop o).take 1 = [cs[o]] := by rw [List.drop_eq_getElem_cons (by omega), List.take_succ_cons, List.take_zero]
  have d2 : (ds.drop o).take 1 = [ds[o]] := by rw [List.drop_eq_getElem_cons (by omega), List.take_succ_cons, List.take_zero]
  rw [d1, d2] at h
  unfold eqCells at h
  split at h
  · rename_i hh _ _; cases hh
  · rename_i t ks u r v q hk hc hd
    simp only [List.cons.injEq] at hk hc hd
    obtain ⟨rfl, rfl⟩ := hk
    obtain ⟨hc, rfl⟩ := hc
    obtain ⟨hd, rfl⟩ := hd
    rw [hc] at e1
    rw [hd] at e2
    rw [h1.2 _ _ e1, h2.2 _ _ e2]
    cases hz : eqCell k u v with
    | none => rw [hz] at h; cases h
    | some z => rw [hz] at h; simp [eqCells] at h; rw [h]
  · cases h
theorem eq_part : ∀ (d : Nat) (t : TypeId) (ks : List Kd), plainK P d t = some ks → ∀ (D : Nat), d ≤ D → ∀ (us vs : Array Value) (cs ds : List AV) (o : Nat) (b : Bool), Rel us cs → Rel vs ds →
    o + ks.length ≤ cs.length → o + ks.length ≤ ds.length → eqCells ks ((cs.drop o).take ks.length) ((ds.drop o).take ks.length) = some b →
    (isAggT P t = true → infoSize P t = some ks.length → (Op.equalIn D t (.agg (us.extract o (o + ks.length))) (.agg (vs.extract o (o + ks.length)))).run P w = .ok b w) ∧
    (infoSize P t = some ks.length → ∃ X Y, (part t us o).run P w = .ok X w ∧ (part t vs o).run P w = .ok Y w ∧ (Op.equalIn D t X Y).run P w = .ok b w) := by
  intro d
  induction d with
  | zero => intro t ks h; cases h
  | succ d ih =>
    intro t ks hks D hD us vs cs ds o b r1 r2 l1 l2 he
    obtain ⟨D, rfl⟩ : ∃ D', D = D' + 1 := ⟨D - 1, by omega⟩
    unfold plainK at hks
    have leaf : ∀ (k : Kd), P.underlying t = some (match k with | .b => .bool | .i j => .int j | .s => .string) → ks = [k] →
        (isAggT P t = true → infoSize P t = some ks.length → (Op.equalIn (D + 1) t (.agg (us.extract o (o + ks.length))) (.agg (vs.extract o (o + ks.length)))).run P w = .ok b w) ∧
        (infoSize P t = some ks.length → ∃ X Y, (part t us o).run P w = .ok X w ∧ (part t vs o).run P w = .ok Y w ∧ (Op.equalIn (D + 1) t X Y).run P w = .ok b w) := by
      rintro k hu rfl
      have hg : isAggT P t = false := by unfold isAggT; rw [hu]; cases k <;> rfl
      simp only [List.length_singleton] at l1 l2 he ⊢
      refine ⟨(by rw [hg]; intro h; cases h), fun _ => ⟨us.getD o undef, vs.getD o undef, ?_, ?_, ?_⟩⟩
      · exact part_one hu hg (by have := r1.1; omega) w
      · exact part_one hu hg (by have := r2.1; omega) w
      · exact eqCell_run hu (rel_one r1 r2 l1 l2 he) w
    split at hks
    · rename_i hu; exact leaf .b hu (by simpa using hks.symm)
    · rename_i k hu; exact leaf (.i k) hu (by simpa using hks.symm)
    · rename_i hu; exact leaf .s hu (by simpa using hks.symm)
    · rename_i fs hu
      split at hks
      · cases hks
      · rename_i hst
        have hst : P.stoodInHeld t = false := by simpa using hst
        have hg : isAggT P t = true := by unfold isAggT; rw [hu]
        have fields : ∀ (l : List Field) (k0 ks : List Kd) (us vs : Array Value) (cs ds : List AV) (b : Bool), Rel us cs → Rel vs ds → cs.length = ks.length → ds.length = ks.length →
            l.foldlM (fun ks f => if f.name ≠ "_" ∧ f.offset = ks.length then (plainK P d f.type).bind fun q => if infoSize P f.type = some q.length then some (ks ++ q) else none else none) k0 = some ks →
            ∀ k2, ks = k0 ++ k2 → eqCells k2 (cs.drop k0.length) (ds.drop k0.length) = some b → (Op.eqFields D us vs l).run P w = .ok b w := by
          intro l
          induction l with
          | nil =>
            intro k0 ks us vs cs ds b _ _ _ _ hf k2 hk he
            simp only [List.foldlM_nil, Option.pure_def, Option.some.injEq] at hf
            subst hf
            have : k2 = [] := by simpa using hk.symm
            subst this
            have := eqCells_len _ _ _ _ he
            have h1 : cs.drop k0.length = [] := List.eq_nil_of_length_eq_zero (by simpa using this.1)
            have h2 : ds.drop k0.length = [] := List.eq_nil_of_length_eq_zero (by simpa using this.2)
            rw [h1, h2] at he
            simp [eqCells] at he
            subst he
            rfl
          | cons f l ihl =>
            intro k0 ks us vs cs ds b r1 r2 hl1 hl2 hf k2 hk he
            rw [List.foldlM_cons] at hf
            by_cases hc : f.name ≠ "_" ∧ f.offset = k0.length
            · rw [if_pos hc] at hf
              cases hp : plainK P d f.type with
              | none => simp [hp] at hf
              | some q =>
                simp only [hp, Option.bind_some] at hf
                by_cases hq : infoSize P f.type = some q.length
                · rw [if_pos hq] at hf
                  simp only [Option.bind_eq_bind, Option.bind_some] at hf
                  have hpre : ∃ k3, ks = (k0 ++ q) ++ k3 := by
                    have aux : ∀ (l : List Field) (k0 ks : List Kd), l.foldlM (fun ks f => if f.name ≠ "_" ∧ f.offset = ks.length then (plainK P d f.type).bind fun q => if infoSize P f.type = some q.length then some (ks ++ q) else none else none) k0 = some ks → ∃ k3, ks = k0 ++ k3 := by
                      intro l
                      induction l with
                      | nil => intro k0 ks h; simp at h; subst h; exact ⟨[], by simp⟩
                      | cons f l ih =>
                        intro k0 ks h
                        rw [List.foldlM_cons] at h
                        split at h
                        · cases hp : plainK P d f.type with
                          | none => simp [hp] at h
                          | some q =>
                            simp only [hp, Option.bind_some] at h
                            split at h
                            · simp only [Option.bind_eq_bind, Option.bind_some] at h
                              obtain ⟨k3, e⟩ := ih _ _ h
                              exact ⟨q ++ k3, by rw [e, List.append_assoc]⟩
                            · simp at h
                        · simp at h
                    exact aux _ _ _ hf
                  obtain ⟨k3, hk3⟩ := hpre
                  have hk2 : k2 = q ++ k3 := by rw [hk, List.append_assoc] at hk3; exact List.append_cancel_left hk3
                  subst hk2
                  obtain ⟨b1, b2, g1, g2, rfl⟩ := eqCells_split q k3 _ _ _ he
                  have hlen : k0.length + q.length ≤ ks.length := by rw [hk]; simp
                  obtain ⟨X, Y, p1, p2, p3⟩ := (ih f.type q hp D (by omega) us vs cs ds k0.length b1 r1 r2 (by omega) (by omega) g1).2 hq
                  have hrest := ihl (k0 ++ q) ks us vs cs ds b2 r1 r2 hl1 hl2 hf k3 hk3 (by rw [List.length_append, ← List.drop_drop, ← List.drop_drop]; exact g2)
                  simp only [Op.eqFields, if_pos hc.1, Sem.run_bind, hc.2, p1, p2, p3, Result.andThen_ok]
                  cases b1
                  · simp
                  · simp [hrest]
                · rw [if_neg hq] at hf; simp at hf
            · rw [if_neg hc] at hf; simp at hf
        have whole : infoSize P t = some ks.length → (Op.equalIn (D + 1) t (.agg (us.extract o (o + ks.length))) (.agg (vs.extract o (o + ks.length)))).run P w = .ok b w := by
          intro _
          have ht : P.underlying t = some (.struct (P.fieldsOf t)) := by simp [Program.fieldsOf, hu]
          rw [run_equalIn_struct w D t _ _ ht hst]
          have hfs : P.fieldsOf t = fs := by simp [Program.fieldsOf, hu]
          rw [hfs]
          exact fields fs.toList [] ks _ _ _ _ b (r1.part l1) (r2.part l2) (by simp; omega) (by simp; omega) hks ks (by simp) (by simpa using he)
        refine ⟨fun _ => whole, fun hi => ⟨_, _, part_agg hu hg hi us o w, part_agg hu hg hi vs o w, whole hi⟩⟩
    · cases hks
theorem rel_of {A : Nat → Prop} {H : Hp} {us : Array Value} {cs : List AV} (hl : us.size = cs.length) (h : ∀ i c, cs[i]? = some c → RAV A ψ H w c (us.getD i undef)) : Rel us cs :=
  ⟨hl, fun i x hx => inv_v (h i _ hx)⟩
theorem sound_eqs {op : BinOp} {xt yt : TypeId} {x y : Operand} {neg : Bool} {fs : Array Field} {ks : List Kd} (hu : P.underlying xt = some (.struct fs)) (hg : P.eqGuardType P.depth xt = false)
    (hks : plainK P 20 xt = some ks) (hop : op = if neg then .neq else .eql) (h : SimAt E n ψ s a w) (hk : stp P d s K (.eqs neg ks x y)) (hi : infoSize P xt = some ks.length) :
    DoesV P E n ⟨dst, .binOp op xt x y yt, ty, pos, af, g⟩ a w K := by
  simp only [stp] at hk
  have hx := h.ev x
  have hy := h.ev y
  generalize s.ev x = ax at hx hk
  generalize s.ev y = ay at hy hk
  split at hk
  · rename_i cs ds
    split at hk
    · rename_i b hb
      obtain ⟨us, u1, u2, eu⟩ := inv_agg hx
      obtain ⟨vs, v1, v2, ev⟩ := inv_agg hy
      obtain ⟨l1, l2⟩ := eqCells_len _ _ _ _ hb
      have hag : isAggT P xt = true := by unfold isAggT; rw [hu]
      refine does_pure h (v := .bool (if neg then !b else b)) (fun w => ?_) hk (rav_v rfl)
      have key := (eq_part (P := P) (w := w) 20 xt ks hks 10000 (by omega) us vs cs ds 0 b (rel_of u1 u2) (rel_of v1 v2) (by omega) (by omega) (by
        rw [List.drop_zero, List.drop_zero, List.take_of_length_le (by omega), List.take_of_length_le (by omega)]; exact hb)).1 hag hi
      have e1 : us.extract 0 (0 + ks.length) = us := by rw [Nat.zero_add, ← l1, ← u1]; simp
      have e2 : vs.extract 0 (0 + ks.length) = vs := by rw [Nat.zero_add, ← l2, ← v1]; simp
      rw [e1, e2] at key
      have hgd := run_eqGuard_agg (P := P) w op xt x y us vs hg
      subst hop
      cases neg
      · simp only [Bool.false_eq_true, if_false] at hgd ⊢
        simp only [execOp, eu, ev, Sem.run_bind, hgd, Result.andThen_ok, run_eql_struct, key, Sem.run_pure]
      · simp only [if_true] at hgd ⊢
        simp only [execOp, eu, ev, Sem.run_bind, hgd, Result.andThen_ok, run_neq_struct, key, Sem.run_pure]
    · exact hk.elim
  · exact hk.elim
end
end Go.Vm
end

/- A call does what is said of the function. -/
section
namespace Go.Vm
section
variable {P : Program} {E : En} {n : Nat} {ψ : Pl} {s : St} {a : Act} {w : World}
variable {dst : Option Nat} {ty : TypeId} {pos : String} {af : Array Edge} {g : Option (Nat × Bool)} {r : Rhs} {d : Nat} {K : St → AV → Prop}
def leans (E : En) (fr : Bool) (ψ : Pl) (s : St) (H : Hp) (w : World) (b : Nat) : Prop := b < w.heap.size ∧ (if fr then ¬ Held ψ H b else Im E ψ s.hp b)
theorem leans_im {fr : Bool} {H : Hp} (hsub : ∀ id o, look H id = some o → look s.hp id = some o) {b : Nat} (hb : b < w.heap.size) (h : Im E ψ s.hp b) : leans E fr ψ s H w b := by
  refine ⟨hb, ?_⟩
  cases fr
  · exact h
  · rintro ⟨id, o, h1, h2⟩; exact h.2 ⟨id, o, hsub id o h1, h2⟩
theorem allO_ok {α β : Type} {f : α → Option β} : ∀ {cs : List α} {l : List β}, allO f cs = some l → l.length = cs.length ∧ ∀ (i : Nat) (y : β), l[i]? = some y → ∃ x : α, cs[i]? = some x ∧ f x = some y
  | [], l, h => by simp only [allO, Option.some.injEq] at h; subst h; simp
  | x :: r, l, h => by
    simp only [allO] at h
    split at h
    · rename_i y hy
      cases hr : allO f r with
      | none => rw [hr] at h; cases h
      | some l' =>
        rw [hr] at h
        simp only [Option.map_some, Option.some.injEq] at h
        subst h
        obtain ⟨g1, g2⟩ := allO_ok hr
        refine ⟨by simp [g1], fun i z hz => ?_⟩
        cases i with
        | zero => simp only [List.getElem?_cons_zero, Option.some.injEq] at hz; subst hz; exact ⟨x, rfl, hy⟩
        | succ i => simpa using g2 i z (by simpa using hz)
    · cases h
theorem ivW_riv (h : SimAt E n ψ s a w) {H : Hp} (hsub : ∀ id o, look H id = some o → look s.hp id = some o) : ∀ (d : Nat) (x : AV) (v : Value) (y : IV), RAV (Im E ψ s.hp) ψ s.hp w x v →
    s.ivW (H.map (·.1)) d x = some y → RIV (leans E true ψ s H w) w y v := by
  intro d
  induction d with
  | zero =>
    intro x v y hx hy
    exact base h hsub x v y hx hy (by intro id off e; subst e; simp [St.ivW] at hy)
  | succ d ih =>
    intro x v y hx hy
    by_cases hp : ∃ id off, x = .ptr id off
    · obtain ⟨id, off, rfl⟩ := hp
      simp only [St.ivW] at hy
      split at hy
      · cases hy
      · rename_i hnc
        split at hy
        · rename_i cs ho
          cases hl : allO (St.ivW s (H.map (·.1)) d) cs with
          | none => rw [hl] at hy; cases hy
          | some l =>
            rw [hl] at hy
            simp only [Option.map_some, Option.some.injEq] at hy
            subst hy
            obtain ⟨b, k, o', g1, g2, rfl⟩ := inv_ptr hx
            rw [ho] at g1; cases g1
            obtain ⟨b', c, e, h1, h2, h3, h4⟩ := h.obs id _ ho
            rw [h1] at g2; cases g2
            obtain ⟨q1, q2⟩ := allO_ok hl
            refine .pt _ b off (fun i => c.getD (off + i) undef) (fun i z hz => ?_) (fun i z hz => ?_) <;> rw [List.getElem?_drop] at hz <;> obtain ⟨z0, hz0, hzz⟩ := q2 _ z hz
            · refine ⟨notHeld h hsub ho (by simpa using hnc) (.inl ⟨_, h1⟩), cell_getD h2 ?_⟩
              rw [h3]; exact (List.getElem?_eq_some_iff.1 hz0).1
            · exact ih z0 _ z (h4 _ z0 hz0) hzz
        · cases hy
    · exact base h hsub x v y hx hy (fun id off e => hp ⟨id, off, e⟩)
where
  notHeld {E : En} {n : Nat} {ψ : Pl} {s : St} {a : Act} {w : World} (h : SimAt E n ψ s a w) {H : Hp} (hsub : ∀ id o, look H id = some o → look s.hp id = some o) {id : Nat} {o : Ob} (ho : look s.hp id = some o)
      (hnc : (H.map (·.1)).contains id = false) {b : Nat} (hb : Owns ψ id b) : leans E true ψ s H w b := by
    refine ⟨h.lt ho hb, ?_⟩
    rintro ⟨id2, o2, h1, h2⟩
    have := h.inj id id2 _ o2 b ho (hsub id2 o2 h1) hb h2
    subst this
    have := look_mem h1
    rw [hnc] at this; cases this
  base {E : En} {n : Nat} {ψ : Pl} {s : St} {a : Act} {w : World} (h : SimAt E n ψ s a w) {H : Hp} (hsub : ∀ id o, look H id = some o → look s.hp id = some o) {d : Nat} (x : AV) (v : Value) (y : IV)
      (hx : RAV (Im E ψ s.hp) ψ s.hp w x v) (hy : s.ivW (H.map (·.1)) d x = some y) (hp : ∀ id off, x ≠ .ptr id off) : RIV (leans E true ψ s H w) w y v := by
    have lm : ∀ b, b < w.heap.size → Im E ψ s.hp b → leans E true ψ s H w b := fun b hb hm => leans_im hsub hb hm
    cases x with
    | iv x => cases d <;> (simp only [St.ivW, Option.some.injEq] at hy; subst hy; cases hx with | iv _ _ hx => exact hx.mono lm (fun _ _ _ => rfl))
    | nil sz => cases d <;> (simp only [St.ivW, Option.some.injEq] at hy; subst hy; rw [inv_nil hx]; exact .lnil _)
    | ptr id off => exact absurd rfl (hp id off)
    | sl id sz lo len =>
      have hy2 : (if (H.map (·.1)).contains id then none else match look s.hp id with
        | some (.list _ xs) => some (.lst sz ((xs.drop lo).take len))
        | some (.listo sz' xs none) => some (.lst 1 (((xs.map fun x => [IV.lst sz' x]).drop lo).take len))
        | _ => none) = some y := by cases d <;> exact hy
      clear hy
      rename _ => hy
      split at hy
      · cases hy
      · rename_i hnc
        have hnc : (H.map (·.1)).contains id = false := by simpa using hnc
        obtain ⟨o, m, q1, q1', q2, hcase⟩ := inv_sl hx
        rw [q1] at hy
        have hob := h.obs id _ q1
        split at hy
        · rename_i xs heq
          cases heq
          simp only [Ob.dim, Option.some.injEq, Prod.mk.injEq] at q1'
          obtain ⟨rfl, rfl⟩ := q1'
          cases hy
          rcases hcase with ⟨p1, rfl, rfl, hv⟩ | ⟨b, k, cap, ad, p1, p2, p3, p4, hv⟩
          · rw [hv, List.take_zero]; exact .lnil _
          · rw [hv]; exact riv_of_list hob lm (fun b' k' hb' => notHeld h hsub q1 hnc (.inl ⟨_, hb'⟩)) p1 p2 p3 q2
        · rename_i sz' xs heq
          cases heq
          simp only [Ob.dim, Option.some.injEq, Prod.mk.injEq] at q1'
          obtain ⟨rfl, rfl⟩ := q1'
          cases hy
          rcases hcase with ⟨p1, rfl, rfl, hv⟩ | ⟨b, k, cap, ad, p1, p2, p3, p4, hv⟩
          · rw [hv, List.take_zero]; exact .lnil _
          · rw [hv]; exact riv_of_listo hob lm (fun b' hb' => notHeld h hsub q1 hnc hb') p1 p2 p3 q2
        · cases hy
    | mpr id =>
      have hy2 : (if (H.map (·.1)).contains id then none else match look s.hp id with
        | some (.map sk g) => some (.mp sk g)
        | some (.mapo sk sz g none) => some (.mp sk fun k => (g k).map fun xs => [IV.lst sz xs])
        | _ => none) = some y := by cases d <;> exact hy
      clear hy
      rename _ => hy
      split at hy
      · cases hy
      · rename_i hnc
        have hnc : (H.map (·.1)).contains id = false := by simpa using hnc
        cases hx with
        | mpr _ b k o q1 hb =>
          rw [q1] at hy
          have hob := h.obs id _ q1
          split at hy
          · rename_i sk g heq
            cases heq; cases hy
            obtain ⟨b', es, clock, g1, g2, g3, g4⟩ := hob
            rw [g1] at hb; cases hb
            exact riv_of_rmap g2 g3 g4 lm (notHeld h hsub q1 hnc (.inl ⟨_, g1⟩))
          · rename_i sk sz g heq
            cases heq; cases hy
            exact riv_of_mapo hob lm (fun b' hb' => notHeld h hsub q1 hnc hb') hb
          · cases hy
    | _ => cases d <;> simp [St.ivW] at hy
theorem capbor (h : SimAt E n ψ s a w) {H : Hp} (hsub : ∀ id o, look H id = some o → look s.hp id = some o) {c : CapV} {v : Value} (hc : RCap (Im E ψ s.hp) ψ s.hp w c v)
    (hi : (c.bor s (H.map (·.1))).inn (H.map (·.1)) = true) : RCap (leans E true ψ s H w) ψ H w (c.bor s (H.map (·.1))) v := by
  have hH : ∀ id o, (H.map (·.1)).contains id = true → look s.hp id = some o → look H id = some o := by
    intro id o hc ho
    obtain ⟨o', ho'⟩ := look_of_mem hc
    rw [hsub id o' ho'] at ho; cases ho; exact ho'
  cases hc with
  | val x v hx => exact .val x v (hx.mono (fun b hb hm => leans_im hsub hb hm) (fun _ _ _ => rfl))
  | ptr id off b k o ho hb =>
    simp only [CapV.bor] at hi ⊢
    cases hy : s.ivW (H.map (·.1)) 3 (.ptr id off) with
    | none => rw [hy] at hi; exact .ptr id off b k o (hH id o hi ho) hb
    | some y => exact .val _ _ (ivW_riv h hsub 3 _ _ y (.ptr id off b k o ho hb) hy)
theorem arg1_rav (h : SimAt E n ψ s a w) {fr : Bool} {H : Hp} (hsub : ∀ id o, look H id = some o → look s.hp id = some o) {x : AV} {v : Value} (hx : RAV (Im E ψ s.hp) ψ s.hp w x v)
    (hi : (s.arg1 fr (H.map (·.1)) x).inns (H.map (·.1)) = true) : RAV (leans E fr ψ s H w) ψ H w (s.arg1 fr (H.map (·.1)) x) v := by
  have hH : ∀ id o, (H.map (·.1)).contains id = true → look s.hp id = some o → look H id = some o := by
    intro id o hc ho
    obtain ⟨o', ho'⟩ := look_of_mem hc
    rw [hsub id o' ho'] at ho; cases ho; exact ho'
  have keep : ∀ {y}, RAV (Im E ψ s.hp) ψ s.hp w y v → y.inns (H.map (·.1)) = true → RAV (leans E fr ψ s H w) ψ H w y v :=
    fun hy hi => hy.restrict hi (fun b hb hm => leans_im hsub hb hm) hH
  have other : ∀ {y}, RAV (Im E ψ s.hp) ψ s.hp w y v →
      (if fr && !(y.inn (H.map (·.1))) then match s.ivW (H.map (·.1)) 3 y with | some z => AV.iv z | none => y else y).inns (H.map (·.1)) = true →
      RAV (leans E fr ψ s H w) ψ H w (if fr && !(y.inn (H.map (·.1))) then match s.ivW (H.map (·.1)) 3 y with | some z => AV.iv z | none => y else y) v := by
    intro y hy hi2
    split at hi2
    · rename_i hc
      rw [if_pos hc]
      have hfr : fr = true := by cases fr <;> simp_all
      subst hfr
      cases hw : s.ivW (H.map (·.1)) 3 y with
      | none => rw [hw] at hi2; exact keep hy hi2
      | some z => exact .iv _ _ (ivW_riv h hsub 3 _ _ z hy hw)
    · rename_i hc
      rw [if_neg hc]
      exact keep hy hi2
  cases x with
  | nil sz => rw [inv_nil hx]; exact .iv _ _ (.lnil _)
  | iv y => exact keep hx hi
  | fn f b c =>
    simp only [St.arg1] at hi ⊢
    by_cases hc : (fr && !((AV.fn f b c).inn (H.map (·.1)))) = true
    · rw [if_pos hc] at hi ⊢
      have hfr : fr = true := by cases fr <;> simp_all
      subst hfr
      simp only [AV.inns, AV.inn, Bool.and_eq_true, List.all_eq_true, List.mem_map, forall_exists_index, and_imp, forall_apply_eq_imp_iff₂] at hi
      cases hx with
      | fn _ _ _ vf vc a1 a2 a3 a4 =>
        refine .fn f _ _ vf vc (by simpa using a1) (by simpa using a2) (fun i q hq => ?_) (fun i q hq => ?_) <;> rw [List.getElem?_map] at hq
        · cases hbi : b[i]? with
          | none => rw [hbi] at hq; cases hq
          | some q0 => rw [hbi] at hq; cases hq; exact capbor h hsub (a3 i q0 hbi) (hi.1 q0 (List.mem_of_getElem? hbi))
        · cases hbi : c[i]? with
          | none => rw [hbi] at hq; cases hq
          | some q0 => rw [hbi] at hq; cases hq; exact capbor h hsub (a4 i q0 hbi) (hi.2 q0 (List.mem_of_getElem? hbi))
    · rw [if_neg hc] at hi ⊢
      exact keep hx hi
  | sl id sz lo len => exact other hx hi
  | ptr id off => exact other hx hi
  | ep id sz i off => exact other hx hi
  | mpr id => exact other hx hi
  | un => exact other hx hi
  | junk => exact other hx hi
  | agg cs => exact other hx hi
  | tup cs => exact other hx hi
theorem inns_cell {ids : List Nat} {x : AV} (h : x.inn ids = true) : x.inns ids = true := by
  cases x <;> simp_all [AV.inns, AV.inn]
theorem arg_rav (h : SimAt E n ψ s a w) {fr : Bool} {H : Hp} (hsub : ∀ id o, look H id = some o → look s.hp id = some o) {x : AV} {v : Value} (hx : RAV (Im E ψ s.hp) ψ s.hp w x v)
    (hi : (s.arg fr (H.map (·.1)) x).inns (H.map (·.1)) = true) : RAV (leans E fr ψ s H w) ψ H w (s.arg fr (H.map (·.1)) x) v := by
  cases x with
  | agg cs =>
    simp only [St.arg, AV.inns, List.all_map, List.all_eq_true] at hi ⊢
    obtain ⟨vs, h1, h2, rfl⟩ := inv_agg hx
    refine .agg _ _ (by simpa using h1) fun i c hc => ?_
    rw [List.getElem?_map] at hc
    cases hci : cs[i]? with
    | none => rw [hci] at hc; cases hc
    | some c0 =>
      rw [hci] at hc; cases hc
      exact arg1_rav h hsub (h2 i c0 hci) (inns_cell (hi c0 (List.mem_of_getElem? hci)))
  | _ => exact arg1_rav h hsub hx hi
theorem rcap_av {A : Nat → Prop} {H : Hp} {c : CapV} {v : Value} (h : RCap A ψ H w c v) : RAV A ψ H w c.av v := by
  cases h with
  | ptr id off b k o ho hb => exact .ptr id off b k o ho hb
  | val x v h1 => exact .iv _ _ h1
theorem does_enter {o : Oper} {f : FuncId} {pre post : List CapV} {ops : List Operand} {vs : List Value} {y : Option Operand} (h : SimAt E n ψ s a w) (hd : d < 1000)
    (hr : (execOp a.eval o).run P w = .ok (.enter f vs.toArray) w)
    (hvs : ∀ ψ s1, SimAt E n ψ s1 a w → (match y with | some y => s1.ev y = .fn f pre post | none => True) → (s1.args pre ops post).length = vs.length ∧ ∀ i x, (s1.args pre ops post)[i]? = some x → RAV (Im E ψ s1.hp) ψ s1.hp w x (vs.getD i undef))
    (hk : callK P d f pre ops post y s K) : Does P E n o a w K := by
  obtain ⟨s0, hle, fr, H, R, s1, hs1, hy1, as, has, hc, hk⟩ := hk
  obtain ⟨has1, has2⟩ := argsOk_get has
  obtain ⟨ψ, h⟩ := hle E n a w ⟨_, h⟩
  have h1 : SimAt E n ψ s1 a w := by
    rw [hs1]
    refine SimAt.drop ?_ hd
    cases fr
    · exact h.frz _
    · exact h
  obtain ⟨l1, l2⟩ := hvs ψ s1 h1 hy1
  intro K' Q hK
  unfold wpR
  rw [hr]
  simp only [upR]
  have hspec := hc.spec.2 (leans E fr ψ s1 H w) ψ w vs (fun b hb => hb.1)
    (fun id o ho => (h1.obs id o (hc.sub id o ho)).restrict (hc.own id o ho) (fun b hb hm => leans_im hc.sub hb hm) (fun id o hcc ho => by
      obtain ⟨o', ho'⟩ := look_of_mem hcc
      rw [hc.sub id o' ho'] at ho; cases ho; exact ho'))
    (fun id id' o o' b h2 h3 h4 h5 => h1.inj id id' o o' b (hc.sub id o h2) (hc.sub id' o' h3) h4 h5)
    (fun id o b h2 h3 => h1.subs id o b (hc.sub id o h2) h3)
    (fun b hb hl => by
      cases fr
      · exact hl.2.2 (by obtain ⟨id, o, h2, h3⟩ := hb; exact ⟨id, o, hc.sub id o h2, h3⟩)
      · exact hl.2 hb)
    (by rw [has1]; exact l1.symm)
    (fun i x hx => by
      obtain ⟨y, hi, e⟩ := has2 i x hx
      rcases e with rfl | ⟨sz, sz', rfl, rfl⟩
      · exact arg_rav h1 hc.sub (l2 i y hi) (List.all_eq_true.1 hc.refs _ (List.mem_of_getElem? hx))
      · have := l2 i _ hi
        generalize vs.getD i undef = v at this
        cases this
        exact .nil sz')
  refine hspec.mono ?_
  rintro e w' ⟨v, ψ', res, H', hR, rfl, k1, k2, k3, k4, k5, k6, kS, k7, k8⟩
  obtain ⟨ψ2, g1, g2⟩ := h1.called (hc.sh hR) (A := leans E fr ψ s1 H w) (fun hf b hb => by subst hf; exact hb.2) k1 k2 k3 k4 k5 k6 kS k7 k8
  exact ⟨v, rfl, hK (s1.join H') res ψ2 v w' (hk res H' hR) g1 g2⟩
theorem does_yield {o : Oper} {l : Nat} {ops : List Operand} {vs : List Value} (h : SimAt E n ψ s a w)
    (hr : (execOp a.eval o).run P w = (Instr.yield l vs.toArray).run P w)
    (hvs : ∀ ψ s1, SimAt E n ψ s1 a w → (ops.map s1.ev).length = vs.length ∧ ∀ i x, (ops.map s1.ev)[i]? = some x → RAV (Im E ψ s1.hp) ψ s1.hp w x (vs.getD i undef))
    (hk : yieldK P l ops s K) : Does P E n o a w K := by
  obtain ⟨s1, g, Z, b, Z', xs, hle, hg, hops, hy, hk⟩ := hk
  obtain ⟨ψ, h1⟩ := hle E n a w ⟨_, h⟩
  obtain ⟨l1, l2⟩ := hvs ψ s1 h1
  rw [hops] at l1 l2
  obtain ⟨o1, o2, _, _⟩ := h1.obs g _ hg
  have hB : ∀ k, ψ.sub g k → k < w.heap.size := fun k hk => (h1.subs g _ k hg hk).2.1
  have hBH : ∀ k, ψ.sub g k → Held ψ s1.hp k := fun k hk => ⟨g, _, hg, .inr hk⟩
  have hgo : GOk Z (fun k => k < w.heap.size ∧ Im E ψ s1.hp k) (ψ.sub g) w := o2.mono (fun b hb h => ⟨hb, h⟩) (fun _ h => h) (fun _ _ _ => rfl) (fun _ _ => rfl)
  obtain ⟨fn, tmps, assign, body, hrun, hround⟩ := hy (fun k => k < w.heap.size ∧ Im E ψ s1.hp k) (ψ.sub g) w vs (fun k hk => hk.1) hB (fun k hk hi => hi.2.2 (hBH k hk)) hgo (by simpa using l1.symm)
    (fun i x hx => by
      have := l2 i (.iv x) (by rw [List.getElem?_map, hx]; rfl)
      cases this with
      | iv _ _ h => exact h.mono (fun b hb h => ⟨hb, h⟩) (fun _ _ _ => rfl))
  intro K' Q hK
  unfold wpR
  rw [hr, hrun]
  simp only [upR]
  intro m
  refine (hround m).mono ?_
  rintro e w' ⟨B', rfl, k1, k2, k3, k4, k5, k6⟩
  refine ⟨_, rfl, ?_⟩
  have hO : ∀ {ψ : Pl} {Z : GZ} {b : Nat}, Held ψ [(g, Ob.gh Z [] [])] b ↔ Owns ψ g b := by
    intro ψ Z b
    constructor
    · rintro ⟨id, o, ho, hb⟩
      simp only [look] at ho
      split at ho
      · rename_i e; subst e; exact hb
      · cases ho
    · intro hb; exact ⟨g, .gh Z [] [], by simp [look], hb⟩
  let ψ' : Pl := ⟨ψ.main, fun id b => if id = g then B' b else ψ.sub id b⟩
  have lk : ∀ {o : Ob} {id : Nat} {q : Ob}, look [(g, o)] id = some q → id = g ∧ q = o := by
    intro o id q h
    simp only [look] at h
    split at h
    · rename_i e; exact ⟨e.symm, by cases h; rfl⟩
    · cases h
  have hown : ∀ {b}, Owns ψ' g b ↔ B' b := by
    intro b
    constructor
    · rintro (⟨k, h⟩ | h)
      · exact absurd (show ψ g = some (b, k) from h) (by rw [o1]; simp)
      · simpa [ψ'] using h
    · intro h; exact .inr (by simpa [ψ'] using h)
  have hown0 : ∀ {b}, Owns ψ g b ↔ ψ.sub g b := by
    intro b
    constructor
    · rintro (⟨k, h⟩ | h)
      · rw [o1] at h; cases h
      · exact h
    · intro h; exact .inr h
  obtain ⟨ψ2, g1, g2⟩ := h1.called (H := [(g, .gh Z [] [])]) (H' := [(g, .gh Z' [] [])]) (fr := false) (res := .iv (.v (.bool b))) (v := .bool b) (ψ' := ψ') (A := fun k => k < w.heap.size ∧ Im E ψ s1.hp k)
    ⟨fun id o ho => by obtain ⟨_, rfl⟩ := lk ho; rfl, fun id o ho => by obtain ⟨_, rfl⟩ := lk ho; rfl, fun id o ho => by obtain ⟨rfl, rfl⟩ := lk ho; exact hg,
      fun id o ho => by obtain ⟨rfl, rfl⟩ := lk ho; exact ⟨.gh Z' [] [], by simp [look], Ob.le_none rfl⟩, fun id o ho hn => by obtain ⟨rfl, rfl⟩ := lk ho; simp [look] at hn⟩
    (fun _ k hk => hk.2) (fun k hk hn => k1 k hk fun hb => hn (hO.2 (hown0.2 hb))) k2 k3 (fun id o ho => rfl)
    (fun id o k ho hk => by
      obtain ⟨rfl, rfl⟩ := lk ho
      rcases k4 k (hown.1 hk) with h | h
      · exact .inl ⟨.gh Z [] [], by simp [look], hown0.2 h⟩
      · exact .inr h)
    (fun id id' o o' k ho ho' _ _ => by obtain ⟨rfl, rfl⟩ := lk ho; obtain ⟨rfl, rfl⟩ := lk ho'; rfl)
    (fun id o k ho hk => by
      obtain ⟨rfl, rfl⟩ := lk ho
      exact ⟨rfl, k5 k (hown.1 (.inr hk)), fun q => by show ψ id ≠ _; rw [o1]; simp⟩)
    (fun id o ho => by
      obtain ⟨rfl, rfl⟩ := lk ho
      refine ⟨o1, k6.mono (fun k _ hk => ⟨?_, fun hh => hk.2 (hown.1 (hO.1 hh))⟩) (fun k hk => by simpa [ψ'] using hk) (fun _ _ _ => rfl) (fun _ _ => rfl), rfl, by simp⟩
      rcases hk.1 with h | h
      · exact .inl ⟨rfl, h⟩
      · exact .inr h)
    (.iv _ _ (.v _ rfl))
  exact hK _ _ _ _ _ hk g1 g2
theorem okFn_run {f : FuncId} (h : okFn P f = true) (vs : Array Value) (w : World) : (callFunc f vs).run P w = .ok (.enter f vs) w := by
  unfold okFn at h
  cases hf : P.funcs[f]? with
  | none => rw [hf] at h; cases h
  | some fn =>
    rw [hf] at h
    simp only [Bool.and_eq_true, bne_iff_ne, ne_eq] at h
    simp only [callFunc, Sem.run_bind, run_program, Result.andThen_ok, hf]
    have h1 : (fn.name == "runtime.NumGoroutine") = false := by simpa using h.1
    have h2 : fn.body.isNone = false := by cases hb : fn.body <;> simp_all
    simp [h1, h2]
theorem args_get (h : SimAt E n ψ s a w) (ops : List Operand) : ∀ i x, (ops.map s.ev)[i]? = some x → RAV (Im E ψ s.hp) ψ s.hp w x ((ops.map a.eval).getD i undef) := by
  intro i x hx
  rw [List.getElem?_map] at hx
  cases hi : ops[i]? with
  | none => rw [hi] at hx; cases hx
  | some o => rw [hi] at hx; cases hx; simp only [List.getD, List.getElem?_map, hi, Option.map_some, Option.getD_some]; exact h.ev o
theorem sound_call {f : FuncId} {args : Array Operand} {ts : Array TypeId} (hf : okFn P f = true) (hd : d < 1000) (h : SimAt E n ψ s a w) (hk : stp P d s K (.call f args.toList)) :
    Does P E n ⟨dst, .call ⟨.value (.func f), args, ts⟩, ty, pos, af, g⟩ a w K := by
  simp only [stp] at hk
  refine does_enter (vs := args.toList.map a.eval) h hd ?_ (fun ψ s1 h1 _ => ⟨by simp [St.args], by simpa [St.args] using args_get h1 args.toList⟩) hk
  have : (args.toList.map a.eval).toArray = args.map a.eval := by apply Array.ext'; simp
  rw [this]
  simp only [execOp, resolve, Act.eval, Deferred.ofValue, Sem.run_bind, Sem.run_pure, Result.andThen_ok, invoke]
  have e2 : (#[] ++ args.map a.eval) ++ #[] = args.map a.eval := by simp
  exact (congrArg (fun z => (callFunc f z).run P w) e2).trans (okFn_run hf _ w)
theorem caps_get {A : Nat → Prop} {H : Hp} {l : List CapV} {vs : Array Value} (hl : vs.size = l.length) (h : ∀ i c, l[i]? = some c → RCap A ψ H w c (vs.getD i undef)) :
    (l.map CapV.av).length = vs.toList.length ∧ ∀ i x, (l.map CapV.av)[i]? = some x → RAV A ψ H w x (vs.toList.getD i undef) := by
  refine ⟨by simp [hl], fun i x hx => ?_⟩
  rw [List.getElem?_map] at hx
  cases hi : l[i]? with
  | none => rw [hi] at hx; cases hx
  | some c => rw [hi] at hx; cases hx; rw [toList_getD]; exact rcap_av (h i c hi)
theorem get_app {A : Nat → Prop} {H : Hp} {l1 l2 : List AV} {v1 v2 : List Value} (h1 : l1.length = v1.length ∧ ∀ i x, l1[i]? = some x → RAV A ψ H w x (v1.getD i undef))
    (h2 : l2.length = v2.length ∧ ∀ i x, l2[i]? = some x → RAV A ψ H w x (v2.getD i undef)) : (l1 ++ l2).length = (v1 ++ v2).length ∧ ∀ i x, (l1 ++ l2)[i]? = some x → RAV A ψ H w x ((v1 ++ v2).getD i undef) := by
  refine ⟨by simp [h1.1, h2.1], fun i x hx => ?_⟩
  by_cases hi : i < l1.length
  · rw [List.getElem?_append_left hi] at hx
    have := h1.2 i x hx
    rw [show (v1 ++ v2).getD i undef = v1.getD i undef from by simp only [List.getD]; rw [List.getElem?_append_left (by omega)]]
    exact this
  · rw [List.getElem?_append_right (by omega)] at hx
    have := h2.2 _ x hx
    rw [show (v1 ++ v2).getD i undef = v2.getD (i - l1.length) undef from by simp only [List.getD]; rw [List.getElem?_append_right (by omega), h1.1]]
    exact this
theorem sound_callv {x : Operand} {args : Array Operand} {ts : Array TypeId} (hd : d < 1000) (h : SimAt E n ψ s a w)
    (hk : stp P d s K (.callv x args.toList)) : Does P E n ⟨dst, .call ⟨.value x, args, ts⟩, ty, pos, af, g⟩ a w K := by
  simp only [stp] at hk
  split at hk
  · rename_i f first caps hx
    obtain ⟨hok, hk⟩ := hk
    have hxv := h.ev x
    rw [hx] at hxv
    obtain ⟨vf, vc, hv⟩ : ∃ vf vc, a.eval x = .func (.func f) vf vc := by
      generalize a.eval x = vx at hxv
      cases hxv with | fn _ _ _ vf vc => exact ⟨vf, vc, rfl⟩
    refine does_enter (vs := vf.toList ++ args.toList.map a.eval ++ vc.toList) h hd ?_ (fun ψ s1 h1 hy => ?_) hk
    · have e1 : (vf.toList ++ args.toList.map a.eval ++ vc.toList).toArray = (vf ++ args.map a.eval) ++ vc := by apply Array.ext'; simp
      rw [e1]
      simp only [execOp, resolve, hv, Deferred.ofValue, Sem.run_bind, Sem.run_pure, Result.andThen_ok, invoke]
      exact okFn_run hok _ w
    · have hxv1 := h1.ev x
      simp only at hy
      rw [hy, hv] at hxv1
      cases hxv1 with
      | fn _ _ _ _ _ a1 a2 a3 a4 =>
        exact get_app (get_app (caps_get a1 a3) ⟨by simp, args_get h1 args.toList⟩) (caps_get a2 a4)
  · rename_i l vf vc hx
    obtain ⟨rfl, rfl, hk⟩ := hk
    have hxv := h.ev x
    rw [hx] at hxv
    have hv : a.eval x = .func (.yield l) #[] #[] := inv_v hxv
    refine does_yield (vs := args.toList.map a.eval) h ?_ (fun ψ s1 h1 => ⟨by simp, args_get h1 args.toList⟩) hk
    have e1 : (args.toList.map a.eval).toArray = args.map a.eval := by apply Array.ext'; simp
    rw [e1]
    simp only [execOp, resolve, hv, Deferred.ofValue, Sem.run_bind, Sem.run_pure, Result.andThen_ok, invoke]
    have e2 : (#[] ++ args.map a.eval) = args.map a.eval := by simp
    first
    | rfl
    | rw [e2]
  · exact hk.elim
end
end Go.Vm
end

/- Maps: keys held against one another, looked for, checked. -/
section
namespace Go.Vm
def kdDesc : Kd → TypeDesc
  | .b => .bool
  | .i j => .int j
  | .s => .string
theorem bytes_beq (s t : ByteArray) : (s == t) = true ↔ s = t := by
  constructor
  · intro h
    obtain ⟨a⟩ := s; obtain ⟨b⟩ := t
    have h : (a == b) = true := h
    rw [eq_of_beq h]
  · rintro rfl
    obtain ⟨a⟩ := s
    show (a == a) = true
    simp
theorem kdOf_inv {v : Value} {k : Kd} (h : kdOf v = some k) : v.cells = #[v] ∧ v.oneCell' = true ∧ (∀ cs, v ≠ .agg cs) := by
  cases v <;> simp [kdOf] at h <;> refine ⟨rfl, rfl, by simp⟩
theorem skOf_cases {v : Value} {ag : Bool} {ks : List Kd} (h : skOf v = some (ag, ks)) :
    (∃ cs : Array Value, v = .agg cs ∧ ag = true ∧ cs.toList.mapM kdOf = some ks ∧ keyOf v = cs.toList) ∨ (∃ k, ag = false ∧ ks = [k] ∧ kdOf v = some k ∧ keyOf v = [v]) := by
  cases v with
  | agg cs =>
    left
    simp only [skOf, Option.map_eq_some_iff, Prod.mk.injEq] at h
    obtain ⟨l, h1, rfl, rfl⟩ := h
    exact ⟨cs, rfl, rfl, h1, rfl⟩
  | _ =>
    right
    simp only [skOf, Option.map_eq_some_iff, Prod.mk.injEq] at h
    obtain ⟨k, h1, rfl, rfl⟩ := h
    exact ⟨k, rfl, rfl, h1, by simp [keyOf, (kdOf_inv h1).1]⟩
theorem key_inj {x y : Value} {ag : Bool} {ks : List Kd} (hx : skOf x = some (ag, ks)) (hy : skOf y = some (ag, ks)) (h : keyOf x = keyOf y) : x = y := by
  rcases skOf_cases hx with ⟨cs, rfl, h1, h2, h3⟩ | ⟨k, h1, h2, h3, h4⟩
  · rcases skOf_cases hy with ⟨ds, rfl, g1, g2, g3⟩ | ⟨k', g1, g2, g3, g4⟩
    · rw [h3, g3] at h
      congr 1
      exact Array.ext' h
    · rw [h1] at g1; cases g1
  · rcases skOf_cases hy with ⟨ds, rfl, g1, g2, g3⟩ | ⟨k', g1, g2, g3, g4⟩
    · rw [h1] at g1; cases g1
    · rw [h4, g4] at h
      simpa using h
theorem eqCell_kd {k : Kd} {u v : Value} (hu : kdOf u = some k) (hv : kdOf v = some k) : ∃ b, eqCell k u v = some b ∧ (b = true ↔ u = v) := by
  cases u <;> simp only [kdOf] at hu <;> (first | (cases hu; done) | skip) <;> cases hu <;> cases v <;> simp only [kdOf] at hv <;> (first | (cases hv; done) | skip)
  · exact ⟨_, rfl, by simp⟩
  · cases hv; exact ⟨_, by simp only [eqCell, if_true]; rfl, by simp⟩
  · exact ⟨_, rfl, by rw [bytes_beq]; simp⟩
theorem eqCells_kd : ∀ (ks : List Kd) (l m : List Value), l.mapM kdOf = some ks → m.mapM kdOf = some ks →
    ∃ b, eqCells ks (l.map fun v => .iv (.v v)) (m.map fun v => .iv (.v v)) = some b ∧ (b = true ↔ l = m) := by
  intro ks
  induction ks with
  | nil =>
    intro l m hl hm
    cases l with
    | nil => cases m with
      | nil => exact ⟨true, rfl, by simp⟩
      | cons y m => rw [List.mapM_cons] at hm; cases hy : kdOf y <;> simp [hy] at hm; cases hq : m.mapM kdOf <;> simp [hq] at hm
    | cons x l => rw [List.mapM_cons] at hl; cases hx : kdOf x <;> simp [hx] at hl; cases hq : l.mapM kdOf <;> simp [hq] at hl
  | cons k ks ih =>
    intro l m hl hm
    have dest : ∀ l : List Value, l.mapM kdOf = some (k :: ks) → ∃ x r, l = x :: r ∧ kdOf x = some k ∧ r.mapM kdOf = some ks := by
      intro l h
      cases l with
      | nil => simp at h
      | cons x r =>
        rw [List.mapM_cons] at h
        cases hx : kdOf x with
        | none => simp [hx] at h
        | some kx =>
          cases hq : r.mapM kdOf with
          | none => simp [hx, hq] at h
          | some q =>
            simp [hx, hq] at h
            obtain ⟨rfl, rfl⟩ := h
            exact ⟨x, r, rfl, hx, hq⟩
    obtain ⟨x, r, rfl, hx, hr⟩ := dest l hl
    obtain ⟨y, q, rfl, hy, hq⟩ := dest m hm
    obtain ⟨b, h1, h2⟩ := eqCell_kd hx hy
    obtain ⟨c, h3, h4⟩ := ih r q hr hq
    refine ⟨b && c, ?_, ?_⟩
    · simp only [List.map_cons, eqCells, h1, Option.bind_some, h3, Option.map_some]
    · rw [Bool.and_eq_true, h2, h4, List.cons.injEq]
section
variable {P : Program} {w : World}
theorem plainK_leaf {d : Nat} {t : TypeId} {ks : List Kd} (h : plainK P (d + 1) t = some ks) (hg : isAggT P t = false) :
    ∃ k, ks = [k] ∧ P.underlying t = some (kdDesc k) := by
  unfold plainK at h
  split at h
  · rename_i hu; exact ⟨.b, by simpa using h.symm, hu⟩
  · rename_i k hu; exact ⟨.i k, by simpa using h.symm, hu⟩
  · rename_i hu; exact ⟨.s, by simpa using h.symm, hu⟩
  · rename_i fs hu; unfold isAggT at hg; rw [hu] at hg; cases hg
  · cases h
theorem mapM_len {l : List Value} {ks : List Kd} (h : l.mapM kdOf = some ks) : l.length = ks.length := by
  induction l generalizing ks with
  | nil => simp at h; subst h; rfl
  | cons x r ih =>
    rw [List.mapM_cons] at h
    cases hx : kdOf x with
    | none => simp [hx] at h
    | some kx =>
      cases hq : r.mapM kdOf with
      | none => simp [hx, hq] at h
      | some q =>
        simp [hx, hq] at h
        subst h
        simp [ih hq]
theorem key_eq {t : TypeId} {ks : List Kd} (hk : plainK P 20 t = some ks) (hi : infoSize P t = some ks.length) {x y : Value} (hx : skOf x = some (isAggT P t, ks)) (hy : skOf y = some (isAggT P t, ks)) :
    ∃ b, (Op.equal t x y).run P w = .ok b w ∧ (b = true ↔ x = y) := by
  rcases skOf_cases hx with ⟨us, rfl, h1, h2, h3⟩ | ⟨k, h1, h2, h3, h4⟩
  · rcases skOf_cases hy with ⟨vs, rfl, g1, g2, g3⟩ | ⟨k', g1, g2, g3, g4⟩
    · obtain ⟨b, e1, e2⟩ := eqCells_kd ks _ _ h2 g2
      refine ⟨b, ?_, ?_⟩
      · have hl := mapM_len h2
        have hm := mapM_len g2
        have key := (eq_part (w := w) 20 t ks hk 10000 (by omega) us vs (us.toList.map fun v => .iv (.v v)) (vs.toList.map fun v => .iv (.v v)) 0 b ⟨by simp, fun i x hx => ?_⟩ ⟨by simp, fun i x hx => ?_⟩ (by simp at hl ⊢; omega) (by simp at hm ⊢; omega) (by
          rw [List.drop_zero, List.drop_zero, List.take_of_length_le (by simp at hl ⊢; omega), List.take_of_length_le (by simp at hm ⊢; omega)]; exact e1)).1 h1 hi
        · have x1 : us.extract 0 (0 + ks.length) = us := by rw [← hl]; simp
          have x2 : vs.extract 0 (0 + ks.length) = vs := by rw [← hm]; simp
          rw [x1, x2] at key
          exact key
        · rw [List.getElem?_map] at hx
          cases hq : us.toList[i]? with
          | none => rw [hq] at hx; cases hx
          | some z => rw [hq] at hx; cases hx; rw [Array.getElem?_toList] at hq; simp [Array.getD_eq_getD_getElem?, hq]
        · rw [List.getElem?_map] at hx
          cases hq : vs.toList[i]? with
          | none => rw [hq] at hx; cases hx
          | some z => rw [hq] at hx; cases hx; rw [Array.getElem?_toList] at hq; simp [Array.getD_eq_getD_getElem?, hq]
      · rw [e2]
        constructor
        · intro e; congr 1; exact Array.ext' e
        · intro e; cases e; rfl
    · rw [h1] at g1; cases g1
  · rcases skOf_cases hy with ⟨vs, rfl, g1, g2, g3⟩ | ⟨k', g1, g2, g3, g4⟩
    · rw [h1] at g1; cases g1
    · obtain ⟨k0, hk0, hu⟩ := plainK_leaf hk h1
      rw [h2] at hk0
      simp only [List.cons.injEq, and_true] at hk0
      subst hk0
      rw [h2] at g2
      simp only [List.cons.injEq, and_true] at g2
      subst g2
      obtain ⟨b, e1, e2⟩ := eqCell_kd h3 g3
      exact ⟨b, eqCell_run (d := 9999) (by rw [hu]; cases k <;> rfl) e1 w, e2⟩
theorem run_findAsking {t : TypeId} {ks : List Kd} (hk : plainK P 20 t = some ks) (hi : infoSize P t = some ks.length) {x : Value} (hx : skOf x = some (isAggT P t, ks)) :
    ∀ (es : List MapEntry) (i : Nat), (∀ e ∈ es, skOf e.key = some (isAggT P t, ks)) →
      ((Instr.findAsking t x es i).run P w = .ok none w ∧ ∀ e ∈ es, e.key ≠ x) ∨
      ∃ j e, (Instr.findAsking t x es i).run P w = .ok (some (i + j, e.val)) w ∧ es[j]? = some e ∧ e.key = x
  | [], i, _ => .inl ⟨by simp [Instr.findAsking], by simp⟩
  | e :: es, i, hall => by
    obtain ⟨r, hr, hiff⟩ := key_eq (w := w) hk hi hx (hall e (by simp))
    cases r
    · have hne : e.key ≠ x := fun h => by have := hiff.2 h.symm; cases this
      rcases run_findAsking hk hi hx es (i + 1) (fun y hy => hall y (by simp [hy])) with ⟨h1, h2⟩ | ⟨j, e', h1, h2, h3⟩
      · left
        refine ⟨by simp [Instr.findAsking, hr, h1], fun y hy => ?_⟩
        rcases List.mem_cons.1 hy with rfl | hy
        · exact hne
        · exact h2 y hy
      · right
        exact ⟨j + 1, e', by simp [Instr.findAsking, hr, h1, Nat.add_assoc, Nat.add_comm 1 j], by simpa using h2, h3⟩
    · right
      exact ⟨0, e, by simp [Instr.findAsking, hr], rfl, (hiff.1 rfl).symm⟩
theorem sameNow_kd {k : Kd} {u v : Value} (hu : kdOf u = some k) (hv : kdOf v = some k) : ∃ b, Instr.sameNow (kdDesc k) u v = some b ∧ (b = true ↔ v = u) := by
  cases u <;> simp only [kdOf] at hu <;> (first | (cases hu; done) | skip) <;> cases hu <;> cases v <;> simp only [kdOf] at hv <;> (first | (cases hv; done) | skip)
  · exact ⟨_, rfl, by rw [beq_iff_eq, Value.bool.injEq]; exact ⟨Eq.symm, Eq.symm⟩⟩
  · cases hv; exact ⟨_, by simp only [kdDesc, Instr.sameNow, if_true]; rfl, by rw [beq_iff_eq, Value.int.injEq]; exact ⟨fun h => ⟨rfl, h.symm⟩, fun h => h.2.symm⟩⟩
  · exact ⟨_, rfl, by rw [bytes_beq, Value.string.injEq]; exact ⟨Eq.symm, Eq.symm⟩⟩
theorem run_findNow {k : Kd} {x : Value} (hx : kdOf x = some k) :
    ∀ (es : List MapEntry) (i : Nat), (∀ e ∈ es, kdOf e.key = some k) →
      (Instr.findNow (kdDesc k) x es i = some none ∧ ∀ e ∈ es, e.key ≠ x) ∨
      ∃ j e, Instr.findNow (kdDesc k) x es i = some (some (i + j, e.val)) ∧ es[j]? = some e ∧ e.key = x
  | [], i, _ => .inl ⟨by simp [Instr.findNow], by simp⟩
  | e :: es, i, hall => by
    obtain ⟨r, hr, hiff⟩ := sameNow_kd hx (hall e (by simp))
    cases r
    · have hne : e.key ≠ x := fun h => by have := hiff.2 h; cases this
      rcases run_findNow hx es (i + 1) (fun y hy => hall y (by simp [hy])) with ⟨h1, h2⟩ | ⟨j, e', h1, h2, h3⟩
      · left
        refine ⟨by simp only [Instr.findNow, hr]; exact h1, fun y hy => ?_⟩
        rcases List.mem_cons.1 hy with rfl | hy
        · exact hne
        · exact h2 y hy
      · right
        exact ⟨j + 1, e', by simp only [Instr.findNow, hr]; rw [h1, Nat.add_assoc, Nat.add_comm 1 j], by simpa using h2, h3⟩
    · right
      exact ⟨0, e, by simp only [Instr.findNow, hr]; rfl, rfl, hiff.1 rfl⟩
theorem run_findKey {t : TypeId} {ks : List Kd} (hk : plainK P 20 t = some ks) (hi : infoSize P t = some ks.length) {x : Value} (hx : skOf x = some (isAggT P t, ks))
    (es : List MapEntry) (hall : ∀ e ∈ es, skOf e.key = some (isAggT P t, ks)) :
    ((Instr.findKey t x es).run P w = .ok none w ∧ ∀ e ∈ es, e.key ≠ x) ∨
      ∃ j e, (Instr.findKey t x es).run P w = .ok (some (j, e.val)) w ∧ es[j]? = some e ∧ e.key = x := by
  by_cases hg : isAggT P t = true
  · have hd : ∃ dd, P.underlying t = some dd ∧ (∀ y z, Instr.sameNow dd y z = none) := by
      unfold isAggT at hg
      split at hg
      · rename_i hu; exact ⟨_, hu, fun y z => by simp [Instr.sameNow]⟩
      · rename_i hu; exact ⟨_, hu, fun y z => by simp [Instr.sameNow]⟩
      · cases hg
    obtain ⟨dd, hu, hs⟩ := hd
    have e : (Instr.findKey t x es).run P w = (Instr.findAsking t x es).run P w := by
      cases es with
      | nil => simp [Instr.findKey, Vm.run_underlying w hu, Instr.findNow, Instr.findAsking]
      | cons e es => simp [Instr.findKey, Vm.run_underlying w hu, Instr.findNow, hs]
    rw [e]
    rcases run_findAsking (w := w) hk hi hx es 0 hall with h | ⟨j, e', h1, h2, h3⟩
    · exact .inl h
    · exact .inr ⟨j, e', by simpa using h1, h2, h3⟩
  · have hg : isAggT P t = false := by simpa using hg
    obtain ⟨k, rfl, hu⟩ := plainK_leaf hk hg
    have kd : ∀ v, skOf v = some (isAggT P t, [k]) → kdOf v = some k := by
      intro v hv
      rw [hg] at hv
      rcases skOf_cases hv with ⟨cs, _, h1, _⟩ | ⟨k', _, h2, h3, _⟩
      · cases h1
      · simp only [List.cons.injEq, and_true] at h2; subst h2; exact h3
    have e : ∀ r, Instr.findNow (kdDesc k) x es 0 = some r → (Instr.findKey t x es).run P w = .ok r w := by
      intro r hr
      simp only [Instr.findKey, Sem.run_bind, Vm.run_underlying w hu, Result.andThen_ok, hr, Sem.run_pure]
    rcases run_findNow (kd x hx) es 0 (fun e he => kd _ (hall e he)) with ⟨h1, h2⟩ | ⟨j, e', h1, h2, h3⟩
    · exact .inl ⟨e _ h1, h2⟩
    · exact .inr ⟨j, e', by rw [e _ h1, Nat.zero_add], h2, h3⟩
end
end Go.Vm
end

/- Each operation on maps does what the abstract machine's does. -/
section
namespace Go.Vm
section
variable {P : Program} {w : World}
theorem check_part (em : Bool) : ∀ (d : Nat) (t : TypeId) (ks : List Kd), plainK P d t = some ks → ∀ (D : Nat), d ≤ D → ∀ (us : Array Value) (o : Nat), o + ks.length ≤ us.size →
    (isAggT P t = true → infoSize P t = some ks.length → (Instr.checkKey em D t (.agg (us.extract o (o + ks.length)))).run P w = .ok () w) ∧
    (infoSize P t = some ks.length → ∃ X, (part t us o).run P w = .ok X w ∧ (Instr.checkKey em D t X).run P w = .ok () w) := by
  intro d
  induction d with
  | zero => intro t ks h; cases h
  | succ d ih =>
    intro t ks hks D hD us o l1
    obtain ⟨D, rfl⟩ : ∃ D', D = D' + 1 := ⟨D - 1, by omega⟩
    unfold plainK at hks
    have leaf : ∀ (k : Kd), P.underlying t = some (kdDesc k) → ks = [k] →
        (isAggT P t = true → infoSize P t = some ks.length → (Instr.checkKey em (D + 1) t (.agg (us.extract o (o + ks.length)))).run P w = .ok () w) ∧
        (infoSize P t = some ks.length → ∃ X, (part t us o).run P w = .ok X w ∧ (Instr.checkKey em (D + 1) t X).run P w = .ok () w) := by
      rintro k hu rfl
      have hg : isAggT P t = false := by unfold isAggT; rw [hu]; cases k <;> rfl
      simp only [List.length_singleton] at l1 ⊢
      refine ⟨(by rw [hg]; intro h; cases h), fun _ => ⟨us.getD o undef, part_one hu hg (by omega) w, ?_⟩⟩
      rw [Instr.checkKey]
      simp only [Sem.run_bind, Vm.run_underlying w hu, Result.andThen_ok]
      cases k <;> rfl
    split at hks
    · rename_i hu; exact leaf .b hu (by simpa using hks.symm)
    · rename_i k hu; exact leaf (.i k) hu (by simpa using hks.symm)
    · rename_i hu; exact leaf .s hu (by simpa using hks.symm)
    · rename_i fs hu
      split at hks
      · cases hks
      · have hg : isAggT P t = true := by unfold isAggT; rw [hu]
        have fields : ∀ (l : List Field) (k0 ks : List Kd) (us : Array Value), ks.length ≤ us.size →
            l.foldlM (fun ks f => if f.name ≠ "_" ∧ f.offset = ks.length then (plainK P d f.type).bind fun q => if infoSize P f.type = some q.length then some (ks ++ q) else none else none) k0 = some ks →
            (∃ k3, ks = k0 ++ k3) ∧ (forIn l () fun f _ => do
              if f.name ≠ "_" then Instr.checkKey em D f.type (← part f.type us f.offset)
              pure (ForInStep.yield ()) : Sem Unit).run P w = .ok () w := by
          intro l
          induction l with
          | nil =>
            intro k0 ks us _ hf
            simp only [List.foldlM_nil, Option.pure_def, Option.some.injEq] at hf
            subst hf
            exact ⟨⟨[], by simp⟩, by simp⟩
          | cons f l ihl =>
            intro k0 ks us hl1 hf
            rw [List.foldlM_cons] at hf
            by_cases hc : f.name ≠ "_" ∧ f.offset = k0.length
            · rw [if_pos hc] at hf
              cases hp : plainK P d f.type with
              | none => simp [hp] at hf
              | some q =>
                simp only [hp, Option.bind_some] at hf
                by_cases hq : infoSize P f.type = some q.length
                · rw [if_pos hq] at hf
                  simp only [Option.bind_eq_bind, Option.bind_some] at hf
                  obtain ⟨⟨k3, hk3⟩, hrest⟩ := ihl (k0 ++ q) ks us hl1 hf
                  have hlen : k0.length + q.length ≤ us.size := by rw [hk3] at hl1; simp at hl1; omega
                  obtain ⟨X, p1, p2⟩ := (ih f.type q hp D (by omega) us k0.length hlen).2 hq
                  refine ⟨⟨q ++ k3, by rw [hk3, List.append_assoc]⟩, ?_⟩
                  simp only [List.forIn_cons, Sem.run_bind, hc.1, ne_eq, not_false_eq_true, if_true, hc.2, p1, p2, Result.andThen_ok, Sem.run_pure]
                  simpa using hrest
                · rw [if_neg hq] at hf; simp at hf
            · rw [if_neg hc] at hf; simp at hf
        have whole : infoSize P t = some ks.length → (Instr.checkKey em (D + 1) t (.agg (us.extract o (o + ks.length)))).run P w = .ok () w := by
          intro _
          rw [Instr.checkKey]
          simp only [Sem.run_bind, Vm.run_underlying w hu, Result.andThen_ok]
          rw [← Array.forIn_toList]
          have := (fields fs.toList [] ks (us.extract o (o + ks.length)) (by simp; omega) (by simpa using hks)).2
          simp at this ⊢
          exact congrArg (fun (r : Result Unit) => r.andThen fun _ w' => Result.ok () w') this
        exact ⟨fun _ => whole, fun hi => ⟨_, part_agg hu hg hi us o w, whole hi⟩⟩
    · cases hks
theorem run_check {t : TypeId} {ks : List Kd} (hk : plainK P 20 t = some ks) (hi : infoSize P t = some ks.length) {x : Value} (hx : skOf x = some (isAggT P t, ks)) (em : Bool) :
    (Instr.checkKey em 10000 t x).run P w = .ok () w := by
  rcases skOf_cases hx with ⟨us, rfl, h1, h2, h3⟩ | ⟨k, h1, h2, h3, h4⟩
  · have hl := mapM_len h2
    have := (check_part (w := w) em 20 t ks hk 10000 (by omega) us 0 (by simp at hl; omega)).1 h1 hi
    rw [show us.extract 0 (0 + ks.length) = us from by rw [← hl]; simp] at this
    exact this
  · obtain ⟨k0, hk0, hu⟩ := plainK_leaf hk h1
    rw [show (10000 : Nat) = 9999 + 1 from rfl, Instr.checkKey]
    simp only [Sem.run_bind, Vm.run_underlying w hu, Result.andThen_ok]
    cases k0 <;> rfl
end
end Go.Vm
end

/- Each operation on maps does what the abstract machine's does. -/
section
namespace Go.Vm
theorem getObj_map {P : Program} {w : World} {r : Nat} {es : Array MapEntry} {clock : Nat} (hb : w.heap[r]? = some (.map es clock)) : (getObj r).run P w = .ok (.map es clock) w := by
  simp [getObj, Sem.run, hb]
theorem setObj_map {P : Program} {w : World} {r : Nat} {es : Array MapEntry} {clock : Nat} (o : Obj) (hb : w.heap[r]? = some (.map es clock)) : (setObj r o).run P w = .ok () { w with heap := w.heap.setIfInBounds r o } := by
  simp [setObj, Sem.run, hb]
theorem skOf_kd {u : Value} {k : Kd} (h : kdOf u = some k) : skOf u = some (false, [k]) ∧ keyOf u = [u] := by
  have h1 := kdOf_inv h
  refine ⟨?_, by simp [keyOf, h1.1]⟩
  cases u <;> simp_all [kdOf, skOf]
section
variable {A : Nat → Prop} {ψ : Pl} {H : Hp} {w : World}
theorem keyCells : ∀ (cs : List AV) (L : List Value) (l : List (Kd × Value)), L.length = cs.length → (∀ i c, cs[i]? = some c → RAV A ψ H w c (L.getD i undef)) → cs.mapM keyCell = some l →
    L.mapM kdOf = some (l.map (·.1)) ∧ L = l.map (·.2) := by
  intro cs
  induction cs with
  | nil =>
    intro L l hl _ hm
    simp at hm; subst hm
    have : L = [] := List.eq_nil_of_length_eq_zero (by simpa using hl)
    subst this
    exact ⟨by simp, by simp⟩
  | cons c cs ih =>
    intro L l hl hc hm
    cases L with
    | nil => simp at hl
    | cons v L =>
      rw [List.mapM_cons] at hm
      cases hk : keyCell c with
      | none => simp [hk] at hm
      | some p =>
        cases hq : cs.mapM keyCell with
        | none => simp [hk, hq] at hm
        | some q =>
          simp [hk, hq] at hm
          subst hm
          obtain ⟨g1, g2⟩ := ih L q (by simpa using hl) (fun i c h => by simpa using hc (i + 1) c (by simpa using h)) hq
          have h0 := hc 0 c rfl
          simp only [List.getD_cons_zero] at h0
          unfold keyCell at hk
          split at hk
          · rename_i u
            simp only [Option.map_eq_some_iff] at hk
            obtain ⟨k, hk1, rfl⟩ := hk
            have := inv_v h0
            subst this
            refine ⟨?_, by simp [← g2]⟩
            rw [List.mapM_cons]
            simp [hk1, g1]
          · cases hk
theorem keyAV_inv {x : AV} {v : Value} {sk2 : Bool × List Kd} {kk : List Value} (h : RAV A ψ H w x v) (hk : keyAV x = some (sk2, kk)) : skOf v = some sk2 ∧ keyOf v = kk := by
  unfold keyAV at hk
  split at hk
  · rename_i u
    simp only [Option.map_eq_some_iff, Prod.mk.injEq] at hk
    obtain ⟨k, hk1, rfl, rfl⟩ := hk
    have := inv_v h
    subst this
    exact skOf_kd hk1
  · rename_i cs
    simp only [Option.map_eq_some_iff, Prod.mk.injEq] at hk
    obtain ⟨l, hl, rfl, rfl⟩ := hk
    obtain ⟨us, h1, h2, rfl⟩ := inv_agg h
    obtain ⟨g1, g2⟩ := keyCells cs us.toList l (by simpa using h1) (fun i c hc => by rw [toList_getD]; exact h2 i c hc) hl
    exact ⟨by simp [skOf, g1], by simp only [keyOf, Value.cells]; exact g2⟩
  · cases hk
theorem nodup_inj {α β : Type} {f : α → β} : ∀ {l : List α}, (l.map f).Nodup → ∀ x ∈ l, ∀ y ∈ l, f x = f y → x = y := by
  intro l
  induction l with
  | nil => intro _ x hx; cases hx
  | cons a l ih =>
    intro h x hx y hy he
    rw [List.map_cons, List.nodup_cons] at h
    rcases List.mem_cons.1 hx with rfl | hx'
    · rcases List.mem_cons.1 hy with rfl | hy'
      · rfl
      · exact absurd (List.mem_map.2 ⟨y, hy', he.symm⟩) h.1
    · rcases List.mem_cons.1 hy with rfl | hy'
      · exact absurd (List.mem_map.2 ⟨x, hx', he⟩) h.1
      · exact ih h.2 x hx' y hy' he
end
section
variable {P : Program} {E : En} {n : Nat} {ψ : Pl} {s : St} {a : Act} {w : World}
variable {dst : Option Nat} {ty : TypeId} {pos : String} {af : Array Edge} {g : Option (Nat × Bool)} {r : Rhs} {d : Nat} {K : St → AV → Prop}
theorem mapOf_inv (h : SimAt E n ψ s a w) {x : AV} {v : Value} (hx : RAV (Im E ψ s.hp) ψ s.hp w x v) {sk : Sk} {gm : List Value → Option (List IV)} (hm : s.mapOf x = some (sk, gm)) :
    (v = .map none ∧ ∀ k, gm k = none) ∨ ∃ b es clock, v = .map (some b) ∧ w.heap[b]? = some (.map es clock) ∧ RMap (Im E ψ s.hp) w sk gm es := by
  unfold St.mapOf at hm
  split at hm
  · rename_i id
    split at hm
    · rename_i sk' g' ho
      simp only [Option.some.injEq, Prod.mk.injEq] at hm
      obtain ⟨rfl, rfl⟩ := hm
      cases hx with
      | mpr _ b k o ho' hb =>
        obtain ⟨b', es, clock, h1, h2, _, h3⟩ := h.obs id _ ho
        rw [h1] at hb; cases hb
        exact .inr ⟨b, es, clock, rfl, h2, h3⟩
    · rename_i sk' g' ns ks ho
      simp only [Option.some.injEq, Prod.mk.injEq] at hm
      obtain ⟨rfl, rfl⟩ := hm
      cases hx with
      | mpr _ b k o ho' hb =>
        obtain ⟨b', es, clock, h1, h2, _, h3, _⟩ := h.obs id _ ho
        rw [h1] at hb; cases hb
        exact .inr ⟨b, es, clock, rfl, h2, h3⟩
    · cases hm
  · rename_i sk' g'
    simp only [Option.some.injEq, Prod.mk.injEq] at hm
    obtain ⟨rfl, rfl⟩ := hm
    cases hx with
    | iv _ _ hr =>
      cases hr with
      | mp _ _ b clock es vs hA hh hsk hin hno _ hg hrr =>
        refine .inr ⟨b, es, clock, rfl, hh, hsk, hin, hno, fun k c hc => ?_⟩
        obtain ⟨e, he, g1, g2, g3⟩ := hg k c hc
        refine ⟨e, he, g1, g2, fun i y hy => ?_⟩
        have := g3 i y hy
        rw [show e.val.cells.getD i undef = vs k i from by simp [Array.getD_eq_getD_getElem?, this]]
        exact hrr k c hc i y hy
      | mnil _ _ hn => exact .inl ⟨rfl, hn⟩
  · cases hm
theorem skT_inv {k e : TypeId} {sk : Sk} (h : skT P k e = some sk) : plainK P 20 k = some sk.2.1 ∧ infoSize P k = some sk.2.1.length ∧ sk.1 = isAggT P k ∧ sk.2.2 = isAggT P e := by
  unfold skT at h
  obtain ⟨l, hl, h⟩ := Option.bind_eq_some_iff.1 h
  split at h
  · rename_i hi
    split at h
    · simp only [Option.some.injEq] at h
      subst h
      exact ⟨hl, hi, rfl, rfl⟩
    · cases h
  · cases h
theorem sound_mkmap {t k e : TypeId} {sk : Sk} (hd : d < 1000) (h : SimAt E n ψ s a w) (hk : stp P d s K (.mkmap sk)) :
    Does P E n ⟨dst, .makeMap t none, ty, pos, af, g⟩ a w K := by
  simp only [stp] at hk
  have h1 := h.drop (id := d) hd
  have h2 := h1.new (o := .map sk fun _ => none) (p := some (w.heap.size, (0, 0))) hd (look_drop s d) (Ext.alloc w (.map #[] 0)) (fun b k e => by cases e; exact Nat.le_refl _)
    ⟨w.heap.size, #[], 0, by simp [upd], heap_alloc_new _ _, ⟨by simp, by simp⟩, by simp, by simp, by simp, fun k c hc => by cases hc⟩
  refine does_run (v := .map (some w.heap.size)) (w' := w.alloc (.map #[] 0)) ?_ hk h2 (.mpr d w.heap.size (0, 0) _ (by simp [look_add]; rfl) (by simp [upd]))
  simp [execOp, Instr.makeMap]
theorem packAV_rav {A : Nat → Prop} {H : Hp} {cs : List AV} {v : Value} {ag : Bool} (hg : isAggV v = ag) (hl : v.cells.size = cs.length) (hc : ∀ i x, cs[i]? = some x → RAV A ψ H w x (v.cells.getD i undef)) :
    RAV A ψ H w (packAV ag cs) v := by
  subst hg
  cases v with
  | agg us => exact .agg cs us hl hc
  | _ =>
    simp only [packAV, isAggV, Bool.false_eq_true, if_false]
    match cs, hl, hc with
    | [x], _, hc => exact hc 0 x rfl
    | [], hl, _ => simp [Value.cells] at hl
    | x :: y :: r, hl, _ => simp [Value.cells] at hl
theorem lkp_val0 {t k' e' : TypeId} {m k : Operand} {ok : Bool} {sk : Sk} {z : List AV} (hu : P.underlying t = some (.map k' e')) (hsk : skT P k' e' = some sk) (hz : zeroAV P e' = some z)
    (hza : ((P.info? e').bind (·.zero)).map isAggV = some (isAggT P e')) (h : SimAt E n ψ s a w) (hk : match s.mapOf (s.ev m), keyAV (s.ev k) with
      | some (sk1, g), some (sk2, kk) => sk1 = sk ∧ sk2 = (sk.1, sk.2.1) ∧ K s (lkR z sk.2.2 ok (g kk))
      | _, _ => False) :
    ∃ v av, (∀ u, Ext w u → (execOp a.eval ⟨dst, .lookup t m k ok, ty, pos, af, g⟩).run P u = .ok (.value v) u) ∧ K s av ∧ RAV (Im E ψ s.hp) ψ s.hp w av v := by
  obtain ⟨p1, p2, p3, p4⟩ := skT_inv hsk
  have hm := h.ev m
  have hkv := h.ev k
  split at hk
  · rename_i sk1 gm sk2 kk hmo hkey
    obtain ⟨rfl, rfl, hk⟩ := hk
    obtain ⟨hk1, hk2⟩ := keyAV_inv hkv hkey
    rw [p3] at hk1
    -- what lies in the map
    have found : ∀ es : Array MapEntry, (a.eval m = .map none ∧ es = #[] ∨ ∃ b clock, a.eval m = .map (some b) ∧ w.heap[b]? = some (.map es clock)) → RMap (Im E ψ s.hp) w sk1 gm es →
        ∃ v, (∀ u, Ext w u → (execOp a.eval ⟨dst, .lookup t m k ok, ty, pos, af, g⟩).run P u = .ok (.value v) u) ∧ RAV (Im E ψ s.hp) ψ s.hp w (lkR z sk1.2.2 ok (gm kk)) v := by
      intro es hes hr
      have hall : ∀ e ∈ es.toList, skOf e.key = some (isAggT P k', sk1.2.1) := fun e he => by rw [← p3]; exact (hr.1 e he).1
      have fin : ∀ u, Ext w u → ∀ r v, (Instr.findKey k' (a.eval k) es.toList).run P u = .ok r u → (match r with | some (_, v') => v' = v ∧ True | none => (zeroValue e').run P u = .ok v u) →
          (execOp a.eval ⟨dst, .lookup t m k ok, ty, pos, af, g⟩).run P u = .ok (.value (if ok then .tuple #[v, .bool r.isSome] else v)) u := by
        intro u hx r v h1 h2
        simp only [execOp, Sem.run_bind]
        have : (Instr.lookup t (a.eval m) (a.eval k) ok).run P u = .ok (if ok then .tuple #[v, .bool r.isSome] else v) u := by
          unfold Instr.lookup
          rw [Sem.run_bind, Vm.run_underlying u hu, Result.andThen_ok]
          rcases hes with ⟨e1, rfl⟩ | ⟨b, clock, e1, e2⟩
          · rw [e1]
            simp only [Sem.run_bind, Sem.run_pure, run_check p1 p2 hk1, Result.andThen_ok, h1]
            cases r with
            | none => simp only [Sem.run_bind, h2, Result.andThen_ok, Sem.run_pure]; cases ok <;> rfl
            | some p => obtain ⟨i, v'⟩ := p; obtain ⟨rfl, _⟩ := h2; simp only [Sem.run_pure, Result.andThen_ok]; cases ok <;> rfl
          rw [e1]
          simp only [Sem.run_bind, Sem.run_pure, getObj_map (hx.heap e2), run_check p1 p2 hk1 es.isEmpty, Result.andThen_ok, h1]
          cases r with
          | none => simp only [Sem.run_bind, h2, Result.andThen_ok, Sem.run_pure]; cases ok <;> rfl
          | some p => obtain ⟨i, v'⟩ := p; obtain ⟨rfl, _⟩ := h2; simp only [Sem.run_pure, Result.andThen_ok]; cases ok <;> rfl
        rw [this]; rfl
      by_cases hex : ∃ e ∈ es.toList, e.key = a.eval k
      · obtain ⟨e, he, h3⟩ := hex
        obtain ⟨c, hc⟩ := hr.2.1 e he
        rw [h3, hk2] at hc
        obtain ⟨e2, he2, g1, g2, g3⟩ := hr.2.2.2 kk c hc
        have : e2 = e := nodup_inj hr.2.2.1 e2 he2 e he (by rw [g1, h3, hk2])
        subst this
        refine ⟨if ok then .tuple #[e2.val, .bool true] else e2.val, fun u hx => ?_, ?_⟩
        · rcases run_findKey (w := u) p1 p2 hk1 es.toList hall with ⟨h1, h2⟩ | ⟨j, e, h1, h2, h4⟩
          · exact absurd h3 (h2 e2 he)
          · have : e = e2 := nodup_inj hr.2.2.1 e (List.mem_of_getElem? h2) e2 he (by rw [h3, h4])
            subst this
            exact fin u hx (some (j, e.val)) e.val h1 ⟨rfl, trivial⟩
        rw [hc]
        have hp : RAV (Im E ψ s.hp) ψ s.hp w (packAV sk1.2.2 (c.map .iv)) e2.val :=
          packAV_rav (hr.1 e2 he2).2 (by simpa using g2) fun i x hx => by
            rw [List.getElem?_map] at hx
            cases hi : c[i]? with
            | none => rw [hi] at hx; cases hx
            | some y => rw [hi] at hx; cases hx; exact .iv _ _ (g3 i y hi)
        cases ok
        · exact hp
        · refine .tup _ _ rfl fun i c hc => ?_
          match i, hc with
          | 0, hc => cases hc; exact hp
          | 1, hc => cases hc; exact rav_v rfl
      · have hno : gm kk = none := by
          cases hc : gm kk with
          | none => rfl
          | some c =>
            obtain ⟨e, he, g1, _⟩ := hr.2.2.2 kk c hc
            exact absurd ⟨e, he, key_inj (hall e he) hk1 (by rw [g1, hk2])⟩ hex
        obtain ⟨i, zv, z1, z2, rfl⟩ := zeroAV_some hz
        rw [z1] at hza
        simp only [Option.bind_some, z2, Option.map_some, Option.some.injEq] at hza
        refine ⟨if ok then .tuple #[zv, .bool false] else zv, fun u hx => ?_, ?_⟩
        · rcases run_findKey (w := u) p1 p2 hk1 es.toList hall with ⟨h1, h2⟩ | ⟨j, e, h1, h2, h4⟩
          · exact fin u hx none zv h1 (run_zero z1 z2 u)
          · exact absurd ⟨e, List.mem_of_getElem? h2, h4⟩ hex
        rw [hno]
        have hp : RAV (Im E ψ s.hp) ψ s.hp w (packAV sk1.2.2 (zcells zv.cells.toList (cellSz P 20 e'))) zv :=
          packAV_rav (by rw [p4]; exact hza) (by rw [zcells_length]; simp) fun i x hx => by
            obtain ⟨sz, e⟩ := zcells_get _ _ _ _ hx
            rw [e, toList_getD]
            exact rav_zav _ _
        cases ok
        · exact hp
        · refine .tup _ _ rfl fun i c hc => ?_
          match i, hc with
          | 0, hc => cases hc; exact hp
          | 1, hc => cases hc; exact rav_v rfl
    rcases mapOf_inv h hm hmo with ⟨hv, hn⟩ | ⟨b, es, clock, hv, hh, hr⟩
    · obtain ⟨v, h1, h2⟩ := found #[] (.inl ⟨hv, rfl⟩) ⟨by simp, by simp, by simp, fun k c hc => by rw [hn] at hc; cases hc⟩
      exact ⟨v, _, h1, hk, h2⟩
    · obtain ⟨v, h1, h2⟩ := found es (.inr ⟨b, clock, hv, hh⟩) hr
      exact ⟨v, _, h1, hk, h2⟩
  · exact hk.elim
end
end Go.Vm
end
